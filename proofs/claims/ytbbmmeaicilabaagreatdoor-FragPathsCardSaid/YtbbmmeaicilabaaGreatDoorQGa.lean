/- Plain trees: a query's path as Lean data (steps and expressions), their weights and equality. Conditions: none. -/
import Derived.RowKit
import Derived.WalkKit
import Derived.WalkSpells
import Derived.WalkLawsBesides
import Derived.Lib.Hide
import Derived.Maps.AppendAt
import Derived.Laws.OwnMore
import Derived.WideShapes
import Derived.Deep.AppendLies
set_option linter.unusedVariables false
set_option linter.unusedSimpArgs false
namespace Go.Proofs.YtbbmmeaicilabaaGreatDoor
mutual
inductive Expr where
  | mk (op : Int) (args : List Expr) (path : List Step) (attr : ByteArray) (cmp : Int) (text : ByteArray) (num : Int)
inductive Step where
  | mk (axis test : Int) (name : ByteArray) (wh : List Expr)
end
instance : Inhabited Expr := ⟨.mk 0 [] [] ByteArray.empty 0 ByteArray.empty 0⟩
instance : Inhabited Step := ⟨.mk 0 0 ByteArray.empty []⟩
def Step.axis : Step → Int | .mk a _ _ _ => a
def Step.test : Step → Int | .mk _ a _ _ => a
def Step.name : Step → ByteArray | .mk _ _ a _ => a
def Step.wh : Step → List Expr | .mk _ _ _ w => w
def Expr.op : Expr → Int | .mk a _ _ _ _ _ _ => a
def Expr.args : Expr → List Expr | .mk _ a _ _ _ _ _ => a
def Expr.path : Expr → List Step | .mk _ _ a _ _ _ _ => a
def Expr.attr : Expr → ByteArray | .mk _ _ _ a _ _ _ => a
def Expr.cmp : Expr → Int | .mk _ _ _ _ a _ _ => a
def Expr.text : Expr → ByteArray | .mk _ _ _ _ _ a _ => a
def Expr.num : Expr → Int | .mk _ _ _ _ _ _ a => a

/-! weights: as the statements' own bound counts them -/
mutual
def wtE : Expr → Nat | .mk _ xs ps at' _ tx _ => 1 + at'.size + tx.size + wtEs xs + wtP ps
def wtEs : List Expr → Nat | [] => 0 | e :: r => wtE e + wtEs r
def wtS : Step → Nat | .mk _ _ nm wh => 1 + nm.size + wtEs wh
def wtP : List Step → Nat | [] => 0 | s :: r => wtS s + wtP r
end
theorem wtE_pos (e : Expr) : 1 ≤ wtE e := by cases e; simp only [wtE]; omega
theorem wtS_pos (e : Step) : 1 ≤ wtS e := by cases e; simp only [wtS]; omega
theorem wtEs_len (l : List Expr) : l.length ≤ wtEs l := by
  induction l with
  | nil => simp
  | cons x r ih => have := wtE_pos x; simp only [List.length_cons, wtEs]; omega
theorem wtP_len (l : List Step) : l.length ≤ wtP l := by
  induction l with
  | nil => simp
  | cons x r ih => have := wtS_pos x; simp only [List.length_cons, wtP]; omega
theorem wtEs_get (l : List Expr) (k : Nat) (h : k < l.length) : wtE l[k] ≤ wtEs l := by
  induction l generalizing k with
  | nil => simp at h
  | cons x r ih =>
    cases k with
    | zero => simp only [List.getElem_cons_zero, wtEs]; omega
    | succ k => have := ih k (by simpa using h); simp only [List.getElem_cons_succ, wtEs]; omega
theorem wtP_get (l : List Step) (k : Nat) (h : k < l.length) : wtS l[k] ≤ wtP l := by
  induction l generalizing k with
  | nil => simp at h
  | cons x r ih =>
    cases k with
    | zero => simp only [List.getElem_cons_zero, wtP]; omega
    | succ k => have := ih k (by simpa using h); simp only [List.getElem_cons_succ, wtP]; omega
theorem wtEs_append (a b : List Expr) : wtEs (a ++ b) = wtEs a + wtEs b := by
  induction a with
  | nil => simp [wtEs]
  | cons x r ih => simp only [List.cons_append, wtEs, ih]; omega
theorem wtP_append (a b : List Step) : wtP (a ++ b) = wtP a + wtP b := by
  induction a with
  | nil => simp [wtP]
  | cons x r ih => simp only [List.cons_append, wtP, ih]; omega
theorem wtEs_take (l : List Expr) (k : Nat) (h : k < l.length) : wtEs (l.take (k + 1)) = wtEs (l.take k) + wtE l[k] := by
  rw [← List.take_append_getElem h, wtEs_append]; simp [wtEs]
theorem wtP_take (l : List Step) (k : Nat) (h : k < l.length) : wtP (l.take (k + 1)) = wtP (l.take k) + wtS l[k] := by
  rw [← List.take_append_getElem h, wtP_append]; simp [wtP]
theorem wtEs_take_le (l : List Expr) (k : Nat) : wtEs (l.take k) ≤ wtEs l := by
  have := wtEs_append (l.take k) (l.drop k); rw [List.take_append_drop] at this; omega
theorem wtP_take_le (l : List Step) (k : Nat) : wtP (l.take k) ≤ wtP l := by
  have := wtP_append (l.take k) (l.drop k); rw [List.take_append_drop] at this; omega

/-! equality in all fields -/
mutual
def eqE : Expr → Expr → Bool
  | .mk o xs ps a c t n, .mk o' xs' ps' a' c' t' n' => o == o' && eqEs xs xs' && eqP ps ps' && decide (a = a') && c == c' && decide (t = t') && n == n'
def eqEs : List Expr → List Expr → Bool
  | [], [] => true
  | x :: r, y :: s => eqE x y && eqEs r s
  | _, _ => false
def eqS : Step → Step → Bool
  | .mk a t n w, .mk a' t' n' w' => a == a' && t == t' && decide (n = n') && eqEs w w'
def eqP : List Step → List Step → Bool
  | [], [] => true
  | x :: r, y :: s => eqS x y && eqP r s
  | _, _ => false
end
mutual
theorem eqE_iff : ∀ x y : Expr, eqE x y = true ↔ x = y
  | .mk o xs ps a c t n, .mk o' xs' ps' a' c' t' n' => by
    simp only [eqE, Bool.and_eq_true, beq_iff_eq, decide_eq_true_eq, eqEs_iff xs xs', eqP_iff ps ps', Expr.mk.injEq, and_assoc]
theorem eqEs_iff : ∀ x y : List Expr, eqEs x y = true ↔ x = y
  | [], [] => by simp [eqEs]
  | x :: r, y :: s => by simp only [eqEs, Bool.and_eq_true, eqE_iff x y, eqEs_iff r s, List.cons.injEq]
  | [], _ :: _ => by simp [eqEs]
  | _ :: _, [] => by simp [eqEs]
theorem eqS_iff : ∀ x y : Step, eqS x y = true ↔ x = y
  | .mk a t n w, .mk a' t' n' w' => by
    simp only [eqS, Bool.and_eq_true, beq_iff_eq, decide_eq_true_eq, eqEs_iff w w', Step.mk.injEq, and_assoc]
theorem eqP_iff : ∀ x y : List Step, eqP x y = true ↔ x = y
  | [], [] => by simp [eqP]
  | x :: r, y :: s => by simp only [eqP, Bool.and_eq_true, eqS_iff x y, eqP_iff r s, List.cons.injEq]
  | [], _ :: _ => by simp [eqP]
  | _ :: _, [] => by simp [eqP]
end
theorem eqE_refl (x : Expr) : eqE x x = true := (eqE_iff x x).2 rfl
theorem eqEs_refl (x : List Expr) : eqEs x x = true := (eqEs_iff x x).2 rfl
theorem eqP_refl (x : List Step) : eqP x x = true := (eqP_iff x x).2 rfl
end Go.Proofs.YtbbmmeaicilabaaGreatDoor

/- How paths and expressions lie in memory: rows of cells that are read (with the blocks they may lie in), rows of the call's own. Conditions: none. -/
namespace Go.Proofs.YtbbmmeaicilabaaGreatDoor
open Go.RowKit

/-- what the walk needs behind a call that only made memory -/
theorem bcell {W w1 : World} (hb : Below W.heap.size W w1) : (∀ b o, b < W.heap.size → w1.cell? ⟨b, o, none⟩ = W.cell? ⟨b, o, none⟩) ∧ (∀ b o, b < W.heap.size → w1.frozen? ⟨b, o, none⟩ = W.frozen? ⟨b, o, none⟩) :=
  ⟨fun b o h => hb.cell (p := ⟨b, o, none⟩) h, fun b o h => hb.frozen (p := ⟨b, o, none⟩) h⟩
theorem cell_lt {w : World} {a : Addr} {v : Value} (h : w.cell? a = some v) : a.block < w.heap.size := by
  unfold World.cell? at h
  rcases Nat.lt_or_ge a.block w.heap.size with h' | h'
  · exact h'
  · simp [Array.getElem?_eq_none h'] at h
theorem cell_same {w w1 : World} {a : Addr} (h : w1.heap[a.block]? = w.heap[a.block]?) : w1.cell? a = w.cell? a := by
  unfold World.cell?; rw [h]

theorem frozen_same {w w1 : World} {a : Addr} (h : w1.heap[a.block]? = w.heap[a.block]?) : w1.frozen? a = w.frozen? a := by
  unfold World.frozen?; rw [h]

theorem str_eq (a b : ByteArray) : (a = b) = (a.toList = b.toList) := by
  apply propext; constructor
  · intro h; rw [h]
  · intro h; rw [ByteArray.toList_eq, ByteArray.toList_eq] at h; exact WideShapes.bytes_inj h
theorem below_dn {B n : Nat} {a w : World} (h : Below B a w) : Below B a (w.drewN n) := ⟨h.os, h.tape, h.output, h.size, h.block⟩
/-- what has changed lies in blocks of p, or is new -/
structure Chg (p : Nat → Prop) (w w' : World) : Prop where
  os : w'.os = w.os
  tape : w'.tape = w.tape
  output : w'.output = w.output
  size : w.heap.size ≤ w'.heap.size
  block : ∀ k, k < w.heap.size → ¬ p k → w'.heap[k]? = w.heap[k]?
theorem Chg.refl (p : Nat → Prop) (w : World) : Chg p w w := ⟨rfl, rfl, rfl, Nat.le_refl _, fun _ _ _ => rfl⟩
theorem Chg.trans {p : Nat → Prop} {a b c : World} (h : Chg p a b) (k : Chg p b c) : Chg p a c :=
  ⟨k.os.trans h.os, k.tape.trans h.tape, k.output.trans h.output, Nat.le_trans h.size k.size, fun i hi hp => (k.block i (Nat.lt_of_lt_of_le hi h.size) hp).trans (h.block i hi hp)⟩
theorem Chg.al {p : Nat → Prop} {a b : World} {o : Obj} (h : Chg p a b) : Chg p a (b.alloc o) :=
  ⟨h.os, h.tape, h.output, by simp; have := h.size; omega, fun i hi hp => (Below.heap_alloc b o i (Nat.lt_of_lt_of_le hi h.size)).trans (h.block i hi hp)⟩
theorem Chg.set {p : Nat → Prop} {a b : World} {ad : Addr} {u : Value} (hp : p ad.block) (h : Chg p a b) : Chg p a (b.setCell ad u) :=
  ⟨h.os, h.tape, h.output, by rw [World.setCell]; simp; exact h.size, fun i hi hq => (Below.heap_setCell b ad u i (fun e => hq (e ▸ hp))).trans (h.block i hi hq)⟩
theorem Chg.dr {p : Nat → Prop} {a b : World} (h : Chg p a b) : Chg p a b.drew := ⟨h.os, h.tape, h.output, h.size, h.block⟩
theorem Chg.dn {p : Nat → Prop} {a b : World} {n : Nat} (h : Chg p a b) : Chg p a (b.drewN n) := ⟨h.os, h.tape, h.output, h.size, h.block⟩
theorem Chg.of_below {p : Nat → Prop} {w w' : World} (h : Below w.heap.size w w') : Chg p w w' := ⟨h.os, h.tape, h.output, h.size, fun k hk _ => h.block k hk⟩
theorem Chg.below {p : Nat → Prop} {B : Nat} {w w' : World} (h : Chg p w w') (hB : B ≤ w.heap.size) (hp : ∀ k, p k → B ≤ k) : Below B w w' :=
  ⟨h.os, h.tape, h.output, h.size, fun k hk => h.block k (by omega) (fun hh => by have := hp k hh; omega)⟩
theorem Chg.mono {p q : Nat → Prop} {w w' : World} (hpq : ∀ k, p k → q k) (h : Chg p w w') : Chg q w w' := ⟨h.os, h.tape, h.output, h.size, fun k hk hn => h.block k hk (fun hh => hn (hpq k hh))⟩
theorem empty_toList : ByteArray.empty.toList = [] := by rw [ByteArray.toList_eq]; rfl
/-- n items of 'size' cells from A on, in blocks that are ok; none is frozen. -/
def Lay (w : World) (ok : Nat → Prop) (A : Option Addr) (size n : Nat) (f : Nat → List Value) : Prop :=
  n ≤ 9223372036854775807 ∧ (0 < n → ∃ b off, A = some ⟨b, off, none⟩ ∧ ok b ∧ b < w.heap.size ∧ ∀ j, j < n → ∀ i u, (f j)[i]? = some u → w.cell? ⟨b, off + j * size + i, none⟩ = some u ∧ w.frozen? ⟨b, off + j * size + i, none⟩ = false)
theorem Lay.mono {w : World} {ok ok' : Nat → Prop} {A : Option Addr} {size n : Nat} {f : Nat → List Value} (hk : ∀ k, ok k → ok' k) (h : Lay w ok A size n f) : Lay w ok' A size n f := by
  refine ⟨h.1, fun hn => ?_⟩
  obtain ⟨b, off, e, ho, hlt, hc⟩ := h.2 hn
  exact ⟨b, off, e, hk b ho, hlt, hc⟩
theorem Lay.move {w w1 : World} {ok : Nat → Prop} {A : Option Addr} {size n : Nat} {f : Nat → List Value} (hs : w.heap.size ≤ w1.heap.size) (hm : ∀ k, ok k → k < w.heap.size → w1.heap[k]? = w.heap[k]?) (h : Lay w ok A size n f) : Lay w1 (fun k => ok k ∧ k < w.heap.size) A size n f := by
  refine ⟨h.1, fun hn => ?_⟩
  obtain ⟨b, off, e, ho, hlt, hc⟩ := h.2 hn
  exact ⟨b, off, e, ⟨ho, hlt⟩, by omega, fun j hj i u hu => by rw [cell_same (a := ⟨b, off + j * size + i, none⟩) (hm b ho hlt), frozen_same (a := ⟨b, off + j * size + i, none⟩) (hm b ho hlt)]; exact hc j hj i u hu⟩

mutual
inductive RE (w : World) (ok : Nat → Prop) : Expr → List Value → Prop
  | mk (op : Int) (xs : List Expr) (ps : List Step) (at' : ByteArray) (cm : Int) (tx : ByteArray) (nu : Int) (Aa : Option Addr) (ca : Nat) (As : Option Addr) (cp : Nat) (fa fs : Nat → List Value)
    (hla : Lay w ok Aa 7 xs.length fa) (hra : ∀ j p, xs[j]? = some p → RE w ok p (fa j)) (hls : Lay w ok As 4 ps.length fs) (hrs : ∀ j p, ps[j]? = some p → RS w ok p (fs j)) :
    RE w ok (.mk op xs ps at' cm tx nu) [.int .i64 op, .slice Aa xs.length ca, .slice As ps.length cp, .string at', .int .i64 cm, .string tx, .int .i64 nu]
inductive RS (w : World) (ok : Nat → Prop) : Step → List Value → Prop
  | mk (ax te : Int) (nm : ByteArray) (wh : List Expr) (Aw : Option Addr) (cw : Nat) (fw : Nat → List Value)
    (hlw : Lay w ok Aw 7 wh.length fw) (hrw : ∀ j p, wh[j]? = some p → RE w ok p (fw j)) :
    RS w ok (.mk ax te nm wh) [.int .i64 ax, .int .i64 te, .string nm, .slice Aw wh.length cw]
end
mutual
theorem RE.mono {w : World} {ok ok' : Nat → Prop} (hk : ∀ k, ok k → ok' k) : ∀ {e cs}, RE w ok e cs → RE w ok' e cs
  | _, _, .mk op xs ps at' cm tx nu Aa ca As cp fa fs hla hra hls hrs => .mk op xs ps at' cm tx nu Aa ca As cp fa fs (hla.mono hk) (fun j p h => (hra j p h).mono hk) (hls.mono hk) (fun j p h => (hrs j p h).mono hk)
theorem RS.mono {w : World} {ok ok' : Nat → Prop} (hk : ∀ k, ok k → ok' k) : ∀ {e cs}, RS w ok e cs → RS w ok' e cs
  | _, _, .mk ax te nm wh Aw cw fw hlw hrw => .mk ax te nm wh Aw cw fw (hlw.mono hk) (fun j p h => (hrw j p h).mono hk)
end
mutual
theorem RE.move {w w1 : World} {ok : Nat → Prop} (hs : w.heap.size ≤ w1.heap.size) (hm : ∀ k, ok k → k < w.heap.size → w1.heap[k]? = w.heap[k]?) : ∀ {e cs}, RE w ok e cs → RE w1 (fun k => ok k ∧ k < w.heap.size) e cs
  | _, _, .mk op xs ps at' cm tx nu Aa ca As cp fa fs hla hra hls hrs => .mk op xs ps at' cm tx nu Aa ca As cp fa fs (hla.move hs hm) (fun j p h => (hra j p h).move hs hm) (hls.move hs hm) (fun j p h => (hrs j p h).move hs hm)
theorem RS.move {w w1 : World} {ok : Nat → Prop} (hs : w.heap.size ≤ w1.heap.size) (hm : ∀ k, ok k → k < w.heap.size → w1.heap[k]? = w.heap[k]?) : ∀ {e cs}, RS w ok e cs → RS w1 (fun k => ok k ∧ k < w.heap.size) e cs
  | _, _, .mk ax te nm wh Aw cw fw hlw hrw => .mk ax te nm wh Aw cw fw (hlw.move hs hm) (fun j p h => (hrw j p h).move hs hm)
end
theorem RE.len {w : World} {ok : Nat → Prop} {e : Expr} {cs : List Value} (h : RE w ok e cs) : cs.length = 7 := by cases h; rfl
theorem RS.len {w : World} {ok : Nat → Prop} {e : Step} {cs : List Value} (h : RS w ok e cs) : cs.length = 4 := by cases h; rfl
theorem RE.one {w : World} {ok : Nat → Prop} {e : Expr} {cs : List Value} (h : RE w ok e cs) : ∀ u ∈ cs, u.oneCell' = true := by cases h; simp [Value.oneCell']
theorem RS.one {w : World} {ok : Nat → Prop} {e : Step} {cs : List Value} (h : RS w ok e cs) : ∀ u ∈ cs, u.oneCell' = true := by cases h; simp [Value.oneCell']

/-- A kind of items: so many cells; how they lie. -/
structure Knd (α : Type) where
  sz : Nat
  K : World → (Nat → Prop) → α → List Value → Prop
  pos : 0 < sz
  len : ∀ {w ok x cs}, K w ok x cs → cs.length = sz
  one : ∀ {w ok x cs}, K w ok x cs → ∀ u ∈ cs, u.oneCell' = true
  mono : ∀ {w : World} {ok ok' : Nat → Prop} {x cs}, (∀ k, ok k → ok' k) → K w ok x cs → K w ok' x cs
  move : ∀ {w w1 : World} {ok : Nat → Prop} {x cs}, w.heap.size ≤ w1.heap.size → (∀ k, ok k → k < w.heap.size → w1.heap[k]? = w.heap[k]?) → K w ok x cs → K w1 (fun k => ok k ∧ k < w.heap.size) x cs
def kE : Knd Expr := { sz := 7, K := RE, pos := by decide, len := RE.len, one := RE.one, mono := fun h x => RE.mono h x, move := fun a b x => RE.move a b x }
def kS : Knd Step := { sz := 4, K := RS, pos := by decide, len := RS.len, one := RS.one, mono := fun h x => RS.mono h x, move := fun a b x => RS.move a b x }

section
variable {α : Type} (d : Knd α)
theorem Knd.below {d : Knd α} {w w1 : World} {ok : Nat → Prop} {x : α} {cs : List Value} (hb : Below w.heap.size w w1) (h : d.K w ok x cs) : d.K w1 ok x cs :=
  d.mono (fun _ hk => hk.1) (d.move hb.size (fun k _ hk => hb.block k hk) h)
theorem RE.al {w : World} {ok : Nat → Prop} {x : Expr} {cs : List Value} {o : Obj} (h : RE w ok x cs) : RE (w.alloc o) ok x cs := Knd.below (d := kE) ((Below.refl _ _).alloc (Nat.le_refl _) _) h
theorem RS.al {w : World} {ok : Nat → Prop} {x : Step} {cs : List Value} {o : Obj} (h : RS w ok x cs) : RS (w.alloc o) ok x cs := Knd.below (d := kS) ((Below.refl _ _).alloc (Nat.le_refl _) _) h
theorem RE.bel {w w1 : World} {ok : Nat → Prop} {x : Expr} {cs : List Value} (hb : Below w.heap.size w w1) (h : RE w ok x cs) : RE w1 ok x cs := Knd.below (d := kE) hb h
theorem RS.bel {w w1 : World} {ok : Nat → Prop} {x : Step} {cs : List Value} (hb : Below w.heap.size w w1) (h : RS w ok x cs) : RS w1 ok x cs := Knd.below (d := kS) hb h
/-- what was there, behind blocks made and a call that made memory -/
theorem al1 {B : Nat} {w W1 : World} {o : Obj} (hB : B ≤ w.heap.size) (h : Below (w.alloc o).heap.size (w.alloc o) W1) : Below B w W1 := (((Below.refl _ _).alloc (Nat.le_refl _) _).trans (h.mono (by simp))).mono hB
theorem al2 {B : Nat} {w W1 : World} {o o2 : Obj} (hB : B ≤ w.heap.size) (h : Below ((w.alloc o).alloc o2).heap.size ((w.alloc o).alloc o2) W1) : Below B w W1 := al1 hB (al1 (Nat.le_refl _) h)
theorem al3 {B : Nat} {w W1 : World} {o o2 o3 : Obj} (hB : B ≤ w.heap.size) (h : Below (((w.alloc o).alloc o2).alloc o3).heap.size (((w.alloc o).alloc o2).alloc o3) W1) : Below B w W1 := al1 hB (al2 (Nat.le_refl _) h)
theorem bl1 {B : Nat} {w : World} {o : Obj} (hB : B ≤ w.heap.size) : Below B w (w.alloc o) := (Below.refl _ _).alloc hB _
theorem bl2 {B : Nat} {w : World} {o o2 : Obj} (hB : B ≤ w.heap.size) : Below B w ((w.alloc o).alloc o2) := (bl1 hB).trans (bl1 (by simp; omega))
theorem RE.chg {p ok : Nat → Prop} {w w1 : World} {x : Expr} {cs : List Value} (hc : Chg p w w1) (hp : ∀ k, ok k → ¬ p k) (h : RE w ok x cs) : RE w1 ok x cs := RE.mono (fun _ hk => hk.1) (RE.move hc.size (fun k hk hlt => hc.block k hlt (hp k hk)) h)
theorem RS.chg {p ok : Nat → Prop} {w w1 : World} {x : Step} {cs : List Value} (hc : Chg p w w1) (hp : ∀ k, ok k → ¬ p k) (h : RS w ok x cs) : RS w1 ok x cs := RS.mono (fun _ hk => hk.1) (RS.move hc.size (fun k hk hlt => hc.block k hlt (hp k hk)) h)
/-- A row of items that is read. -/
def RowK (w : World) (ok : Nat → Prop) (A : Option Addr) (xs : List α) : Prop := ∃ f, Lay w ok A d.sz xs.length f ∧ ∀ j p, xs[j]? = some p → d.K w ok p (f j)
variable {d : Knd α} {w w1 : World} {ok ok' : Nat → Prop} {A : Option Addr} {xs : List α}
theorem RowK.mono (hk : ∀ k, ok k → ok' k) (h : RowK d w ok A xs) : RowK d w ok' A xs := by
  obtain ⟨f, hl, hr⟩ := h
  exact ⟨f, hl.mono hk, fun j p hj => d.mono hk (hr j p hj)⟩
theorem RowK.move (hs : w.heap.size ≤ w1.heap.size) (hm : ∀ k, ok k → k < w.heap.size → w1.heap[k]? = w.heap[k]?) (h : RowK d w ok A xs) : RowK d w1 (fun k => ok k ∧ k < w.heap.size) A xs := by
  obtain ⟨f, hl, hr⟩ := h
  exact ⟨f, hl.move hs hm, fun j p hj => d.move hs hm (hr j p hj)⟩
theorem RowK.below (hb : Below w.heap.size w w1) (h : RowK d w ok A xs) : RowK d w1 ok A xs := RowK.mono (fun _ hk => hk.1) (RowK.move hb.size (fun k _ hk => hb.block k hk) h)
theorem RowK.chg {p : Nat → Prop} (hc : Chg p w w1) (hp : ∀ k, ok k → ¬ p k) (h : RowK d w ok A xs) : RowK d w1 ok A xs := RowK.mono (fun _ hk => hk.1) (RowK.move hc.size (fun k hk hlt => hc.block k hlt (hp k hk)) h)
theorem RowK.al {o : Obj} (h : RowK d w ok A xs) : RowK d (w.alloc o) ok A xs := h.below ((Below.refl _ _).alloc (Nat.le_refl _) _)
theorem RowK.nil (w : World) (ok : Nat → Prop) (A : Option Addr) : RowK d w ok A [] := ⟨fun _ => [], ⟨by simp, fun h => absurd h (by simp)⟩, fun j p h => by simp at h⟩
theorem RowK.at (h : RowK d w ok A xs) (k : Nat) (hk : k < xs.length) : ∃ b off c, A = some ⟨b, off, none⟩ ∧ b < w.heap.size ∧ d.K w ok xs[k] c ∧ ∀ i u, c[i]? = some u → w.cell? ⟨b, off + k * d.sz + i, none⟩ = some u := by
  obtain ⟨f, hl, hr⟩ := h
  obtain ⟨b, off, e, ho, hlt, hc⟩ := hl.2 (by omega)
  exact ⟨b, off, f k, e, hlt, hr k _ (by simp [hk]), fun i u hu => (hc k hk i u hu).1⟩
theorem RowK.atF (h : RowK d w ok A xs) (k : Nat) (hk : k < xs.length) : ∃ b off c, A = some ⟨b, off, none⟩ ∧ b < w.heap.size ∧ ok b ∧ d.K w ok xs[k] c ∧ ∀ i u, c[i]? = some u → w.cell? ⟨b, off + k * d.sz + i, none⟩ = some u ∧ w.frozen? ⟨b, off + k * d.sz + i, none⟩ = false := by
  obtain ⟨f, hl, hr⟩ := h
  obtain ⟨b, off, e, ho, hlt, hc⟩ := hl.2 (by omega)
  exact ⟨b, off, f k, e, hlt, ho, hr k _ (by simp [hk]), hc k hk⟩
theorem RowK.len (h : RowK d w ok A xs) : xs.length ≤ 9223372036854775807 := by obtain ⟨f, hl, _⟩ := h; exact hl.1

/-- the k-th expression of a row, by its cells -/
theorem RowK.atE {w : World} {ok : Nat → Prop} {A : Option Addr} {xs : List Expr} (h : RowK kE w ok A xs) (k : Nat) (hk : k < xs.length) :
    ∃ x b off Aa ca As cp, Hid (xs[k] = x) ∧ A = some ⟨b, off, none⟩ ∧ b < w.heap.size ∧ RE w ok x [.int .i64 x.op, .slice Aa x.args.length ca, .slice As x.path.length cp, .string x.attr, .int .i64 x.cmp, .string x.text, .int .i64 x.num] ∧
      w.cell? ⟨b, off + k * 7, none⟩ = some (.int .i64 x.op) ∧ w.cell? ⟨b, off + k * 7 + 1, none⟩ = some (.slice Aa x.args.length ca) ∧ w.cell? ⟨b, off + k * 7 + 2, none⟩ = some (.slice As x.path.length cp) ∧ w.cell? ⟨b, off + k * 7 + 3, none⟩ = some (.string x.attr) ∧
      w.cell? ⟨b, off + k * 7 + 4, none⟩ = some (.int .i64 x.cmp) ∧ w.cell? ⟨b, off + k * 7 + 5, none⟩ = some (.string x.text) ∧ w.cell? ⟨b, off + k * 7 + 6, none⟩ = some (.int .i64 x.num) := by
  obtain ⟨b, off, c, rfl, hlt, hK, hc⟩ := h.at k hk
  generalize xs[k] = x at hK
  have hK' : RE w ok x c := hK
  cases hK' with
  | mk op as' ps a cm t n Aa ca As cp fa fs hla hra hls hrs =>
    exact ⟨_, b, off, Aa, ca, As, cp, rfl, rfl, hlt, hK, hc 0 _ rfl, hc 1 _ rfl, hc 2 _ rfl, hc 3 _ rfl, hc 4 _ rfl, hc 5 _ rfl, hc 6 _ rfl⟩
theorem RowK.atS {w : World} {ok : Nat → Prop} {A : Option Addr} {xs : List Step} (h : RowK kS w ok A xs) (k : Nat) (hk : k < xs.length) :
    ∃ x b off Aw cw, Hid (xs[k] = x) ∧ A = some ⟨b, off, none⟩ ∧ b < w.heap.size ∧ RS w ok x [.int .i64 x.axis, .int .i64 x.test, .string x.name, .slice Aw x.wh.length cw] ∧
      w.cell? ⟨b, off + k * 4, none⟩ = some (.int .i64 x.axis) ∧ w.cell? ⟨b, off + k * 4 + 1, none⟩ = some (.int .i64 x.test) ∧ w.cell? ⟨b, off + k * 4 + 2, none⟩ = some (.string x.name) ∧ w.cell? ⟨b, off + k * 4 + 3, none⟩ = some (.slice Aw x.wh.length cw) := by
  obtain ⟨b, off, c, rfl, hlt, hK, hc⟩ := h.at k hk
  generalize xs[k] = x at hK
  have hK' : RS w ok x c := hK
  cases hK' with
  | mk ax te nm wh Aw cw fw hlw hrw =>
    exact ⟨_, b, off, Aw, cw, rfl, rfl, hlt, hK, hc 0 _ rfl, hc 1 _ rfl, hc 2 _ rfl, hc 3 _ rfl⟩
theorem RE.rows {w : World} {ok : Nat → Prop} {x : Expr} {cs : List Value} (h : RE w ok x cs) : ∃ Aa ca As cp, cs = [.int .i64 x.op, .slice Aa x.args.length ca, .slice As x.path.length cp, .string x.attr, .int .i64 x.cmp, .string x.text, .int .i64 x.num] ∧ RowK kE w ok Aa x.args ∧ RowK kS w ok As x.path := by
  cases h with
  | mk op as' ps a cm t n Aa ca As cp fa fs hla hra hls hrs => exact ⟨Aa, ca, As, cp, rfl, ⟨fa, hla, hra⟩, ⟨fs, hls, hrs⟩⟩
theorem RS.rows {w : World} {ok : Nat → Prop} {x : Step} {cs : List Value} (h : RS w ok x cs) : ∃ Aw cw, cs = [.int .i64 x.axis, .int .i64 x.test, .string x.name, .slice Aw x.wh.length cw] ∧ RowK kE w ok Aw x.wh := by
  cases h with
  | mk ax te nm wh Aw cw fw hlw hrw => exact ⟨Aw, cw, rfl, ⟨fw, hlw, hrw⟩⟩
theorem RE.of_rows {w : World} {ok : Nat → Prop} {x : Expr} {Aa As : Option Addr} {ca cp : Nat} (h1 : RowK kE w ok Aa x.args) (h2 : RowK kS w ok As x.path) : RE w ok x [.int .i64 x.op, .slice Aa x.args.length ca, .slice As x.path.length cp, .string x.attr, .int .i64 x.cmp, .string x.text, .int .i64 x.num] := by
  obtain ⟨fa, hla, hra⟩ := h1
  obtain ⟨fs, hls, hrs⟩ := h2
  cases x
  exact .mk _ _ _ _ _ _ _ Aa ca As cp fa fs hla hra hls hrs
theorem RS.of_rows {w : World} {ok : Nat → Prop} {x : Step} {Aw : Option Addr} {cw : Nat} (h1 : RowK kE w ok Aw x.wh) : RS w ok x [.int .i64 x.axis, .int .i64 x.test, .string x.name, .slice Aw x.wh.length cw] := by
  obtain ⟨fw, hlw, hrw⟩ := h1
  cases x
  exact .mk _ _ _ _ Aw cw fw hlw hrw

theorem RowK.oneS {w : World} {ok : Nat → Prop} {b : Nat} {x : Step} {v0 v1 v2 v3 : Value} (ho : ok b) (c0 : w.cell? ⟨b, 0, none⟩ = some v0) (c1 : w.cell? ⟨b, 1, none⟩ = some v1) (c2 : w.cell? ⟨b, 2, none⟩ = some v2) (c3 : w.cell? ⟨b, 3, none⟩ = some v3) (h : RS w ok x [v0, v1, v2, v3]) (hf : ∀ o, w.frozen? ⟨b, o, none⟩ = false := by first | assumption | (intro o; simp [go_sem]; done)) : RowK kS w ok (some ⟨b, 0, none⟩) [x] := by
  refine ⟨fun _ => [v0, v1, v2, v3], ⟨by simp, fun _ => ⟨b, 0, rfl, ho, cell_lt c0, fun j hj i u hu => ?_⟩⟩, fun j p hj => ?_⟩
  · obtain rfl : j = 0 := by simpa using hj
    match i, hu with
    | 0, hu => simp at hu; subst hu; exact ⟨c0, hf _⟩
    | 1, hu => simp at hu; subst hu; exact ⟨c1, hf _⟩
    | 2, hu => simp at hu; subst hu; exact ⟨c2, hf _⟩
    | 3, hu => simp at hu; subst hu; exact ⟨c3, hf _⟩
    | i + 4, hu => simp at hu
  · match j, hj with
    | 0, hj => simp at hj; subst hj; exact h
    | j + 1, hj => simp at hj
theorem RowK.oneE {w : World} {ok : Nat → Prop} {b : Nat} {x : Expr} {v0 v1 v2 v3 v4 v5 v6 : Value} (ho : ok b) (c0 : w.cell? ⟨b, 0, none⟩ = some v0) (c1 : w.cell? ⟨b, 1, none⟩ = some v1) (c2 : w.cell? ⟨b, 2, none⟩ = some v2) (c3 : w.cell? ⟨b, 3, none⟩ = some v3) (c4 : w.cell? ⟨b, 4, none⟩ = some v4) (c5 : w.cell? ⟨b, 5, none⟩ = some v5) (c6 : w.cell? ⟨b, 6, none⟩ = some v6) (h : RE w ok x [v0, v1, v2, v3, v4, v5, v6]) (hf : ∀ o, w.frozen? ⟨b, o, none⟩ = false := by first | assumption | (intro o; simp [go_sem]; done)) : RowK kE w ok (some ⟨b, 0, none⟩) [x] := by
  refine ⟨fun _ => [v0, v1, v2, v3, v4, v5, v6], ⟨by simp, fun _ => ⟨b, 0, rfl, ho, cell_lt c0, fun j hj i u hu => ?_⟩⟩, fun j p hj => ?_⟩
  · obtain rfl : j = 0 := by simpa using hj
    match i, hu with
    | 0, hu => simp at hu; subst hu; exact ⟨c0, hf _⟩
    | 1, hu => simp at hu; subst hu; exact ⟨c1, hf _⟩
    | 2, hu => simp at hu; subst hu; exact ⟨c2, hf _⟩
    | 3, hu => simp at hu; subst hu; exact ⟨c3, hf _⟩
    | 4, hu => simp at hu; subst hu; exact ⟨c4, hf _⟩
    | 5, hu => simp at hu; subst hu; exact ⟨c5, hf _⟩
    | 6, hu => simp at hu; subst hu; exact ⟨c6, hf _⟩
    | i + 7, hu => simp at hu
  · match j, hj with
    | 0, hj => simp at hj; subst hj; exact h
    | j + 1, hj => simp at hj

theorem RowK.oneSc {w : World} {ok : Nat → Prop} {b : Nat} (x : Step) (Aw : Option Addr) (cw : Nat) (ho : ok b) (h : RS w ok x [.int .i64 x.axis, .int .i64 x.test, .string x.name, .slice Aw x.wh.length cw]) (c0 : w.cell? ⟨b, 0, none⟩ = some (.int .i64 x.axis)) (c1 : w.cell? ⟨b, 1, none⟩ = some (.int .i64 x.test)) (c2 : w.cell? ⟨b, 2, none⟩ = some (.string x.name)) (c3 : w.cell? ⟨b, 3, none⟩ = some (.slice Aw x.wh.length cw)) (hf : ∀ o, w.frozen? ⟨b, o, none⟩ = false := by first | assumption | (intro o; simp [go_sem]; done)) : RowK kS w ok (some ⟨b, 0, none⟩) [x] := RowK.oneS ho c0 c1 c2 c3 h hf
theorem RowK.oneEc {w : World} {ok : Nat → Prop} {b : Nat} (x : Expr) (Aa : Option Addr) (ca : Nat) (As : Option Addr) (cp : Nat) (ho : ok b) (h : RE w ok x [.int .i64 x.op, .slice Aa x.args.length ca, .slice As x.path.length cp, .string x.attr, .int .i64 x.cmp, .string x.text, .int .i64 x.num]) (c0 : w.cell? ⟨b, 0, none⟩ = some (.int .i64 x.op)) (c1 : w.cell? ⟨b, 1, none⟩ = some (.slice Aa x.args.length ca)) (c2 : w.cell? ⟨b, 2, none⟩ = some (.slice As x.path.length cp)) (c3 : w.cell? ⟨b, 3, none⟩ = some (.string x.attr)) (c4 : w.cell? ⟨b, 4, none⟩ = some (.int .i64 x.cmp)) (c5 : w.cell? ⟨b, 5, none⟩ = some (.string x.text)) (c6 : w.cell? ⟨b, 6, none⟩ = some (.int .i64 x.num)) (hf : ∀ o, w.frozen? ⟨b, o, none⟩ = false := by first | assumption | (intro o; simp [go_sem]; done)) : RowK kE w ok (some ⟨b, 0, none⟩) [x] := RowK.oneE ho c0 c1 c2 c3 c4 c5 c6 h hf

/-- A row of the call's own, while it is made. -/
def OwnK (d : Knd α) (e : TypeId) (w : World) (base : Nat) (ok : Nat → Prop) (v : Value) (xs : List α) : Prop :=
  (∀ k, v.ownBlock = some k → ok k) ∧ ∃ cs, w.ownsRow base e d.sz v xs.length cs ∧ ∀ j p, xs[j]? = some p → d.K w (fun k => ok k ∧ some k ≠ v.ownBlock) p ((cs.drop (j * d.sz)).take d.sz)
variable {e : TypeId} {base : Nat} {v : Value}
theorem OwnK.nil (d : Knd α) (e : TypeId) (w : World) (base : Nat) (ok : Nat → Prop) : OwnK d e w base ok (.slice none 0 0) [] :=
  ⟨fun k h => by simp [Value.ownBlock] at h, [], World.ownsRow_nil _ _ _ _, fun j p h => by simp at h⟩
theorem OwnK.mono (hk : ∀ k, ok k → ok' k) (h : OwnK d e w base ok v xs) : OwnK d e w base ok' v xs := by
  obtain ⟨h0, cs, ho, hr⟩ := h
  exact ⟨fun k hv => hk k (h0 k hv), cs, ho, fun j p hj => d.mono (fun k hh => ⟨hk k hh.1, hh.2⟩) (hr j p hj)⟩
theorem OwnK.lt (h : OwnK d e w base ok v xs) : ∀ k, v.ownBlock = some k → base ≤ k ∧ k < w.heap.size := by
  obtain ⟨h0, cs, ho, hr⟩ := h; exact ho.lt
theorem own_moved {w w1 : World} {base : Nat} {e : TypeId} {size n : Nat} {v : Value} {xs : List Value} (h : w.ownsRow base e size v n xs) (hm : ∀ k, v.ownBlock = some k → w1.heap[k]? = w.heap[k]?) : w1.ownsRow base e size v n xs := by
  obtain ⟨h1, h2⟩ := h
  refine ⟨h1, ?_⟩
  rcases h2 with h2 | ⟨g, cap, cur, rfl, hg, hh, r⟩
  · exact .inl h2
  · exact .inr ⟨g, cap, cur, rfl, hg, by rw [hm g (by simp [Value.ownBlock])]; exact hh, r⟩
theorem OwnK.move (hs : w.heap.size ≤ w1.heap.size) (hm : ∀ k, ok k → k < w.heap.size → w1.heap[k]? = w.heap[k]?) (h : OwnK d e w base ok v xs) : OwnK d e w1 base (fun k => ok k ∧ k < w.heap.size) v xs := by
  obtain ⟨h0, cs, ho, hr⟩ := h
  refine ⟨fun k hv => ⟨h0 k hv, (ho.lt k hv).2⟩, cs, own_moved ho (fun k hv => hm k (h0 k hv) (ho.lt k hv).2), fun j p hj => ?_⟩
  exact d.mono (fun k hk => ⟨⟨hk.1.1, hk.2⟩, hk.1.2⟩) (d.move hs (fun k hk hlt => hm k hk.1 hlt) (hr j p hj))
theorem OwnK.below (hb : Below w.heap.size w w1) (h : OwnK d e w base ok v xs) : OwnK d e w1 base ok v xs := OwnK.mono (fun _ hk => hk.1) (OwnK.move hb.size (fun k _ hk => hb.block k hk) h)
theorem own_slice {w : World} {base n size : Nat} {e : TypeId} {v : Value} {cs : List Value} (h : w.ownsRow base e size v n cs) : ∃ A c, v = .slice A n c := by
  rcases h.2 with ⟨rfl, rfl⟩ | ⟨g, cap, cur, rfl, _⟩
  · exact ⟨_, _, rfl⟩
  · exact ⟨_, _, rfl⟩
theorem OwnK.slice (h : OwnK d e w base ok v xs) : ∃ A c, v = .slice A xs.length c := by
  obtain ⟨h0, cs, ho, hr⟩ := h; exact own_slice ho
theorem OwnK.row (h : OwnK d e w base ok v xs) : ∃ A c, v = .slice A xs.length c ∧ RowK d w ok A xs := by
  obtain ⟨h0, cs, ho, hr⟩ := h
  have hlen := ho.1
  rcases ho.2 with ⟨rfl, h0'⟩ | ⟨g, cap, cur, rfl, hg, hh, h1, h2, h3, h4⟩
  · have : xs = [] := List.eq_nil_of_length_eq_zero h0'
    subst this
    exact ⟨_, _, rfl, RowK.nil _ _ _⟩
  · refine ⟨_, cap, rfl, fun j => (cs.drop (j * d.sz)).take d.sz, ⟨by unfold maxLen at h2; omega, fun hn => ⟨g, 0, rfl, h0 g (by simp [Value.ownBlock]), (ho.lt g (by simp [Value.ownBlock])).2, fun j hj i u hu => ?_⟩⟩, fun j p hj => d.mono (fun k hk => hk.1) (hr j p hj)⟩
    rw [List.getElem?_take] at hu
    split at hu
    · rw [List.getElem?_drop] at hu
      have := ho.cells (g := g) (by simp [Value.ownBlock]) _ u hu
      have e1 : (Addr.add ⟨g, 0, none⟩ (j * d.sz + i)) = (⟨g, 0 + j * d.sz + i, none⟩ : Addr) := by unfold Addr.add; split <;> simp_all
      rw [e1] at this
      refine ⟨this, ?_⟩
      simp [World.frozen?, hh]
    · cases hu
/-- behind an append of one item -/
theorem OwnK.appended {W w1 : World} {okp : Nat → Prop} {v v1 : Value} {xs : List α} {p : α} {cs c : List Value} (h0 : ∀ k, v.ownBlock = some k → ok k)
    (ho : W.ownsRow base e d.sz v xs.length cs) (hr : ∀ j p, xs[j]? = some p → d.K W (fun k => ok k ∧ some k ≠ v.ownBlock) p ((cs.drop (j * d.sz)).take d.sz))
    (hp : d.K W okp p c) (hokp : ∀ k, okp k → ok k ∧ some k ≠ v.ownBlock)
    (hg : W.grownBy w1 v.ownBlock) (hown : w1.ownsRow base e d.sz v1 (xs.length + 1) (cs ++ c)) (hat : v1.ownBlock = v.ownBlock ∨ ∃ b, v1.ownBlock = some b ∧ W.heap.size ≤ b) (hfr : ∀ k, W.heap.size ≤ k → ok k) :
    OwnK d e w1 base ok v1 (xs ++ [p]) := by
  have hm : ∀ k, (ok k ∧ some k ≠ v.ownBlock) → k < W.heap.size → w1.heap[k]? = W.heap[k]? := fun k hk hlt => hg.block k hlt hk.2
  have hst : ∀ k, (ok k ∧ some k ≠ v.ownBlock) ∧ k < W.heap.size → ok k ∧ some k ≠ v1.ownBlock := by
    intro k hk
    refine ⟨hk.1.1, ?_⟩
    rcases hat with hat | ⟨b, hb, hlt⟩
    · rw [hat]; exact hk.1.2
    · rw [hb]; intro e; have := Option.some.inj e; omega
  refine ⟨fun k hk => ?_, cs ++ c, by simpa using hown, fun j q hj => ?_⟩
  · rcases hat with hat | ⟨b, hb, hlt⟩
    · exact h0 k (by rw [← hat]; exact hk)
    · rw [hb] at hk; have := Option.some.inj hk; exact hfr k (by omega)
  · have hcl := ho.1
    have hlen := d.len hp
    rcases Nat.lt_or_ge j xs.length with h | h
    · rw [List.getElem?_append_left h] at hj
      have hle : j * d.sz + d.sz ≤ cs.length := by rw [hcl, ← Nat.succ_mul]; exact Nat.mul_le_mul_right _ h
      rw [List.drop_append_of_le_length (by omega), List.take_append_of_le_length (by rw [List.length_drop]; omega)]
      exact d.mono hst (d.move hg.size hm (hr j q hj))
    · have hj' : j = xs.length := by have := (List.getElem?_eq_some_iff.1 hj).1; simp at this; omega
      subst hj'
      have hq : p = q := by simpa using hj
      subst hq
      rw [← hcl, List.drop_left, ← hlen, List.take_length]
      exact d.mono (fun k hk => hst k ⟨hokp k hk.1, hk.2⟩) (d.move hg.size (fun k hk hlt => hm k (hokp k hk) hlt) hp)
end
theorem Chg.grown {p : Nat → Prop} {a w w' : World} {row : Option Nat} (h : Chg p a w) (hg : w.grownBy w' row) (hr : ∀ k, row = some k → p k ∨ a.heap.size ≤ k) : Chg p a w' :=
  ⟨hg.os.trans h.os, hg.tape.trans h.tape, hg.output.trans h.output, Nat.le_trans h.size hg.size, fun k hk hp => (hg.block k (Nat.lt_of_lt_of_le hk h.size) (fun e => by rcases hr k e.symm with h1 | h1; exact hp h1; omega)).trans (h.block k hk hp)⟩
/-- a box of one's own, known whole, behind what only makes memory -/
theorem box_below {w w1 : World} {b : Nat} {L : List Value} (hL : 0 < L.length) (hb : Below w.heap.size w w1) (h : ∀ o, w.cell? ⟨b, o, none⟩ = L[o]?) : ∀ o, w1.cell? ⟨b, o, none⟩ = L[o]? := by
  intro o
  have hlt : b < w.heap.size := by
    have h0 := h 0
    rw [List.getElem?_eq_getElem hL] at h0
    exact cell_lt h0
  rw [hb.cell (p := ⟨b, o, none⟩) hlt]; exact h o
theorem box_lt {w : World} {b : Nat} {L : List Value} (hL : 0 < L.length) (h : ∀ o, w.cell? ⟨b, o, none⟩ = L[o]?) : b < w.heap.size := by
  have h0 := h 0
  rw [List.getElem?_eq_getElem hL] at h0
  exact cell_lt h0
section
variable {P : Program} {α : Type}
/-- 'append(v, x)' of one item onto a row of one's own -/
theorem append_ownK (d : Knd α) {ops : Array Oper} {rest : List Oper} {o : Oper} {a : Act} {Q : Exit → Act → World → Prop} {W : World} (base : Nat) (ok okp : Nat → Prop) (hgd : o.guard = none) (s x : Operand) (t e : TypeId) (z : Value) (bytes : Nat)
    (ho : o.op = .call { callee := .builtin .append, args := #[s, x], argTypes := #[t, t] })
    (ht : P.underlying t = some (.slice e)) (hinfo : (P.info? e).map (fun i => (i.zero, i.size, i.bytes)) = some (some z, d.sz, bytes)) (hz : z.cells.size = d.sz)
    (v : Value) (xs : List α) (p : α) (c : List Value) (hs : a.eval s = v) (hx : a.eval x = .slice (some ⟨W.heap.size, 0, none⟩) 1 1)
    (HO : OwnK d e W base ok v xs) (hp : d.K W okp p c) (hokp : ∀ k, okp k → ok k ∧ some k ≠ v.ownBlock) (hfr : ∀ k, W.heap.size ≤ k → ok k) (hbase : base ≤ W.heap.size) (hl : (xs.length + 1) * bytes ≤ 140737488355328) (hb0 : 0 < bytes)
    (h : ∀ v1 w1, OwnK d e w1 base ok v1 (xs ++ [p]) → W.grownBy w1 v.ownBlock → (v1.ownBlock = v.ownBlock ∨ ∃ b, v1.ownBlock = some b ∧ W.heap.size ≤ b) → wpList P ops Q rest (a.put o.dst v1) w1) :
    wpList P ops Q (o :: rest) a (W.alloc (.cells c.toArray e)) := by
  obtain ⟨i0, hi, hzz⟩ := Option.map_eq_some_iff.1 hinfo
  simp only [Prod.mk.injEq] at hzz
  obtain ⟨hz0, hz1, hz2⟩ := hzz
  have hlen : xs.length + 1 ≤ 140737488355328 := Nat.le_trans (Nat.le_mul_of_pos_right _ hb0) hl
  have hcl := d.len hp
  obtain ⟨h0, cs, hown, hr⟩ := HO
  refine wpList_append_own_at (W.alloc (.cells c.toArray e)) hgd s x t ho base e i0 z d.sz bytes ht hi hz0 hz1 hz2 hz d.pos v xs.length cs hs (hown.alloc _) ⟨W.heap.size, 0, none⟩ 1 1 c hx (by rw [hcl]; simp)
    (by simpa using World.news_of_block (cs := c.toArray) (t := e) (fr := (0, 0)) (heap_alloc_new W (.cells c.toArray e))) (d.one hp) (by simp only [maxLen]; omega) hl (by simp; omega) ?_
  intro v1 w1 hown1 hg _ hat
  have hg' : W.grownBy w1 v.ownBlock := World.grownBy.trans (World.grownBy_alloc W _ _) hg
  have hat' : v1.ownBlock = v.ownBlock ∨ ∃ b, v1.ownBlock = some b ∧ W.heap.size ≤ b := by
    rcases hat with hat | hat
    · exact .inl hat
    · exact .inr ⟨_, hat, by simp⟩
  exact h v1 w1 (OwnK.appended h0 hown hr hp hokp hg' hown1 hat' hfr) hg' hat'
end

/-! ### a block of one's own, known whole -/
def Blk (w : World) (b : Nat) (cs : Array Value) (t : TypeId) : Prop := w.heap[b]? = some (.cells cs t (0, 0))
namespace Blk
variable {w w1 : World} {b : Nat} {cs : Array Value} {t : TypeId}
theorem new (w : World) (cs : Array Value) (t : TypeId) : Blk (w.alloc (.cells cs t)) w.heap.size cs t := heap_alloc_new w _
theorem lt (h : Blk w b cs t) : b < w.heap.size := (Array.getElem?_eq_some_iff.1 h).1
theorem below (h : Blk w b cs t) (hb : Below w.heap.size w w1) : Blk w1 b cs t := (hb.block b h.lt).trans h
theorem al (h : Blk w b cs t) (o : Obj) : Blk (w.alloc o) b cs t := h.below (bl1 (Nat.le_refl _))
theorem set (h : Blk w b cs t) (j : Nat) (u : Value) : Blk (w.setCell ⟨b, j, none⟩ u) b (cs.setIfInBounds j u) t := by
  have h' : w.heap[b]? = some (.cells cs t (0, 0)) := h
  simp [Blk, World.setCell, Array.getElem?_modify, h']
theorem far (h : Blk w b cs t) {a : Addr} (hne : b ≠ a.block) (u : Value) : Blk (w.setCell a u) b cs t := (Below.heap_setCell w a u b hne).trans h
theorem cell (h : Blk w b cs t) (i : Nat) : w.cell? ⟨b, i, none⟩ = cs[i]? := cell_of_row w b i cs t (0, 0) h
theorem frozen (h : Blk w b cs t) (i : Nat) : w.frozen? ⟨b, i, none⟩ = false := by
  have h' : w.heap[b]? = some (.cells cs t (0, 0)) := h
  simp [World.frozen?, h']
theorem chg {p : Nat → Prop} (h : Blk w b cs t) (hc : Chg p w w1) (hp : ¬ p b) : Blk w1 b cs t := (hc.block b h.lt hp).trans h
theorem grown {row : Option Nat} (h : Blk w b cs t) (hg : w.grownBy w1 row) (hne : some b ≠ row) : Blk w1 b cs t := (hg.block b h.lt hne).trans h
end Blk
end Go.Proofs.YtbbmmeaicilabaaGreatDoor
