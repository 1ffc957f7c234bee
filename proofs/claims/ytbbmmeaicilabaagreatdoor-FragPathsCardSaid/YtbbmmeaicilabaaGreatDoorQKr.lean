/- Memory that is written over by plain values of the same kinds: what is read is still a tree, no greater. Conditions: none. -/
import Derived.Test.YtbbmmeaicilabaaGreatDoorQGa
import Derived.Test.YtbbmmeaicilabaaGreatDoorQHd
set_option linter.unusedVariables false
set_option linter.unusedSimpArgs false
namespace Go.Proofs.YtbbmmeaicilabaaGreatDoor
open Go.RowKit

mutual
def ndE : Expr → Nat
  | .mk _ xs ps _ _ _ _ => 1 + ndEs xs + ndP ps
def ndEs : List Expr → Nat
  | [] => 0
  | x :: r => ndE x + ndEs r
def ndS : Step → Nat
  | .mk _ _ _ wh => 1 + ndEs wh
def ndP : List Step → Nat
  | [] => 0
  | x :: r => ndS x + ndP r
end
theorem ndEs_get (l : List Expr) (k : Nat) (h : k < l.length) : ndE l[k] ≤ ndEs l := by
  induction l generalizing k with
  | nil => simp at h
  | cons x r ih =>
    cases k with
    | zero => simp only [List.getElem_cons_zero, ndEs]; omega
    | succ k => have := ih k (by simpa using h); simp only [List.getElem_cons_succ, ndEs]; omega
theorem ndP_get (l : List Step) (k : Nat) (h : k < l.length) : ndS l[k] ≤ ndP l := by
  induction l generalizing k with
  | nil => simp at h
  | cons x r ih =>
    cases k with
    | zero => simp only [List.getElem_cons_zero, ndP]; omega
    | succ k => have := ih k (by simpa using h); simp only [List.getElem_cons_succ, ndP]; omega

/-- the same, or a plain value of the same kind -/
def Tame (v v' : Value) : Prop := v' = v ∨ (∃ a b, v = .int .i64 a ∧ v' = .int .i64 b) ∨ (∃ a b, v = .string a ∧ v' = .string b) ∨ (∃ A n c, v = .slice A n c ∧ v' = .slice none 0 0)
theorem Tame.refl (v : Value) : Tame v v := .inl rfl
theorem Tame.int {a : Int} {v : Value} (h : Tame (.int .i64 a) v) : ∃ b, v = .int .i64 b := by
  rcases h with rfl | ⟨a', b, h1, rfl⟩ | ⟨a', b, h1, rfl⟩ | ⟨A, n, c, h1, rfl⟩
  · exact ⟨a, rfl⟩
  · exact ⟨b, rfl⟩
  · cases h1
  · cases h1
theorem Tame.str {a : ByteArray} {v : Value} (h : Tame (.string a) v) : ∃ b, v = .string b := by
  rcases h with rfl | ⟨a', b, h1, rfl⟩ | ⟨a', b, h1, rfl⟩ | ⟨A, n, c, h1, rfl⟩
  · exact ⟨a, rfl⟩
  · cases h1
  · exact ⟨b, rfl⟩
  · cases h1
theorem Tame.slc {A : Option Addr} {n c : Nat} {v : Value} (h : Tame (.slice A n c) v) : v = .slice A n c ∨ v = .slice none 0 0 := by
  rcases h with rfl | ⟨a', b, h1, rfl⟩ | ⟨a', b, h1, rfl⟩ | ⟨A, n, c, h1, rfl⟩
  · exact .inl rfl
  · cases h1
  · cases h1
  · exact .inr rfl
theorem Tame.trans {u v z : Value} (h : Tame u v) (k : Tame v z) : Tame u z := by
  rcases h with rfl | ⟨a, b, rfl, rfl⟩ | ⟨a, b, rfl, rfl⟩ | ⟨A, n, c, rfl, rfl⟩
  · exact k
  · obtain ⟨b', rfl⟩ := k.int; exact .inr (.inl ⟨_, _, rfl, rfl⟩)
  · obtain ⟨b', rfl⟩ := k.str; exact .inr (.inr (.inl ⟨_, _, rfl, rfl⟩))
  · rcases k.slc with rfl | rfl <;> exact .inr (.inr (.inr ⟨_, _, _, rfl, rfl⟩))
/-- what was written, lies in blocks of p and is of the kind that was there -/
structure Tamed (p : Nat → Prop) (w w' : World) : Prop where
  chg : Chg p w w'
  cell : ∀ b o v, w.cell? ⟨b, o, none⟩ = some v → ∃ v', w'.cell? ⟨b, o, none⟩ = some v' ∧ Tame v v'
  fz : ∀ b o, b < w.heap.size → w'.frozen? ⟨b, o, none⟩ = w.frozen? ⟨b, o, none⟩
theorem Tamed.refl (p : Nat → Prop) (w : World) : Tamed p w w := ⟨Chg.refl p w, fun _ _ v h => ⟨v, h, .refl v⟩, fun _ _ _ => rfl⟩
theorem Tamed.trans {p : Nat → Prop} {a b c : World} (h : Tamed p a b) (k : Tamed p b c) : Tamed p a c :=
  ⟨h.chg.trans k.chg, fun i o v hv => by
    obtain ⟨v1, h1, t1⟩ := h.cell i o v hv
    obtain ⟨v2, h2, t2⟩ := k.cell i o v1 h1
    exact ⟨v2, h2, t1.trans t2⟩, fun i o hi => (k.fz i o (Nat.lt_of_lt_of_le hi h.chg.size)).trans (h.fz i o hi)⟩
theorem Tamed.of_below {p : Nat → Prop} {w w' : World} (h : Below w.heap.size w w') : Tamed p w w' :=
  ⟨Chg.of_below h, fun b o v hv => ⟨v, (h.cell (p := ⟨b, o, none⟩) (cell_lt hv)).trans hv, .refl v⟩, fun b o hb => h.frozen (p := ⟨b, o, none⟩) hb⟩
theorem Tamed.set {p : Nat → Prop} {a w : World} {b o : Nat} {v v' : Value} (h : Tamed p a w) (hp : p b) (hc : w.cell? ⟨b, o, none⟩ = some v) (ht : Tame v v') : Tamed p a (w.setCell ⟨b, o, none⟩ v') := by
  refine h.trans ⟨(Chg.refl p w).set hp, fun i j u hu => ?_, fun i j hi => by simp [go_sem]⟩
  by_cases he : i = b ∧ j = o
  · obtain ⟨rfl, rfl⟩ := he
    rw [hc] at hu; cases hu
    exact ⟨v', World.cell?_setCell_same _ _ _ hc, ht⟩
  · exact ⟨u, by rw [World.cell?_setCell_other _ _ _ _ (by intro e; cases e; exact he ⟨rfl, rfl⟩)]; exact hu, .refl u⟩
/-- cells written over -/
def TameL (cs cs' : List Value) : Prop := cs'.length = cs.length ∧ ∀ (i : Nat) (u : Value), cs[i]? = some u → ∃ u', cs'[i]? = some u' ∧ Tame u u'

theorem pickL {α : Type} (nd : α → Nat) (S : List α → Nat) (h0 : S [] = 0) (hS : ∀ x r, S (x :: r) = nd x + S r) (xs : List α) : ∀ (Q : Nat → α → Prop), (∀ j p, xs[j]? = some p → ∃ p', nd p' ≤ nd p ∧ Q j p') → ∃ xs' : List α, xs'.length = xs.length ∧ S xs' ≤ S xs ∧ ∀ j p', xs'[j]? = some p' → Q j p' := by
  induction xs with
  | nil => intro Q _; exact ⟨[], rfl, Nat.le_refl _, fun j p h => by simp at h⟩
  | cons x r ih =>
    intro Q h
    obtain ⟨x', hx, hq⟩ := h 0 x rfl
    obtain ⟨r', hl, hs, hr⟩ := ih (fun j => Q (j + 1)) (fun j p hj => h (j + 1) p (by simpa using hj))
    refine ⟨x' :: r', by simp [hl], by rw [hS, hS]; omega, fun j p hj => ?_⟩
    cases j with
    | zero => simp at hj; subst hj; exact hq
    | succ j => exact hr j p (by simpa using hj)
theorem Lay.tame {w w' : World} {ok q : Nat → Prop} {A : Option Addr} {sz n : Nat} {f : Nat → List Value} (h : Lay w ok A sz n f) (hl : ∀ j, j < n → (f j).length = sz) (T : Tamed q w w') : ∃ f', Lay w' ok A sz n f' ∧ ∀ j, j < n → TameL (f j) (f' j) := by
  rcases Nat.eq_zero_or_pos n with hn | hn
  · exact ⟨f, ⟨h.1, fun h' => absurd h' (by omega)⟩, fun j hj => absurd hj (by omega)⟩
  · obtain ⟨b, off, rfl, ho, hlt, hc⟩ := h.2 hn
    have hget : ∀ j i u, ((List.range sz).map (fun i => (w'.cell? ⟨b, off + j * sz + i, none⟩).getD undef))[i]? = some u → i < sz ∧ u = (w'.cell? ⟨b, off + j * sz + i, none⟩).getD undef := by
      intro j i u hu
      have hi : i < sz := by have := (List.getElem?_eq_some_iff.1 hu).1; simpa using this
      rw [List.getElem?_map, List.getElem?_range hi] at hu
      exact ⟨hi, by simpa using hu.symm⟩
    refine ⟨fun j => (List.range sz).map (fun i => (w'.cell? ⟨b, off + j * sz + i, none⟩).getD undef), ⟨h.1, fun _ => ⟨b, off, rfl, ho, Nat.lt_of_lt_of_le hlt T.chg.size, fun j hj i u hu => ?_⟩⟩, fun j hj => ⟨by simp [hl j hj], fun i u hu => ?_⟩⟩
    · obtain ⟨hi, rfl⟩ := hget j i u hu
      have hi' : i < (f j).length := by rw [hl j hj]; exact hi
      obtain ⟨h1, h2⟩ := hc j hj i _ (List.getElem?_eq_getElem hi')
      obtain ⟨v', h3, h4⟩ := T.cell _ _ _ h1
      rw [h3]
      exact ⟨rfl, (T.fz _ _ hlt).trans h2⟩
    · obtain ⟨h1, h2⟩ := hc j hj i u hu
      obtain ⟨v', h3, h4⟩ := T.cell _ _ _ h1
      have hi : i < sz := by rw [← hl j hj]; exact (List.getElem?_eq_some_iff.1 hu).1
      exact ⟨v', by simp [List.getElem?_map, List.getElem?_range hi, h3], h4⟩
theorem row_tame {α : Type} {K : World → (Nat → Prop) → α → List Value → Prop} (nd : α → Nat) (S : List α → Nat) (h0 : S [] = 0) (hS : ∀ x r, S (x :: r) = nd x + S r) {w w' : World} {ok q : Nat → Prop} {A : Option Addr} {sz : Nat} {xs : List α} {f : Nat → List Value}
    (hl : Lay w ok A sz xs.length f) (hlen : ∀ j, j < xs.length → (f j).length = sz) (T : Tamed q w w') (hr : ∀ j p, xs[j]? = some p → ∀ cs', TameL (f j) cs' → ∃ p', nd p' ≤ nd p ∧ K w' ok p' cs') :
    ∃ xs' f', xs'.length = xs.length ∧ S xs' ≤ S xs ∧ Lay w' ok A sz xs'.length f' ∧ ∀ j p, xs'[j]? = some p → K w' ok p (f' j) := by
  obtain ⟨f', hl', ht⟩ := hl.tame hlen T
  obtain ⟨xs', h1, h2, h3⟩ := pickL nd S h0 hS xs (fun j p' => K w' ok p' (f' j)) (fun j p hj => hr j p hj (f' j) (ht j (List.getElem?_eq_some_iff.1 hj).1))
  exact ⟨xs', f', h1, h2, by rw [h1]; exact hl', h3⟩
theorem slice_tame {α : Type} {K : World → (Nat → Prop) → α → List Value → Prop} (nd : α → Nat) (S : List α → Nat) (h0 : S [] = 0) (hS : ∀ x r, S (x :: r) = nd x + S r) {w w' : World} {ok q : Nat → Prop} {A : Option Addr} {sz c : Nat} {xs : List α} {f : Nat → List Value} {v : Value}
    (hl : Lay w ok A sz xs.length f) (hlen : ∀ j, j < xs.length → (f j).length = sz) (T : Tamed q w w') (hr : ∀ j p, xs[j]? = some p → ∀ cs', TameL (f j) cs' → ∃ p', nd p' ≤ nd p ∧ K w' ok p' cs') (hv : Tame (.slice A xs.length c) v) :
    ∃ xs' f' A' c', v = .slice A' xs'.length c' ∧ S xs' ≤ S xs ∧ Lay w' ok A' sz xs'.length f' ∧ ∀ j p, xs'[j]? = some p → K w' ok p (f' j) := by
  rcases hv.slc with rfl | rfl
  · obtain ⟨xs', f', h1, h2, h3, h4⟩ := row_tame (K := K) nd S h0 hS hl hlen T hr
    exact ⟨xs', f', A, c, by rw [h1], h2, h3, h4⟩
  · exact ⟨[], f, none, 0, rfl, by omega, ⟨by simp, fun h => absurd h (by simp)⟩, fun j p h => by simp at h⟩
theorem seven {cs : List Value} (h : cs.length = 7) : ∃ a b c d e f g, cs = [a, b, c, d, e, f, g] := by
  match cs, h with
  | [a, b, c, d, e, f, g], _ => exact ⟨a, b, c, d, e, f, g, rfl⟩
theorem four {cs : List Value} (h : cs.length = 4) : ∃ a b c d, cs = [a, b, c, d] := by
  match cs, h with
  | [a, b, c, d], _ => exact ⟨a, b, c, d, rfl⟩
theorem RE.tame_mk {w w' : World} {ok q : Nat → Prop} (T : Tamed q w w') (op : Int) (xs : List Expr) (ps : List Step) (at' : ByteArray) (cm : Int) (tx : ByteArray) (nu : Int) (Aa : Option Addr) (ca : Nat) (As : Option Addr) (cp : Nat) (fa fs : Nat → List Value)
    (hla : Lay w ok Aa 7 xs.length fa) (hra0 : ∀ j p, xs[j]? = some p → RE w ok p (fa j)) (hra : ∀ j p, xs[j]? = some p → ∀ cs', TameL (fa j) cs' → ∃ p', ndE p' ≤ ndE p ∧ RE w' ok p' cs') (hls : Lay w ok As 4 ps.length fs) (hrs0 : ∀ j p, ps[j]? = some p → RS w ok p (fs j)) (hrs : ∀ j p, ps[j]? = some p → ∀ cs', TameL (fs j) cs' → ∃ p', ndS p' ≤ ndS p ∧ RS w' ok p' cs')
    (cs' : List Value) (h : TameL [.int .i64 op, .slice Aa xs.length ca, .slice As ps.length cp, .string at', .int .i64 cm, .string tx, .int .i64 nu] cs') : ∃ x', ndE x' ≤ ndE (.mk op xs ps at' cm tx nu) ∧ RE w' ok x' cs' := by
  obtain ⟨v0, v1, v2, v3, v4, v5, v6, rfl⟩ := seven h.1
  have g := fun i u hu => h.2 i u hu
  have g0 : Tame (.int .i64 op) v0 := by obtain ⟨u, h1, h2⟩ := g 0 _ rfl; cases h1; exact h2
  have g1 : Tame (.slice Aa xs.length ca) v1 := by obtain ⟨u, h1, h2⟩ := g 1 _ rfl; cases h1; exact h2
  have g2 : Tame (.slice As ps.length cp) v2 := by obtain ⟨u, h1, h2⟩ := g 2 _ rfl; cases h1; exact h2
  have g3 : Tame (.string at') v3 := by obtain ⟨u, h1, h2⟩ := g 3 _ rfl; cases h1; exact h2
  have g4 : Tame (.int .i64 cm) v4 := by obtain ⟨u, h1, h2⟩ := g 4 _ rfl; cases h1; exact h2
  have g5 : Tame (.string tx) v5 := by obtain ⟨u, h1, h2⟩ := g 5 _ rfl; cases h1; exact h2
  have g6 : Tame (.int .i64 nu) v6 := by obtain ⟨u, h1, h2⟩ := g 6 _ rfl; cases h1; exact h2
  obtain ⟨op', rfl⟩ := g0.int
  obtain ⟨at2, rfl⟩ := g3.str
  obtain ⟨cm', rfl⟩ := g4.int
  obtain ⟨tx', rfl⟩ := g5.str
  obtain ⟨nu', rfl⟩ := g6.int
  obtain ⟨xs', fa', Aa', ca', rfl, hx1, hx2, hx3⟩ := slice_tame (K := RE) ndE ndEs (by simp only [ndEs]) (fun x r => by simp only [ndEs]) hla (fun j hj => (hra0 j xs[j] (by simp [hj])).len) T hra g1
  obtain ⟨ps', fs', As', cp', rfl, hp1, hp2, hp3⟩ := slice_tame (K := RS) ndS ndP (by simp only [ndP]) (fun x r => by simp only [ndP]) hls (fun j hj => (hrs0 j ps[j] (by simp [hj])).len) T hrs g2
  exact ⟨.mk op' xs' ps' at2 cm' tx' nu', by simp only [ndE]; omega, .mk op' xs' ps' at2 cm' tx' nu' Aa' ca' As' cp' fa' fs' hx2 hx3 hp2 hp3⟩
theorem RS.tame_mk {w w' : World} {ok q : Nat → Prop} (T : Tamed q w w') (ax te : Int) (nm : ByteArray) (wh : List Expr) (Aw : Option Addr) (cw : Nat) (fw : Nat → List Value)
    (hlw : Lay w ok Aw 7 wh.length fw) (hrw0 : ∀ j p, wh[j]? = some p → RE w ok p (fw j)) (hrw : ∀ j p, wh[j]? = some p → ∀ cs', TameL (fw j) cs' → ∃ p', ndE p' ≤ ndE p ∧ RE w' ok p' cs')
    (cs' : List Value) (h : TameL [.int .i64 ax, .int .i64 te, .string nm, .slice Aw wh.length cw] cs') : ∃ x', ndS x' ≤ ndS (.mk ax te nm wh) ∧ RS w' ok x' cs' := by
  obtain ⟨v0, v1, v2, v3, rfl⟩ := four h.1
  have g := fun i u hu => h.2 i u hu
  have g0 : Tame (.int .i64 ax) v0 := by obtain ⟨u, h1, h2⟩ := g 0 _ rfl; cases h1; exact h2
  have g1 : Tame (.int .i64 te) v1 := by obtain ⟨u, h1, h2⟩ := g 1 _ rfl; cases h1; exact h2
  have g2 : Tame (.string nm) v2 := by obtain ⟨u, h1, h2⟩ := g 2 _ rfl; cases h1; exact h2
  have g3 : Tame (.slice Aw wh.length cw) v3 := by obtain ⟨u, h1, h2⟩ := g 3 _ rfl; cases h1; exact h2
  obtain ⟨ax', rfl⟩ := g0.int
  obtain ⟨te', rfl⟩ := g1.int
  obtain ⟨nm', rfl⟩ := g2.str
  obtain ⟨wh', fw', Aw', cw', rfl, hx1, hx2, hx3⟩ := slice_tame (K := RE) ndE ndEs (by simp only [ndEs]) (fun x r => by simp only [ndEs]) hlw (fun j hj => (hrw0 j wh[j] (by simp [hj])).len) T hrw g3
  exact ⟨.mk ax' te' nm' wh', by simp only [ndS]; omega, .mk ax' te' nm' wh' Aw' cw' fw' hx2 hx3⟩
mutual
theorem RE.tame {w w' : World} {ok q : Nat → Prop} (T : Tamed q w w') : ∀ {x cs}, RE w ok x cs → ∀ cs', TameL cs cs' → ∃ x', ndE x' ≤ ndE x ∧ RE w' ok x' cs'
  | _, _, .mk op xs ps at' cm tx nu Aa ca As cp fa fs hla hra hls hrs => fun cs' h => RE.tame_mk T op xs ps at' cm tx nu Aa ca As cp fa fs hla hra (fun j p hj => RE.tame T (hra j p hj)) hls hrs (fun j p hj => RS.tame T (hrs j p hj)) cs' h
theorem RS.tame {w w' : World} {ok q : Nat → Prop} (T : Tamed q w w') : ∀ {x cs}, RS w ok x cs → ∀ cs', TameL cs cs' → ∃ x', ndS x' ≤ ndS x ∧ RS w' ok x' cs'
  | _, _, .mk ax te nm wh Aw cw fw hlw hrw => fun cs' h => RS.tame_mk T ax te nm wh Aw cw fw hlw hrw (fun j p hj => RE.tame T (hrw j p hj)) cs' h
end
theorem RowK.tameE {w w' : World} {ok q : Nat → Prop} {A : Option Addr} {xs : List Expr} (h : RowK kE w ok A xs) (T : Tamed q w w') : ∃ xs', xs'.length = xs.length ∧ ndEs xs' ≤ ndEs xs ∧ RowK kE w' ok A xs' := by
  obtain ⟨f, hl, hr⟩ := h
  obtain ⟨xs', f', h1, h2, h3, h4⟩ := row_tame (K := RE) ndE ndEs (by simp only [ndEs]) (fun x r => by simp only [ndEs]) hl (fun j hj => RE.len (hr j xs[j] (by simp [hj]))) T (fun j p hj => RE.tame T (hr j p hj))
  exact ⟨xs', h1, h2, f', h3, h4⟩
theorem RowK.tameS {w w' : World} {ok q : Nat → Prop} {A : Option Addr} {xs : List Step} (h : RowK kS w ok A xs) (T : Tamed q w w') : ∃ xs', xs'.length = xs.length ∧ ndP xs' ≤ ndP xs ∧ RowK kS w' ok A xs' := by
  obtain ⟨f, hl, hr⟩ := h
  obtain ⟨xs', f', h1, h2, h3, h4⟩ := row_tame (K := RS) ndS ndP (by simp only [ndP]) (fun x r => by simp only [ndP]) hl (fun j hj => RS.len (hr j xs[j] (by simp [hj]))) T (fun j p hj => RS.tame T (hr j p hj))
  exact ⟨xs', h1, h2, f', h3, h4⟩
end Go.Proofs.YtbbmmeaicilabaaGreatDoor

/- gimletlaw13.spoil, exprs: a path, written over. Conditions: the path lies in memory as a tree. -/
namespace Go.Proofs.YtbbmmeaicilabaaGreatDoor
open Go.RowKit

theorem Tamed.set1 {p : Nat → Prop} {a w : World} {b o : Nat} {v v' : Value} (h : Tamed p a w) (hp : p b) (hc : w.cell? ⟨b, o, none⟩ = some v) (ht : Tame v v') : Tamed p a (w.setCell ⟨b, o, none⟩ v') ∧ ∀ j, j ≠ o → (w.setCell ⟨b, o, none⟩ v').cell? ⟨b, j, none⟩ = w.cell? ⟨b, j, none⟩ :=
  ⟨h.set hp hc ht, fun j hj => World.cell?_setCell_other _ _ _ _ (by intro e; cases e; exact hj rfl)⟩
theorem Tamed.set4 {p : Nat → Prop} {a w : World} {b o : Nat} {v0 v1 v2 v3 u0 u1 u2 u3 : Value} (h : Tamed p a w) (hp : p b)
    (c0 : w.cell? ⟨b, o, none⟩ = some v0) (c1 : w.cell? ⟨b, o + 1, none⟩ = some v1) (c2 : w.cell? ⟨b, o + 2, none⟩ = some v2) (c3 : w.cell? ⟨b, o + 3, none⟩ = some v3)
    (t0 : Tame v0 u0) (t1 : Tame v1 u1) (t2 : Tame v2 u2) (t3 : Tame v3 u3) :
    Tamed p a ((((w.setCell ⟨b, o, none⟩ u0).setCell ⟨b, o + 1, none⟩ u1).setCell ⟨b, o + 2, none⟩ u2).setCell ⟨b, o + 3, none⟩ u3) := by
  obtain ⟨h0, k0⟩ := h.set1 hp c0 t0
  obtain ⟨h1, k1⟩ := h0.set1 hp (by rw [k0 (o + 1) (by omega)]; exact c1) t1
  obtain ⟨h2, k2⟩ := h1.set1 hp (by rw [k1 (o + 2) (by omega), k0 (o + 2) (by omega)]; exact c2) t2
  exact h2.set hp (by rw [k2 (o + 3) (by omega), k1 (o + 3) (by omega), k0 (o + 3) (by omega)]; exact c3) t3
theorem Tamed.set7 {p : Nat → Prop} {a w : World} {b o : Nat} {v0 v1 v2 v3 v4 v5 v6 u0 u1 u2 u3 u4 u5 u6 : Value} (h : Tamed p a w) (hp : p b)
    (c0 : w.cell? ⟨b, o, none⟩ = some v0) (c1 : w.cell? ⟨b, o + 1, none⟩ = some v1) (c2 : w.cell? ⟨b, o + 2, none⟩ = some v2) (c3 : w.cell? ⟨b, o + 3, none⟩ = some v3) (c4 : w.cell? ⟨b, o + 4, none⟩ = some v4) (c5 : w.cell? ⟨b, o + 5, none⟩ = some v5) (c6 : w.cell? ⟨b, o + 6, none⟩ = some v6)
    (t0 : Tame v0 u0) (t1 : Tame v1 u1) (t2 : Tame v2 u2) (t3 : Tame v3 u3) (t4 : Tame v4 u4) (t5 : Tame v5 u5) (t6 : Tame v6 u6) :
    Tamed p a (((((((w.setCell ⟨b, o, none⟩ u0).setCell ⟨b, o + 1, none⟩ u1).setCell ⟨b, o + 2, none⟩ u2).setCell ⟨b, o + 3, none⟩ u3).setCell ⟨b, o + 4, none⟩ u4).setCell ⟨b, o + 5, none⟩ u5).setCell ⟨b, o + 6, none⟩ u6) := by
  obtain ⟨h0, k0⟩ := h.set1 hp c0 t0
  obtain ⟨h1, k1⟩ := h0.set1 hp (by rw [k0 (o + 1) (by omega)]; exact c1) t1
  obtain ⟨h2, k2⟩ := h1.set1 hp (by rw [k1 (o + 2) (by omega), k0 (o + 2) (by omega)]; exact c2) t2
  obtain ⟨h3, k3⟩ := h2.set1 hp (by rw [k2 (o + 3) (by omega), k1 (o + 3) (by omega), k0 (o + 3) (by omega)]; exact c3) t3
  obtain ⟨h4, k4⟩ := h3.set1 hp (by rw [k3 (o + 4) (by omega), k2 (o + 4) (by omega), k1 (o + 4) (by omega), k0 (o + 4) (by omega)]; exact c4) t4
  obtain ⟨h5, k5⟩ := h4.set1 hp (by rw [k4 (o + 5) (by omega), k3 (o + 5) (by omega), k2 (o + 5) (by omega), k1 (o + 5) (by omega), k0 (o + 5) (by omega)]; exact c5) t5
  exact h5.set hp (by rw [k5 (o + 6) (by omega), k4 (o + 6) (by omega), k3 (o + 6) (by omega), k2 (o + 6) (by omega), k1 (o + 6) (by omega), k0 (o + 6) (by omega)]; exact c6) t6
theorem tame_int (a b : Int) : Tame (.int .i64 a) (.int .i64 b) := .inr (.inl ⟨a, b, rfl, rfl⟩)
theorem tame_str (a b : ByteArray) : Tame (.string a) (.string b) := .inr (.inr (.inl ⟨a, b, rfl, rfl⟩))
theorem tame_slc {A : Option Addr} {n c : Nat} {v : Value} (h : Tame (.slice A n c) v) : Tame v (.slice none 0 0) := by
  rcases h.slc with rfl | rfl <;> exact .inr (.inr (.inr ⟨_, _, _, rfl, rfl⟩))

/-- the k-th item of a row, by its cells; none is frozen -/
theorem RowK.atSF {w : World} {ok : Nat → Prop} {A : Option Addr} {xs : List Step} (h : RowK kS w ok A xs) (k : Nat) (hk : k < xs.length) :
    ∃ x b off Aw cw, Hid (xs[k] = x) ∧ A = some ⟨b, off, none⟩ ∧ b < w.heap.size ∧ ok b ∧ RowK kE w ok Aw x.wh ∧ w.cell? ⟨b, off + k * 4, none⟩ = some (.int .i64 x.axis) ∧ w.cell? ⟨b, off + k * 4 + 1, none⟩ = some (.int .i64 x.test) ∧ w.cell? ⟨b, off + k * 4 + 2, none⟩ = some (.string x.name) ∧ w.cell? ⟨b, off + k * 4 + 3, none⟩ = some (.slice Aw x.wh.length cw) ∧ ∀ i, i < 4 → w.frozen? ⟨b, off + k * 4 + i, none⟩ = false := by
  obtain ⟨b, off, c, rfl, hlt, hok, hK, hc⟩ := h.atF k hk
  generalize xs[k] = x at hK
  obtain ⟨Aw, cw, rfl, hrw⟩ := RS.rows hK
  refine ⟨x, b, off, Aw, cw, rfl, rfl, hlt, hok, hrw, (hc 0 _ rfl).1, (hc 1 _ rfl).1, (hc 2 _ rfl).1, (hc 3 _ rfl).1, fun i hi => ?_⟩
  exact (hc i _ (List.getElem?_eq_getElem (by simpa using hi))).2
theorem RowK.atEF {w : World} {ok : Nat → Prop} {A : Option Addr} {xs : List Expr} (h : RowK kE w ok A xs) (k : Nat) (hk : k < xs.length) :
    ∃ x b off Aa ca As cp, Hid (xs[k] = x) ∧ A = some ⟨b, off, none⟩ ∧ b < w.heap.size ∧ ok b ∧ RowK kE w ok Aa x.args ∧ RowK kS w ok As x.path ∧ w.cell? ⟨b, off + k * 7, none⟩ = some (.int .i64 x.op) ∧ w.cell? ⟨b, off + k * 7 + 1, none⟩ = some (.slice Aa x.args.length ca) ∧ w.cell? ⟨b, off + k * 7 + 2, none⟩ = some (.slice As x.path.length cp) ∧ w.cell? ⟨b, off + k * 7 + 3, none⟩ = some (.string x.attr) ∧ w.cell? ⟨b, off + k * 7 + 4, none⟩ = some (.int .i64 x.cmp) ∧ w.cell? ⟨b, off + k * 7 + 5, none⟩ = some (.string x.text) ∧ w.cell? ⟨b, off + k * 7 + 6, none⟩ = some (.int .i64 x.num) ∧ ∀ i, i < 7 → w.frozen? ⟨b, off + k * 7 + i, none⟩ = false := by
  obtain ⟨b, off, c, rfl, hlt, hok, hK, hc⟩ := h.atF k hk
  generalize xs[k] = x at hK
  obtain ⟨Aa, ca, As, cp, rfl, h1, h2⟩ := RE.rows hK
  refine ⟨x, b, off, Aa, ca, As, cp, rfl, rfl, hlt, hok, h1, h2, (hc 0 _ rfl).1, (hc 1 _ rfl).1, (hc 2 _ rfl).1, (hc 3 _ rfl).1, (hc 4 _ rfl).1, (hc 5 _ rfl).1, (hc 6 _ rfl).1, fun i hi => ?_⟩
  exact (hc i _ (List.getElem?_eq_getElem (by simpa using hi))).2

def SpE (N : Nat) : Prop := ∀ (xs : List Expr) (A : Option Addr) (ca : Nat) (w : World) (ok : Nat → Prop), RowK kE w ok A xs → (∀ k, ok k → k < w.heap.size) → ndEs xs ≤ N → Calls Tryz.prog 36 #[.slice A xs.length ca] w fun e w' => e = .returned (.tuple #[]) ∧ Tamed ok w w'
def SpP (N : Nat) : Prop := ∀ (p : List Step) (A : Option Addr) (ca : Nat) (w : World) (ok : Nat → Prop), RowK kS w ok A p → (∀ k, ok k → k < w.heap.size) → ndP p ≤ N → Calls Tryz.prog 19 #[.agg #[.slice A p.length ca]] w fun e w' => e = .returned (.tuple #[]) ∧ Tamed ok w w'

set_option maxRecDepth 100000 in
set_option maxHeartbeats 4000000 in
theorem spoil_any {N : Nat} (H : SpE N) : SpP (N + 1) := by
  intro p A ca w ok hp hok hw
  have HH := Lib.hid H
  clear H
  have hlen := hp.len
  obtain ⟨W0, hW0⟩ : ∃ W, W = w.alloc (.cells #[.slice A p.length ca] 27) := ⟨_, rfl⟩
  have BT : Blk W0 w.heap.size #[.slice A p.length ca] 27 := by rw [hW0]; exact Blk.new _ _ _
  have hb0 : Below w.heap.size w W0 := by rw [hW0]; exact bl1 (Nat.le_refl _)
  go_enter Tryz.func19, Tryz.ntmps19
  go_wp2_with fail
  rw [← hW0]
  clear hW0
  go_loopw [2] (fun i wr => ∃ (k : Nat) (ps : List Step), k ≤ p.length ∧ i = .int .i64 k ∧ ps.length = p.length ∧ ndP ps ≤ ndP p ∧ RowK kS wr ok A ps ∧ Tamed ok w wr ∧ Blk wr w.heap.size #[.slice A p.length ca] 27) (fun i _ => p.length - (intOf i).toNat)
  case atStart => exact ⟨0, p, Nat.zero_le _, rfl, rfl, Nat.le_refl _, hp.below hb0, Tamed.of_below hb0, BT⟩
  case round =>
    obtain ⟨k, ps, hk, rfl, hpl, hnd, hrow, T, B⟩ := hrel
    obtain ⟨w1, rfl⟩ : ∃ w1 : World, w1 = wr := ⟨_, rfl⟩
    have q0 := (B).cell 0
    simp at q0
    have qf := fun o => (B).frozen o
    by_cases hlt : k < p.length
    · obtain ⟨x, b, off, Aw, cw, HX, rfl, hbw, hob, hrw, x0, x1, x2, x3, xf⟩ := hrow.atSF k (by omega)
      have hwx := ndP_get ps k (by omega)
      rw [HX.out] at hwx
      have hlx : ndEs x.wh ≤ N := by have : ndS x = 1 + ndEs x.wh := by cases x; rfl
                                     omega
      have HC := Lib.hid (HH.out x.wh Aw cw w1 ok hrw (fun j hj => Nat.lt_of_lt_of_le (hok j hj) T.chg.size) hlx)
      go_wp2_with fail
      refine HC.out.mono ?_
      rintro e w2 ⟨rfl, T2⟩
      have B2 := B.chg T2.chg (fun h => absurd (hok _ h) (Nat.lt_irrefl _))
      obtain ⟨v0, c0, t0⟩ := T2.cell _ _ _ x0
      obtain ⟨v1, c1, t1⟩ := T2.cell _ _ _ x1
      obtain ⟨v2, c2, t2⟩ := T2.cell _ _ _ x2
      obtain ⟨v3, c3, t3⟩ := T2.cell _ _ _ x3
      have t3 := tame_slc t3
      obtain ⟨a0, rfl⟩ := t0.int
      obtain ⟨a1, rfl⟩ := t1.int
      obtain ⟨a2, rfl⟩ := t2.str
      have hbz : b < w2.heap.size := Nat.lt_of_lt_of_le hbw T2.chg.size
      have f0 : w2.frozen? ⟨b, off + k * 4, none⟩ = false := (T2.fz _ _ hbw).trans (xf 0 (by omega))
      have f1 : w2.frozen? ⟨b, off + k * 4 + 1, none⟩ = false := (T2.fz _ _ hbw).trans (xf 1 (by omega))
      have f2 : w2.frozen? ⟨b, off + k * 4 + 2, none⟩ = false := (T2.fz _ _ hbw).trans (xf 2 (by omega))
      have f3 : w2.frozen? ⟨b, off + k * 4 + 3, none⟩ = false := (T2.fz _ _ hbw).trans (xf 3 (by omega))
      have hne : b ≠ w.heap.size := by intro e; subst e; exact absurd (hok _ hob) (Nat.lt_irrefl _)
      clear x0 x1 x2 x3 xf q0 qf t0 t1 t2
      have q0 := (B2).cell 0
      simp at q0
      have qf := fun o => (B2).frozen o
      go_wp2_with fail
      go_roundw
      case rel =>
        have T3 := fun u0 u1 u2 => T2.set4 (u0 := .int .i64 u0) (u1 := .int .i64 u1) (u2 := .string u2) hob c0 c1 c2 c3 (tame_int _ _) (tame_int _ _) (tame_str _ _) t3
        obtain ⟨ps', e1, e2, hr⟩ := hrow.tameS (T3 _ _ _)
        exact ⟨k + 1, ps', by omega, by go_num, by omega, by omega, hr, T.trans (T3 _ _ _), B.chg (T3 _ _ _).chg (fun h => absurd (hok _ h) (Nat.lt_irrefl _))⟩
      case measure => simp [intOf]; omega
    · go_wp2_with fail
      exact bodyPost_end (results_none rfl _ _ _) rfl ⟨rfl, T⟩

set_option maxRecDepth 100000 in
set_option maxHeartbeats 8000000 in
theorem exprs_any {N : Nat} (H : SpE N) (H' : SpP N) : SpE (N + 1) := by
  intro xs A ca w ok hp hok hw
  have HH := Lib.hid H
  have HH' := Lib.hid H'
  clear H H'
  have hlen := hp.len
  go_enter Tryz.func36, Tryz.ntmps36
  go_wp2_with fail
  go_loopw [2] (fun i wr => ∃ (k : Nat) (ps : List Expr), k ≤ xs.length ∧ i = .int .i64 k ∧ ps.length = xs.length ∧ ndEs ps ≤ ndEs xs ∧ RowK kE wr ok A ps ∧ Tamed ok w wr) (fun i _ => xs.length - (intOf i).toNat)
  case atStart => exact ⟨0, xs, Nat.zero_le _, rfl, rfl, Nat.le_refl _, hp, Tamed.refl _ _⟩
  case round =>
    obtain ⟨k, ps, hk, rfl, hpl, hnd, hrow, T⟩ := hrel
    obtain ⟨w1, rfl⟩ : ∃ w1 : World, w1 = wr := ⟨_, rfl⟩
    by_cases hlt : k < xs.length
    · obtain ⟨x, b, off, Aa, c1, As, c2, HX, rfl, hbw, hob, hra, hrs, x0, x1, x2, x3, x4, x5, x6, xf⟩ := hrow.atEF k (by omega)
      have hwx := ndEs_get ps k (by omega)
      rw [HX.out] at hwx
      have hlx : ndEs x.args ≤ N := by have : ndE x = 1 + ndEs x.args + ndP x.path := by cases x; rfl
                                       omega
      have HC := Lib.hid (HH.out x.args Aa c1 w1 ok hra (fun j hj => Nat.lt_of_lt_of_le (hok j hj) T.chg.size) hlx)
      go_wp2_with fail
      refine HC.out.mono ?_
      rintro e w2 ⟨rfl, T2⟩
      obtain ⟨ps2, e1, e2, hrow2⟩ := hrow.tameE T2
      clear x0 x1 x2 x3 x4 x5 x6 xf HC hlx hra hrs hwx HX
      obtain ⟨y, b', off', Ab, d1, At, d2, HX, he, hbw2, hob2, hra, hrs, x0, x1, x2, x3, x4, x5, x6, xf⟩ := hrow2.atEF k (by omega)
      obtain ⟨rfl, rfl⟩ : b = b' ∧ off = off' := by simpa using he
      clear he
      have hwx := ndEs_get ps2 k (by omega)
      rw [HX.out] at hwx
      have hly : ndP y.path ≤ N := by have : ndE y = 1 + ndEs y.args + ndP y.path := by cases y; rfl
                                      omega
      have HC := Lib.hid (HH'.out y.path At d2 w2 ok hrs (fun j hj => Nat.lt_of_lt_of_le (hok j hj) (Nat.le_trans T.chg.size T2.chg.size)) hly)
      go_wp2_with fail
      refine HC.out.mono ?_
      rintro e w3 ⟨rfl, T3⟩
      obtain ⟨v0, c0, t0⟩ := T3.cell _ _ _ x0
      obtain ⟨v1, g1, t1⟩ := T3.cell _ _ _ x1
      obtain ⟨v2, g2, t2⟩ := T3.cell _ _ _ x2
      obtain ⟨v3, c3, t3⟩ := T3.cell _ _ _ x3
      obtain ⟨v4, c4, t4⟩ := T3.cell _ _ _ x4
      obtain ⟨v5, c5, t5⟩ := T3.cell _ _ _ x5
      obtain ⟨v6, c6, t6⟩ := T3.cell _ _ _ x6
      have t1 := tame_slc t1
      have t2 := tame_slc t2
      obtain ⟨a0, rfl⟩ := t0.int
      obtain ⟨a3, rfl⟩ := t3.str
      obtain ⟨a4, rfl⟩ := t4.int
      obtain ⟨a5, rfl⟩ := t5.str
      obtain ⟨a6, rfl⟩ := t6.int
      have hbz : b < w3.heap.size := Nat.lt_of_lt_of_le hbw2 T3.chg.size
      have f0 : w3.frozen? ⟨b, off + k * 7, none⟩ = false := (T3.fz _ _ hbw2).trans (xf 0 (by omega))
      have f1 : w3.frozen? ⟨b, off + k * 7 + 1, none⟩ = false := (T3.fz _ _ hbw2).trans (xf 1 (by omega))
      have f2 : w3.frozen? ⟨b, off + k * 7 + 2, none⟩ = false := (T3.fz _ _ hbw2).trans (xf 2 (by omega))
      have f3 : w3.frozen? ⟨b, off + k * 7 + 3, none⟩ = false := (T3.fz _ _ hbw2).trans (xf 3 (by omega))
      have f4 : w3.frozen? ⟨b, off + k * 7 + 4, none⟩ = false := (T3.fz _ _ hbw2).trans (xf 4 (by omega))
      have f5 : w3.frozen? ⟨b, off + k * 7 + 5, none⟩ = false := (T3.fz _ _ hbw2).trans (xf 5 (by omega))
      have f6 : w3.frozen? ⟨b, off + k * 7 + 6, none⟩ = false := (T3.fz _ _ hbw2).trans (xf 6 (by omega))
      clear x0 x1 x2 x3 x4 x5 x6 xf t0 t3 t4 t5 t6
      go_wp2_with fail
      go_roundw
      case rel =>
        have T4 := fun u0 u3 u4 u5 u6 => (T2.trans T3).set7 (u0 := .int .i64 u0) (u3 := .string u3) (u4 := .int .i64 u4) (u5 := .string u5) (u6 := .int .i64 u6) hob c0 g1 g2 c3 c4 c5 c6 (tame_int _ _) t1 t2 (tame_str _ _) (tame_int _ _) (tame_str _ _) (tame_int _ _)
        obtain ⟨ps', e3, e4, hr⟩ := hrow.tameE (T4 _ _ _ _ _)
        exact ⟨k + 1, ps', by omega, by go_num, by omega, by omega, hr, T.trans (T4 _ _ _ _ _)⟩
      case measure => simp [intOf]; omega
    · go_wp2_with fail
      exact bodyPost_end (results_none rfl _ _ _) rfl ⟨rfl, T⟩
theorem exprs_nil (A : Option Addr) (ca : Nat) (w : World) (ok : Nat → Prop) : Calls Tryz.prog 36 #[.slice A 0 ca] w fun e w' => e = .returned (.tuple #[]) ∧ Tamed ok w w' := by
  go_enter Tryz.func36, Tryz.ntmps36
  go_wp2_with fail
  refine wp_loop_once ?_
  go_wp2_with fail
  exact bodyPost_end (results_none rfl _ _ _) rfl ⟨rfl, Tamed.refl _ _⟩
theorem spoil_nil (A : Option Addr) (ca : Nat) (w : World) (ok : Nat → Prop) : Calls Tryz.prog 19 #[.agg #[.slice A 0 ca]] w fun e w' => e = .returned (.tuple #[]) ∧ Tamed ok w w' := by
  go_enter Tryz.func19, Tryz.ntmps19
  go_wp2_with fail
  refine wp_loop_once ?_
  go_wp2_with fail
  exact bodyPost_end (results_none rfl _ _ _) rfl ⟨rfl, Tamed.of_below (bl1 (Nat.le_refl _))⟩
theorem sp_all (N : Nat) : SpE N ∧ SpP N := by
  induction N with
  | zero =>
    have hE : SpE 0 := by
      intro xs A ca w ok hp hok hw
      have h0 : xs = [] := by
        cases xs with
        | nil => rfl
        | cons x r => have : 1 ≤ ndE x := by cases x; simp only [ndE]; omega
                      simp only [ndEs] at hw; omega
      subst h0
      exact exprs_nil A ca w ok
    have hP : SpP 0 := by
      intro xs A ca w ok hp hok hw
      have h0 : xs = [] := by
        cases xs with
        | nil => rfl
        | cons x r => have : 1 ≤ ndS x := by cases x; simp only [ndS]; omega
                      simp only [ndP] at hw; omega
      subst h0
      exact spoil_nil A ca w ok
    exact ⟨hE, hP⟩
  | succ N ih => exact ⟨exprs_any ih.1 ih.2, spoil_any ih.1⟩
end Go.Proofs.YtbbmmeaicilabaaGreatDoor
