/- frag: and, or, joined, where, bare, meet; expr for one level. Conditions: the expressions lie in memory as trees; what expr answers one level below is known. -/
import Derived.Test.YtbbmmeaicilabaaGreatDoorQGg
import Derived.Deep.QuietTactic
import Derived.BigQuiet
set_option linter.unusedVariables false
set_option linter.unusedSimpArgs false
namespace Go.Proofs.YtbbmmeaicilabaaGreatDoor
open Go.RowKit

set_option maxHeartbeats 1000000 in
theorem turning_any (op : Int) (out alone : Expr) (Aa As Ua Us : Option Addr) (ac sc uc tc : Nat) (w : World) :
    Calls Tryz.prog 108 #[.int .i64 op, .agg ([.int .i64 out.op, .slice Ua out.args.length uc, .slice Us out.path.length tc, .string out.attr, .int .i64 out.cmp, .string out.text, .int .i64 out.num]).toArray, .agg ([.int .i64 alone.op, .slice Aa alone.args.length ac, .slice As alone.path.length sc, .string alone.attr, .int .i64 alone.cmp, .string alone.text, .int .i64 alone.num]).toArray] w fun e w' => ∃ bo ba bu, e = .returned (.func (.func 130) #[] #[.pointer (some ⟨bo, 0, none⟩), .pointer (some ⟨ba, 0, none⟩), .pointer (some ⟨bu, 0, none⟩)]) ∧
      w'.cell? ⟨bo, 0, none⟩ = some (.int .i64 op) ∧ (∀ o, w'.cell? ⟨ba, o, none⟩ = ([.int .i64 alone.op, .slice Aa alone.args.length ac, .slice As alone.path.length sc, .string alone.attr, .int .i64 alone.cmp, .string alone.text, .int .i64 alone.num])[o]?) ∧ (∀ o, w'.cell? ⟨bu, o, none⟩ = ([.int .i64 out.op, .slice Ua out.args.length uc, .slice Us out.path.length tc, .string out.attr, .int .i64 out.cmp, .string out.text, .int .i64 out.num])[o]?) ∧ Below w.heap.size w w' := by
  go_enter Tryz.func108, Tryz.ntmps108
  go_wp2_with fail
  go_ret
  exact ⟨w.heap.size, w.heap.size + 2, w.heap.size + 1, rfl, by simp [go_sem], fun o => by simp [go_sem], fun o => by simp [go_sem], (by repeat' (first | with_reducible exact Below.refl _ _ | with_reducible assumption | with_reducible refine Below.alloc ?_ ?_ _ | with_reducible refine Below.setCell ?_ ?_ _ | with_reducible refine Below.drew ?_ | with_reducible refine below_dn ?_ | omega | (simp; done) | (simp; omega)))⟩

set_option maxHeartbeats 2000000 in
theorem ands_any (f : Expr → Expr) (l : List Expr) (A : Option Addr) (ca : Nat) (w : World) (ok : Nat → Prop) (hl : RowK kE w ok A l) (hf : ∀ x ∈ l, ExprAt f x) (hsz : wtEs (spreadF f 0 l) ≤ 1000000) :
    Calls Tryz.prog 81 #[.slice A l.length ca] w fun e w' => ∃ A' c', e = .returned (.slice A' (andsF f l).length c') ∧ RowK kE w' (fun k => w.heap.size ≤ k) A' (andsF f l) ∧ Below w.heap.size w w' := by
  have hF := Lib.hid hf
  clear hf
  go_enter Tryz.func81, Tryz.ntmps81
  go_wp2_with fail
  refine (truth_any _).mono ?_
  rintro e w1 ⟨cs, rfl, hR1, hb1⟩
  obtain ⟨A1, c1, S1, d1, rfl, -, -⟩ := hR1.rows
  go_wp2_with fail
  refine (lie_any _).mono ?_
  rintro e w2 ⟨cs, rfl, hR2, hb2⟩
  obtain ⟨A2, c2, S2, d2, rfl, -, -⟩ := hR2.rows
  go_wp2_with fail
  refine (turning_any 0 eTrue eFalse A2 S2 A1 S1 c2 d2 c1 d1 _).mono ?_
  rintro e w3 ⟨bo, ba, bu, rfl, ho, ha, hu, hb3⟩
  have hB2 : Below w.heap.size w w2 := hb1.trans (hb2.mono hb1.size)
  have hB3 : Below w.heap.size w w3 := hB2.trans (hb3.mono hB2.size)
  have h12 : w.heap.size ≤ w1.heap.size := hb1.size
  have HA := Lib.hid ha
  have HU := Lib.hid hu
  clear ha hu
  go_wp2_with fail
  refine (turning1_any f 0 eTrue eFalse l A ca bo ba bu w.heap.size A2 S2 A1 S1 c2 d2 c1 d1 w3 ok (hl.below hB3) hF.out hsz ho HA.out ((hR2.bel hb3).mono (by intro k hk; omega)) HU.out (hR1.bel (hb2.trans (hb3.mono hb2.size))) hB3.size).mono ?_
  rintro e w4 ⟨A', c', rfl, hrow, hb4⟩
  go_wp2_with fail
  go_ret
  exact ⟨A', c', rfl, hrow, hB3.trans (hb4.mono hB3.size)⟩
set_option maxHeartbeats 2000000 in
theorem ors_any (f : Expr → Expr) (l : List Expr) (A : Option Addr) (ca : Nat) (w : World) (ok : Nat → Prop) (hl : RowK kE w ok A l) (hf : ∀ x ∈ l, ExprAt f x) (hsz : wtEs (spreadF f 1 l) ≤ 1000000) :
    Calls Tryz.prog 149 #[.slice A l.length ca] w fun e w' => ∃ A' c', e = .returned (.slice A' (orsF f l).length c') ∧ RowK kE w' (fun k => w.heap.size ≤ k) A' (orsF f l) ∧ Below w.heap.size w w' := by
  have hF := Lib.hid hf
  clear hf
  go_enter Tryz.func149, Tryz.ntmps149
  go_wp2_with fail
  refine (lie_any _).mono ?_
  rintro e w1 ⟨cs, rfl, hR1, hb1⟩
  obtain ⟨A1, c1, S1, d1, rfl, -, -⟩ := hR1.rows
  go_wp2_with fail
  refine (truth_any _).mono ?_
  rintro e w2 ⟨cs, rfl, hR2, hb2⟩
  obtain ⟨A2, c2, S2, d2, rfl, -, -⟩ := hR2.rows
  go_wp2_with fail
  refine (turning_any 1 eFalse eTrue A2 S2 A1 S1 c2 d2 c1 d1 _).mono ?_
  rintro e w3 ⟨bo, ba, bu, rfl, ho, ha, hu, hb3⟩
  have hB2 : Below w.heap.size w w2 := hb1.trans (hb2.mono hb1.size)
  have hB3 : Below w.heap.size w w3 := hB2.trans (hb3.mono hB2.size)
  have h12 : w.heap.size ≤ w1.heap.size := hb1.size
  have HA := Lib.hid ha
  have HU := Lib.hid hu
  clear ha hu
  go_wp2_with fail
  refine (turning1_any f 1 eFalse eTrue l A ca bo ba bu w.heap.size A2 S2 A1 S1 c2 d2 c1 d1 w3 ok (hl.below hB3) hF.out hsz ho HA.out ((hR2.bel hb3).mono (by intro k hk; omega)) HU.out (hR1.bel (hb2.trans (hb3.mono hb2.size))) hB3.size).mono ?_
  rintro e w4 ⟨A', c', rfl, hrow, hb4⟩
  go_wp2_with fail
  go_ret
  exact ⟨A', c', rfl, hrow, hB3.trans (hb4.mono hB3.size)⟩
set_option maxHeartbeats 2000000 in
theorem where_any (f : Expr → Expr) (l : List Expr) (A : Option Addr) (ca : Nat) (w : World) (ok : Nat → Prop) (hl : RowK kE w ok A l) (hf : ∀ x ∈ l, ExprAt f x) (hsz : wtEs (spreadF f 0 l) ≤ 1000000) :
    Calls Tryz.prog 46 #[.slice A l.length ca] w fun e w' => ∃ A' c', e = .returned (.slice A' (andsF f l).length c') ∧ RowK kE w' (fun k => w.heap.size ≤ k) A' (andsF f l) ∧ Below w.heap.size w w' := by
  have hF := Lib.hid hf
  clear hf
  go_enter Tryz.func46, Tryz.ntmps46
  go_wp2_with fail
  refine (ands_any f l A ca w ok hl hF.out hsz).mono ?_
  rintro e w1 ⟨A', c', rfl, hrow, hb1⟩
  go_wp2_with fail
  go_ret
  exact ⟨A', c', rfl, hrow, hb1⟩

set_option maxHeartbeats 2000000 in
theorem joined_any (op : Int) (parts : List Expr) (non : Expr) (A Na Ns : Option Addr) (ca nc nd : Nat) (w : World) (ok : Nat → Prop) (hp : RowK kE w ok A parts) (hn : RE w ok non [.int .i64 non.op, .slice Na non.args.length nc, .slice Ns non.path.length nd, .string non.attr, .int .i64 non.cmp, .string non.text, .int .i64 non.num]) :
    Calls Tryz.prog 148 #[.int .i64 op, .slice A parts.length ca, .agg ([.int .i64 non.op, .slice Na non.args.length nc, .slice Ns non.path.length nd, .string non.attr, .int .i64 non.cmp, .string non.text, .int .i64 non.num]).toArray] w fun e w' => ∃ cs, e = .returned (.agg cs.toArray) ∧ RE w' ok (joinF op parts non) cs ∧ Below w.heap.size w w' := by
  have hlen := hp.len
  match parts, hp with
  | [], hp =>
    have hb0 : ((([] : List Expr).length : Int) == 0) = true := by simp
    go_enter Tryz.func148, Tryz.ntmps148
    go_wp2_with fail
    refine bodyPost_ret (v := .agg ([.int .i64 non.op, .slice Na non.args.length nc, .slice Ns non.path.length nd, .string non.attr, .int .i64 non.cmp, .string non.text, .int .i64 non.num]).toArray) ?h1 rfl ⟨_, rfl, ?h2, ?h3⟩
    case h1 => simp [results, Tryz.results148, go_sem]
    case h3 => exact (by repeat' (first | with_reducible exact Below.refl _ _ | with_reducible assumption | with_reducible refine Below.alloc ?_ ?_ _ | with_reducible refine Below.setCell ?_ ?_ _ | with_reducible refine Below.drew ?_ | with_reducible refine below_dn ?_ | omega | (simp; done) | (simp; omega)))
    case h2 => exact hn.bel (by repeat' (first | with_reducible exact Below.refl _ _ | with_reducible assumption | with_reducible refine Below.alloc ?_ ?_ _ | with_reducible refine Below.setCell ?_ ?_ _ | with_reducible refine Below.drew ?_ | with_reducible refine below_dn ?_ | omega | (simp; done) | (simp; omega)))
  | [x], hp =>
    obtain ⟨y, b, off, Ay, cy, Sy, dy, HY, rfl, hbw, hRy, y0, y1, y2, y3, y4, y5, y6⟩ := hp.atE 0 (by simp)
    obtain rfl : x = y := HY.out
    simp only [Nat.zero_mul, Nat.add_zero] at y0 y1 y2 y3 y4 y5 y6
    have hbb : b ≠ w.heap.size := by omega
    have hbb2 : b ≠ w.heap.size + 1 := by omega
    go_enter Tryz.func148, Tryz.ntmps148
    go_wp2_with fail
    refine bodyPost_ret (v := .agg ([.int .i64 x.op, .slice Ay x.args.length cy, .slice Sy x.path.length dy, .string x.attr, .int .i64 x.cmp, .string x.text, .int .i64 x.num]).toArray) ?h1 rfl ⟨_, rfl, ?h2, ?h3⟩
    case h1 => simp [results, Tryz.results148, go_sem]
    case h3 => exact (by repeat' (first | with_reducible exact Below.refl _ _ | with_reducible assumption | with_reducible refine Below.alloc ?_ ?_ _ | with_reducible refine Below.setCell ?_ ?_ _ | with_reducible refine Below.drew ?_ | with_reducible refine below_dn ?_ | omega | (simp; done) | (simp; omega)))
    case h2 => exact hRy.bel (by repeat' (first | with_reducible exact Below.refl _ _ | with_reducible assumption | with_reducible refine Below.alloc ?_ ?_ _ | with_reducible refine Below.setCell ?_ ?_ _ | with_reducible refine Below.drew ?_ | with_reducible refine below_dn ?_ | omega | (simp; done) | (simp; omega)))
  | x :: y :: r, hp =>
    have hb0 : (((x :: y :: r).length : Int) == 0) = false := by simp; omega
    have hb1 : (((x :: y :: r).length : Int) == 1) = false := by simp; omega
    have hjo : joinF op (x :: y :: r) non = .mk op (x :: y :: r) [] ByteArray.empty 0 ByteArray.empty 0 := rfl
    rw [hjo]
    clear hjo
    generalize x :: y :: r = l at *
    go_enter Tryz.func148, Tryz.ntmps148
    go_wp2_with fail
    refine bodyPost_ret (v := .agg #[.int .i64 op, .slice A l.length ca, .slice none 0 0, .string ⟨#[]⟩, .int .i64 0, .string ⟨#[]⟩, .int .i64 0]) ?h1 rfl ⟨[.int .i64 op, .slice A l.length ca, .slice none 0 0, .string ⟨#[]⟩, .int .i64 0, .string ⟨#[]⟩, .int .i64 0], rfl, ?h2, ?h3⟩
    case h1 => simp [results, Tryz.results148, go_sem]
    case h3 => exact (by repeat' (first | with_reducible exact Below.refl _ _ | with_reducible assumption | with_reducible refine Below.alloc ?_ ?_ _ | with_reducible refine Below.setCell ?_ ?_ _ | with_reducible refine Below.drew ?_ | with_reducible refine below_dn ?_ | omega | (simp; done) | (simp; omega)))
    case h2 => exact RE.of_rows (x := .mk op l [] ByteArray.empty 0 ByteArray.empty 0) (hp.below (by repeat' (first | with_reducible exact Below.refl _ _ | with_reducible assumption | with_reducible refine Below.alloc ?_ ?_ _ | with_reducible refine Below.setCell ?_ ?_ _ | with_reducible refine Below.drew ?_ | with_reducible refine below_dn ?_ | omega | (simp; done) | (simp; omega)))) (RowK.nil _ _ _)

theorem len_isEmpty {α : Type} (l : List α) : ((l.length : Int) == 0) = l.isEmpty := by cases l <;> simp; omega

set_option maxHeartbeats 1000000 in
theorem bare_any (s : Step) (Aw : Option Addr) (cw : Nat) (a : Int) (w : World) :
    Calls Tryz.prog 47 #[.agg ([.int .i64 s.axis, .int .i64 s.test, .string s.name, .slice Aw s.wh.length cw]).toArray, .int .i64 a] w fun e w' => e = .returned (.bool (bareF s a)) ∧ Below w.heap.size w w' := by
  go_enter Tryz.func47, Tryz.ntmps47
  go_wp2_with fail
  all_goals
    go_ret
    exact ⟨by simp [bareF, len_isEmpty, *], bl1 (Nat.le_refl _)⟩

def MeetRes (s t : Step) (w : World) (e : Ending) (w' : World) : Prop :=
  (match meetF s t with | some (x, nm) => e = .returned (.tuple #[.int .i64 x, .string nm, .bool true]) | none => e = .returned (.tuple #[.int .i64 0, .string ⟨#[]⟩, .bool false])) ∧ Below w.heap.size w w'
set_option maxHeartbeats 4000000 in
theorem meet_any (s t : Step) (Aw Bw : Option Addr) (cw dw : Nat) (w : World) :
    Calls Tryz.prog 48 #[.agg ([.int .i64 s.axis, .int .i64 s.test, .string s.name, .slice Aw s.wh.length cw]).toArray, .agg ([.int .i64 t.axis, .int .i64 t.test, .string t.name, .slice Bw t.wh.length dw]).toArray] w (MeetRes s t w) := by
  go_enter Tryz.func48, Tryz.ntmps48
  go_wp2_with fail
  all_goals try (go_quiet (fail); go_wp2_with fail)
  all_goals
    go_ret3
    refine ⟨?_, (by repeat' (first | with_reducible exact Below.refl _ _ | with_reducible assumption | with_reducible refine Below.alloc ?_ ?_ _ | with_reducible refine Below.setCell ?_ ?_ _ | with_reducible refine Below.drew ?_ | with_reducible refine below_dn ?_ | omega | (simp; done) | (simp; omega)))⟩
    simp_all [meetF, str_eq]

end Go.Proofs.YtbbmmeaicilabaaGreatDoor

/- frag: expr, one level. Conditions: the expression lies in memory as a tree of a query's shape; what expr and path answer below is known. -/
namespace Go.Proofs.YtbbmmeaicilabaaGreatDoor
open Go.RowKit

/-- what 'path' answers of one path -/
def PathAt (f : Expr → Expr) (p : List Step) : Prop := ∀ (A : Option Addr) (ca : Nat) (w : World) ok, RowK kS w ok A p → Calls Tryz.prog 25 #[.agg #[.slice A p.length ca]] w fun e w' => ∃ A' c', e = .returned (.agg #[.slice A' (pathF f p).length c']) ∧ RowK kS w' (fun k => w.heap.size ≤ k) A' (pathF f p) ∧ Below w.heap.size w w'

set_option maxHeartbeats 4000000 in
theorem expr_ands (f : Expr → Expr) (x : Expr) (h0 : x.op = 0) (hw : wtE x ≤ 1000000) (hl : ∀ y ∈ x.args, Light f y) (H : Hid (∀ y ∈ x.args, ExprAt f y)) : ExprAt (exprF f (pathF f)) x := by
  intro cs w ok hx
  obtain ⟨Aa, ca, As, cp, rfl, hxa, hxp⟩ := hx.rows
  rw [exprF_0 _ _ _ h0]
  have hsz2 : wtEs (spreadF f 0 x.args) ≤ 1000000 := by
    have h1 := (spread_light f (.inl rfl) x.args hl).2
    have h2 : wtEs x.args ≤ wtE x := by cases x; simp only [wtE, Expr.args]; omega
    omega
  clear hl hw hx
  have hb0 : (x.op == 0) = decide (0 = 0) := by rw [h0]; rfl
  have hb1 : (x.op == 1) = decide (0 = 1) := by rw [h0]; rfl
  simp at hb0 hb1
  clear h0
  generalize hr : joinF 0 (andsF f x.args) eTrue = r
  have HR := Lib.hid hr
  clear hr
  go_enter Tryz.func131, Tryz.ntmps131
  go_wp2_with fail
  refine (ands_any f x.args Aa ca _ ok hxa.al.al H.out hsz2).mono ?_
  rintro e w1 ⟨A1, c1, rfl, hr1, hb1⟩
  go_wp2_with fail
  refine (truth_any _).mono ?_
  rintro e w2 ⟨cs, rfl, hR2, hb2⟩
  obtain ⟨A2, c2, S2, d2, rfl, -, -⟩ := hR2.rows
  have hB1 : Below w.heap.size w w1 := al2 (Nat.le_refl _) hb1
  have hB2 : Below w.heap.size w w2 := hB1.trans (hb2.mono hB1.size)
  have hs1 : w.heap.size + 1 < w1.heap.size := by have := hb1.size; simp at this; omega
  have hs2 : w.heap.size + 1 < w2.heap.size := by have := hb2.size; omega
  go_wp2_with fail
  refine (joined_any 0 (andsF f x.args) eTrue A1 A2 S2 c1 c2 d2 w2 (fun k => w.heap.size + 2 ≤ k) ((hr1.below hb2).mono (by simp)) (hR2.mono (by intro k hk; omega))).mono ?_
  rintro e w3 ⟨cs, rfl, hR3, hb3⟩
  rw [HR.out] at hR3
  obtain ⟨A3, c3, S3, d3, rfl, -, -⟩ := hR3.rows
  have hs3 : w.heap.size + 1 < w3.heap.size := by have := hb3.size; omega
  have hB3 : Below w.heap.size w w3 := hB2.trans (hb3.mono hB2.size)
  have hcell : ∀ o, w3.cell? ⟨w.heap.size + 1, o, none⟩ = _ := fun o => by
    rw [hb3.cell (p := ⟨w.heap.size + 1, o, none⟩) hs2, hb2.cell (p := ⟨w.heap.size + 1, o, none⟩) hs1, hb1.cell (p := ⟨w.heap.size + 1, o, none⟩) (by simp)]
  have hfroz : ∀ o, w3.frozen? ⟨w.heap.size + 1, o, none⟩ = false := fun o => by
    rw [hb3.frozen (p := ⟨w.heap.size + 1, o, none⟩) hs2, hb2.frozen (p := ⟨w.heap.size + 1, o, none⟩) hs1, hb1.frozen (p := ⟨w.heap.size + 1, o, none⟩) (by simp)]; simp [go_sem]
  go_wp2_with fail
  refine bodyPost_ret (v := .agg ([.int .i64 r.op, .slice A3 r.args.length c3, .slice S3 r.path.length d3, .string r.attr, .int .i64 r.cmp, .string r.text, .int .i64 r.num]).toArray) ?h1 rfl ⟨_, rfl, ?h2, ?h3⟩
  case h1 => simp [results, Tryz.results131, go_sem, hcell]
  case h3 => exact (by repeat' (first | with_reducible exact Below.refl _ _ | with_reducible assumption | with_reducible refine Below.alloc ?_ ?_ _ | with_reducible refine Below.setCell ?_ ?_ _ | with_reducible refine Below.drew ?_ | with_reducible refine below_dn ?_ | omega | (simp; done) | (simp; omega)))
  case h2 => exact (hR3.chg (p := fun k => k = w.heap.size + 1) (by repeat' (first | with_reducible exact Chg.refl _ _ | with_reducible assumption | with_reducible refine Chg.al ?_ | with_reducible refine Chg.set ?_ ?_ | with_reducible refine Chg.dr ?_ | with_reducible refine Chg.dn ?_ | with_reducible rfl | omega | (simp; done) | (simp; omega))) (by intro k hk; omega)).mono (by intro k hk; omega)
set_option maxHeartbeats 4000000 in
theorem expr_ors (f : Expr → Expr) (x : Expr) (h0 : x.op = 1) (hw : wtE x ≤ 1000000) (hl : ∀ y ∈ x.args, Light f y) (H : Hid (∀ y ∈ x.args, ExprAt f y)) : ExprAt (exprF f (pathF f)) x := by
  intro cs w ok hx
  obtain ⟨Aa, ca, As, cp, rfl, hxa, hxp⟩ := hx.rows
  rw [exprF_1 _ _ _ h0]
  have hsz2 : wtEs (spreadF f 1 x.args) ≤ 1000000 := by
    have h1 := (spread_light f (.inr rfl) x.args hl).2
    have h2 : wtEs x.args ≤ wtE x := by cases x; simp only [wtE, Expr.args]; omega
    omega
  clear hl hw hx
  have hb0 : (x.op == 0) = decide (1 = 0) := by rw [h0]; rfl
  have hb1 : (x.op == 1) = decide (1 = 1) := by rw [h0]; rfl
  simp at hb0 hb1
  clear h0
  generalize hr : joinF 1 (orsF f x.args) eFalse = r
  have HR := Lib.hid hr
  clear hr
  go_enter Tryz.func131, Tryz.ntmps131
  go_wp2_with fail
  refine (ors_any f x.args Aa ca _ ok hxa.al.al H.out hsz2).mono ?_
  rintro e w1 ⟨A1, c1, rfl, hr1, hb1⟩
  go_wp2_with fail
  refine (lie_any _).mono ?_
  rintro e w2 ⟨cs, rfl, hR2, hb2⟩
  obtain ⟨A2, c2, S2, d2, rfl, -, -⟩ := hR2.rows
  have hB1 : Below w.heap.size w w1 := al2 (Nat.le_refl _) hb1
  have hB2 : Below w.heap.size w w2 := hB1.trans (hb2.mono hB1.size)
  have hs1 : w.heap.size + 1 < w1.heap.size := by have := hb1.size; simp at this; omega
  have hs2 : w.heap.size + 1 < w2.heap.size := by have := hb2.size; omega
  go_wp2_with fail
  refine (joined_any 1 (orsF f x.args) eFalse A1 A2 S2 c1 c2 d2 w2 (fun k => w.heap.size + 2 ≤ k) ((hr1.below hb2).mono (by simp)) (hR2.mono (by intro k hk; omega))).mono ?_
  rintro e w3 ⟨cs, rfl, hR3, hb3⟩
  rw [HR.out] at hR3
  obtain ⟨A3, c3, S3, d3, rfl, -, -⟩ := hR3.rows
  have hs3 : w.heap.size + 1 < w3.heap.size := by have := hb3.size; omega
  have hB3 : Below w.heap.size w w3 := hB2.trans (hb3.mono hB2.size)
  have hcell : ∀ o, w3.cell? ⟨w.heap.size + 1, o, none⟩ = _ := fun o => by
    rw [hb3.cell (p := ⟨w.heap.size + 1, o, none⟩) hs2, hb2.cell (p := ⟨w.heap.size + 1, o, none⟩) hs1, hb1.cell (p := ⟨w.heap.size + 1, o, none⟩) (by simp)]
  have hfroz : ∀ o, w3.frozen? ⟨w.heap.size + 1, o, none⟩ = false := fun o => by
    rw [hb3.frozen (p := ⟨w.heap.size + 1, o, none⟩) hs2, hb2.frozen (p := ⟨w.heap.size + 1, o, none⟩) hs1, hb1.frozen (p := ⟨w.heap.size + 1, o, none⟩) (by simp)]; simp [go_sem]
  go_wp2_with fail
  refine bodyPost_ret (v := .agg ([.int .i64 r.op, .slice A3 r.args.length c3, .slice S3 r.path.length d3, .string r.attr, .int .i64 r.cmp, .string r.text, .int .i64 r.num]).toArray) ?h1 rfl ⟨_, rfl, ?h2, ?h3⟩
  case h1 => simp [results, Tryz.results131, go_sem, hcell]
  case h3 => exact (by repeat' (first | with_reducible exact Below.refl _ _ | with_reducible assumption | with_reducible refine Below.alloc ?_ ?_ _ | with_reducible refine Below.setCell ?_ ?_ _ | with_reducible refine Below.drew ?_ | with_reducible refine below_dn ?_ | omega | (simp; done) | (simp; omega)))
  case h2 => exact (hR3.chg (p := fun k => k = w.heap.size + 1) (by repeat' (first | with_reducible exact Chg.refl _ _ | with_reducible assumption | with_reducible refine Chg.al ?_ | with_reducible refine Chg.set ?_ ?_ | with_reducible refine Chg.dr ?_ | with_reducible refine Chg.dn ?_ | with_reducible rfl | omega | (simp; done) | (simp; omega))) (by intro k hk; omega)).mono (by intro k hk; omega)

set_option maxHeartbeats 4000000 in
theorem expr_not (f : Expr → Expr) (x : Expr) (h0 : x.op = 2) (h1 : x.args.length = 1) (hl : ∀ y ∈ x.args, Light f y) (H : Hid (∀ y ∈ x.args, ExprAt f y)) : ExprAt (exprF f (pathF f)) x := by
  intro cs w ok hx
  obtain ⟨Aa, ca, As, cp, rfl, hxa, hxp⟩ := hx.rows
  rw [exprF_2 _ _ _ h0]
  obtain ⟨y, hy⟩ := List.length_eq_one_iff.1 h1
  have HL := hl y (by rw [hy]; simp)
  have HY' := Lib.hid (H.out y (by rw [hy]; simp))
  clear hl H hx
  rw [hy] at hxa h1 ⊢
  simp only [List.headD_cons]
  have hb0 : (x.op == 0) = false := by rw [h0]; rfl
  have hb1 : (x.op == 1) = false := by rw [h0]; rfl
  have hb2 : (x.op == 2) = true := by rw [h0]; rfl
  clear h0 h1 hy
  obtain ⟨y', b, off, Ay, cy, Sy, dy, HY, rfl, hbw, hRy, y0, y1, y2, y3, y4, y5, y6⟩ := hxa.atE 0 (by simp)
  obtain rfl : y = y' := HY.out
  simp only [Nat.zero_mul, Nat.add_zero] at y0 y1 y2 y3 y4 y5 y6
  have hbb : b ≠ w.heap.size := by omega
  have hbb2 : b ≠ w.heap.size + 1 := by omega
  obtain ⟨hsh, -⟩ := HL
  have HQ := HY'.out
  generalize hn : f y = n at *
  unfold ExprAt at HQ
  rw [hn] at HQ
  have HQ' := Lib.hid HQ
  clear HQ hn HY'
  clear hxa
  generalize hr : notF n = r
  have HR := Lib.hid hr
  clear hr
  go_enter Tryz.func131, Tryz.ntmps131
  go_wp2_with fail
  refine (HQ' _ _ ok hRy.al.al).mono ?_
  rintro e w1 ⟨cs, rfl, hR1, hb1⟩
  obtain ⟨An, cn, Sn, dn, rfl, hn1, hn2⟩ := hR1.rows
  have hs1 : w.heap.size + 1 < w1.heap.size := by have := hb1.size; simp at this; omega
  have hs0 : w.heap.size < w1.heap.size := by omega
  have hB1 : Below w.heap.size w w1 := al2 (Nat.le_refl _) hb1
  have hcell : ∀ o, w1.cell? ⟨w.heap.size + 1, o, none⟩ = _ := fun o => by rw [hb1.cell (p := ⟨w.heap.size + 1, o, none⟩) (by simp)]
  have hfroz : ∀ o, w1.frozen? ⟨w.heap.size + 1, o, none⟩ = false := fun o => by rw [hb1.frozen (p := ⟨w.heap.size + 1, o, none⟩) (by simp)]; simp [go_sem]
  by_cases hop : n.op = 2
  · have hnb : (n.op == 2) = true := by rw [hop]; rfl
    have hnl : n.args.length = 1 := by
      cases n with
      | mk o xs ps a c t m => simp only [Expr.op] at hop; subst hop; simp [shE] at hsh; exact hsh.1.1
    obtain ⟨z, hz⟩ := List.length_eq_one_iff.1 hnl
    have hnot : notF n = z := by unfold notF; rw [if_pos hop, hz]; rfl
    have HRZ := Lib.hid (HR.out.symm.trans hnot)
    rw [hz] at hn1
    obtain ⟨z', b', off', Az, cz, Sz, dz, HZ, rfl, hbz, hRz, z0, z1, z2, z3, z4, z5, z6⟩ := hn1.atE 0 (by simp)
    obtain rfl : z = z' := HZ.out
    simp only [Nat.zero_mul, Nat.add_zero] at z0 z1 z2 z3 z4 z5 z6
    have hbb3 : b' ≠ w1.heap.size := by omega
    have hz0 : (0 : Int) < n.args.length := by omega
    have hz1 : 0 < n.args.length := by omega
    have HN := Lib.hid hnl
    clear hop hnot hnl hz
    go_wp2_with fail
    refine bodyPost_ret (v := .agg ([.int .i64 z.op, .slice Az z.args.length cz, .slice Sz z.path.length dz, .string z.attr, .int .i64 z.cmp, .string z.text, .int .i64 z.num]).toArray) ?h1 rfl ⟨_, rfl, ?h2, ?h3⟩
    case h1 => simp [results, Tryz.results131, go_sem, hcell, hs1]
    case h3 => exact (by repeat' (first | with_reducible exact Below.refl _ _ | with_reducible assumption | with_reducible refine Below.alloc ?_ ?_ _ | with_reducible refine Below.setCell ?_ ?_ _ | with_reducible refine Below.drew ?_ | with_reducible refine below_dn ?_ | omega | (simp; done) | (simp; omega)))
    case h2 => rw [HRZ.out]; exact ((RE.mono (ok' := fun k => w.heap.size + 2 ≤ k) (by simp) hRz).chg (p := fun k => k = w.heap.size + 1) (by repeat' (first | with_reducible exact Chg.refl _ _ | with_reducible assumption | with_reducible refine Chg.al ?_ | with_reducible refine Chg.set ?_ ?_ | with_reducible refine Chg.dr ?_ | with_reducible refine Chg.dn ?_ | with_reducible rfl | omega | (simp; done) | (simp; omega))) (by intro k hk; omega)).mono (by intro k hk; omega)
  · have hnb : (n.op == 2) = false := by simp [hop]
    have hnot : notF n = .mk 2 [n] [] ByteArray.empty 0 ByteArray.empty 0 := by unfold notF; rw [if_neg hop]
    have HRZ := Lib.hid (HR.out.symm.trans hnot)
    clear hop hnot
    go_wp2_with fail
    refine bodyPost_ret (v := .agg #[.int .i64 2, .slice (some ⟨w1.heap.size + 1, 0, none⟩) 1 1, .slice none 0 0, .string ⟨#[]⟩, .int .i64 0, .string ⟨#[]⟩, .int .i64 0]) ?h1 rfl ⟨[.int .i64 2, .slice (some ⟨w1.heap.size + 1, 0, none⟩) 1 1, .slice none 0 0, .string ⟨#[]⟩, .int .i64 0, .string ⟨#[]⟩, .int .i64 0], rfl, ?h2, ?h3⟩
    case h1 => simp [results, Tryz.results131, go_sem, hcell, hs1, hs0]
    case h3 => exact (by repeat' (first | with_reducible exact Below.refl _ _ | with_reducible assumption | with_reducible refine Below.alloc ?_ ?_ _ | with_reducible refine Below.setCell ?_ ?_ _ | with_reducible refine Below.drew ?_ | with_reducible refine below_dn ?_ | omega | (simp; done) | (simp; omega)))
    case h2 =>
      rw [HRZ.out]
      refine RE.of_rows (x := .mk 2 [n] [] ByteArray.empty 0 ByteArray.empty 0) (ca := 1) (cp := 0) (RowK.oneEc (hf := ?_) n An cn Sn dn (by omega) (((RE.mono (ok' := fun k => w.heap.size + 2 ≤ k) (by simp) hR1).chg (p := fun k => k = w.heap.size + 1) (by repeat' (first | with_reducible exact Chg.refl _ _ | with_reducible assumption | with_reducible refine Chg.al ?_ | with_reducible refine Chg.set ?_ ?_ | with_reducible refine Chg.dr ?_ | with_reducible refine Chg.dn ?_ | with_reducible rfl | omega | (simp; done) | (simp; omega))) (by intro k hk; omega)).mono (by intro k hk; omega)) ?_ ?_ ?_ ?_ ?_ ?_ ?_) (RowK.nil _ _ _)
      all_goals simp [go_sem]

set_option maxHeartbeats 4000000 in
theorem expr_some (f : Expr → Expr) (x : Expr) (h0 : x.op = 3) (h1 : x.args = []) (HP : Hid (PathAt f x.path)) : ExprAt (exprF f (pathF f)) x := by
  intro cs w ok hx
  obtain ⟨Aa, ca, As, cp, rfl, hxa, hxp⟩ := hx.rows
  rw [exprF_3 _ _ _ (by omega) (by omega) (by omega)]
  have hb0 : (x.op == 0) = false := by rw [h0]; rfl
  have hb1 : (x.op == 1) = false := by rw [h0]; rfl
  have hb2 : (x.op == 2) = false := by rw [h0]; rfl
  have HO := Lib.hid h0
  have HX := Lib.hid h1
  clear h0 h1 hx hxa
  generalize hc : cmpF x = c
  have HC := Lib.hid hc
  clear hc
  go_enter Tryz.func131, Tryz.ntmps131
  go_wp2_with fail
  refine (HP.out As cp _ ok hxp.al.al).mono ?_
  rintro e w1 ⟨A1, c1, rfl, hr1, hb1⟩
  have hs1 : w.heap.size + 1 < w1.heap.size := by have := hb1.size; simp at this; omega
  have hs0 : w.heap.size < w1.heap.size := by omega
  have hB1 : Below w.heap.size w w1 := al2 (Nat.le_refl _) hb1
  have hcell : ∀ o, w1.cell? ⟨w.heap.size + 1, o, none⟩ = _ := fun o => by rw [hb1.cell (p := ⟨w.heap.size + 1, o, none⟩) (by simp)]
  have hfroz : ∀ o, w1.frozen? ⟨w.heap.size + 1, o, none⟩ = false := fun o => by rw [hb1.frozen (p := ⟨w.heap.size + 1, o, none⟩) (by simp)]; simp [go_sem]
  have hcel0 : ∀ o, w1.cell? ⟨w.heap.size, o, none⟩ = _ := fun o => by rw [hb1.cell (p := ⟨w.heap.size, o, none⟩) (by simp; omega)]
  have hfro0 : ∀ o, w1.frozen? ⟨w.heap.size, o, none⟩ = false := fun o => by rw [hb1.frozen (p := ⟨w.heap.size, o, none⟩) (by simp; omega)]; simp [go_sem]
  go_wp2_with fail
  · have hc0 : c = 0 := by rw [← HC.out]; unfold cmpF; simp_all [str_eq, empty_toList]
    refine bodyPost_ret (v := .agg #[.int .i64 x.op, .slice Aa x.args.length ca, .slice A1 (pathF f x.path).length c1, .string x.attr, .int .i64 0, .string x.text, .int .i64 x.num]) ?h1 rfl ⟨[.int .i64 x.op, .slice Aa x.args.length ca, .slice A1 (pathF f x.path).length c1, .string x.attr, .int .i64 0, .string x.text, .int .i64 x.num], rfl, ?h2, ?h3⟩
    case h1 => simp [results, Tryz.results131, go_sem, hcell, hcel0, hs1, hs0, *]
    case h3 => exact (by repeat' (first | with_reducible exact Below.refl _ _ | with_reducible assumption | with_reducible refine Below.alloc ?_ ?_ _ | with_reducible refine Below.setCell ?_ ?_ _ | with_reducible refine Below.drew ?_ | with_reducible refine below_dn ?_ | omega | (simp; done) | (simp; omega)))
    case h2 =>
      rw [hc0]
      refine RE.of_rows (x := .mk x.op x.args (pathF f x.path) x.attr 0 x.text x.num) ?h4 ?h5
      case h4 => show RowK kE _ _ Aa x.args; rw [HX.out]; exact RowK.nil _ _ _
      case h5 => exact ((hr1.mono (ok' := fun k => w.heap.size + 2 ≤ k) (by simp)).chg (p := fun k => k ≤ w.heap.size + 1) (by repeat' (first | with_reducible exact Chg.refl _ _ | with_reducible assumption | with_reducible refine Chg.al ?_ | with_reducible refine Chg.set ?_ ?_ | with_reducible refine Chg.dr ?_ | with_reducible refine Chg.dn ?_ | with_reducible rfl | omega | (simp; done) | (simp; omega))) (by intro k hk; omega)).mono (by intro k hk; omega)
  · have hc0 : c = 0 := by rw [← HC.out]; unfold cmpF; simp_all [str_eq, empty_toList]
    refine bodyPost_ret (v := .agg #[.int .i64 x.op, .slice Aa x.args.length ca, .slice A1 (pathF f x.path).length c1, .string x.attr, .int .i64 0, .string x.text, .int .i64 x.num]) ?h1 rfl ⟨[.int .i64 x.op, .slice Aa x.args.length ca, .slice A1 (pathF f x.path).length c1, .string x.attr, .int .i64 0, .string x.text, .int .i64 x.num], rfl, ?h2, ?h3⟩
    case h1 => simp [results, Tryz.results131, go_sem, hcell, hcel0, hs1, hs0, *]
    case h3 => exact (by repeat' (first | with_reducible exact Below.refl _ _ | with_reducible assumption | with_reducible refine Below.alloc ?_ ?_ _ | with_reducible refine Below.setCell ?_ ?_ _ | with_reducible refine Below.drew ?_ | with_reducible refine below_dn ?_ | omega | (simp; done) | (simp; omega)))
    case h2 =>
      rw [hc0]
      refine RE.of_rows (x := .mk x.op x.args (pathF f x.path) x.attr 0 x.text x.num) ?h4 ?h5
      case h4 => show RowK kE _ _ Aa x.args; rw [HX.out]; exact RowK.nil _ _ _
      case h5 => exact ((hr1.mono (ok' := fun k => w.heap.size + 2 ≤ k) (by simp)).chg (p := fun k => k ≤ w.heap.size + 1) (by repeat' (first | with_reducible exact Chg.refl _ _ | with_reducible assumption | with_reducible refine Chg.al ?_ | with_reducible refine Chg.set ?_ ?_ | with_reducible refine Chg.dr ?_ | with_reducible refine Chg.dn ?_ | with_reducible rfl | omega | (simp; done) | (simp; omega))) (by intro k hk; omega)).mono (by intro k hk; omega)
  · have hc0 : c = 0 := by rw [← HC.out]; unfold cmpF; simp_all [str_eq, empty_toList]
    refine bodyPost_ret (v := .agg #[.int .i64 x.op, .slice Aa x.args.length ca, .slice A1 (pathF f x.path).length c1, .string x.attr, .int .i64 0, .string x.text, .int .i64 x.num]) ?h1 rfl ⟨[.int .i64 x.op, .slice Aa x.args.length ca, .slice A1 (pathF f x.path).length c1, .string x.attr, .int .i64 0, .string x.text, .int .i64 x.num], rfl, ?h2, ?h3⟩
    case h1 => simp [results, Tryz.results131, go_sem, hcell, hcel0, hs1, hs0, *]
    case h3 => exact (by repeat' (first | with_reducible exact Below.refl _ _ | with_reducible assumption | with_reducible refine Below.alloc ?_ ?_ _ | with_reducible refine Below.setCell ?_ ?_ _ | with_reducible refine Below.drew ?_ | with_reducible refine below_dn ?_ | omega | (simp; done) | (simp; omega)))
    case h2 =>
      rw [hc0]
      refine RE.of_rows (x := .mk x.op x.args (pathF f x.path) x.attr 0 x.text x.num) ?h4 ?h5
      case h4 => show RowK kE _ _ Aa x.args; rw [HX.out]; exact RowK.nil _ _ _
      case h5 => exact ((hr1.mono (ok' := fun k => w.heap.size + 2 ≤ k) (by simp)).chg (p := fun k => k ≤ w.heap.size + 1) (by repeat' (first | with_reducible exact Chg.refl _ _ | with_reducible assumption | with_reducible refine Chg.al ?_ | with_reducible refine Chg.set ?_ ?_ | with_reducible refine Chg.dr ?_ | with_reducible refine Chg.dn ?_ | with_reducible rfl | omega | (simp; done) | (simp; omega))) (by intro k hk; omega)).mono (by intro k hk; omega)
  · have hc0 : c = x.cmp := by rw [← HC.out]; unfold cmpF; simp_all [str_eq, empty_toList]
    refine bodyPost_ret (v := .agg #[.int .i64 x.op, .slice Aa x.args.length ca, .slice A1 (pathF f x.path).length c1, .string x.attr, .int .i64 x.cmp, .string x.text, .int .i64 x.num]) ?h1 rfl ⟨[.int .i64 x.op, .slice Aa x.args.length ca, .slice A1 (pathF f x.path).length c1, .string x.attr, .int .i64 x.cmp, .string x.text, .int .i64 x.num], rfl, ?h2, ?h3⟩
    case h1 => simp [results, Tryz.results131, go_sem, hcell, hcel0, hs1, hs0, *]
    case h3 => exact (by repeat' (first | with_reducible exact Below.refl _ _ | with_reducible assumption | with_reducible refine Below.alloc ?_ ?_ _ | with_reducible refine Below.setCell ?_ ?_ _ | with_reducible refine Below.drew ?_ | with_reducible refine below_dn ?_ | omega | (simp; done) | (simp; omega)))
    case h2 =>
      rw [hc0]
      refine RE.of_rows (x := .mk x.op x.args (pathF f x.path) x.attr x.cmp x.text x.num) ?h4 ?h5
      case h4 => show RowK kE _ _ Aa x.args; rw [HX.out]; exact RowK.nil _ _ _
      case h5 => exact ((hr1.mono (ok' := fun k => w.heap.size + 2 ≤ k) (by simp)).chg (p := fun k => k ≤ w.heap.size + 1) (by repeat' (first | with_reducible exact Chg.refl _ _ | with_reducible assumption | with_reducible refine Chg.al ?_ | with_reducible refine Chg.set ?_ ?_ | with_reducible refine Chg.dr ?_ | with_reducible refine Chg.dn ?_ | with_reducible rfl | omega | (simp; done) | (simp; omega))) (by intro k hk; omega)).mono (by intro k hk; omega)
  · have hc0 : c = x.cmp := by rw [← HC.out]; unfold cmpF; simp_all [str_eq, empty_toList]
    refine bodyPost_ret (v := .agg #[.int .i64 x.op, .slice Aa x.args.length ca, .slice A1 (pathF f x.path).length c1, .string x.attr, .int .i64 x.cmp, .string x.text, .int .i64 x.num]) ?h1 rfl ⟨[.int .i64 x.op, .slice Aa x.args.length ca, .slice A1 (pathF f x.path).length c1, .string x.attr, .int .i64 x.cmp, .string x.text, .int .i64 x.num], rfl, ?h2, ?h3⟩
    case h1 => simp [results, Tryz.results131, go_sem, hcell, hcel0, hs1, hs0, *]
    case h3 => exact (by repeat' (first | with_reducible exact Below.refl _ _ | with_reducible assumption | with_reducible refine Below.alloc ?_ ?_ _ | with_reducible refine Below.setCell ?_ ?_ _ | with_reducible refine Below.drew ?_ | with_reducible refine below_dn ?_ | omega | (simp; done) | (simp; omega)))
    case h2 =>
      rw [hc0]
      refine RE.of_rows (x := .mk x.op x.args (pathF f x.path) x.attr x.cmp x.text x.num) ?h4 ?h5
      case h4 => show RowK kE _ _ Aa x.args; rw [HX.out]; exact RowK.nil _ _ _
      case h5 => exact ((hr1.mono (ok' := fun k => w.heap.size + 2 ≤ k) (by simp)).chg (p := fun k => k ≤ w.heap.size + 1) (by repeat' (first | with_reducible exact Chg.refl _ _ | with_reducible assumption | with_reducible refine Chg.al ?_ | with_reducible refine Chg.set ?_ ?_ | with_reducible refine Chg.dr ?_ | with_reducible refine Chg.dn ?_ | with_reducible rfl | omega | (simp; done) | (simp; omega))) (by intro k hk; omega)).mono (by intro k hk; omega)
end Go.Proofs.YtbbmmeaicilabaaGreatDoor
