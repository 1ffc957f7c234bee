/- ask.Same and what it calls: two paths are alike in all fields. Conditions: the paths lie in memory as trees. -/
import Derived.Test.YtbbmmeaicilabaaGreatDoorQGa
import Derived.Test.YtbbmmeaicilabaaGreatDoorProg
set_option linter.unusedVariables false
set_option linter.unusedSimpArgs false
namespace Go.Proofs.YtbbmmeaicilabaaGreatDoor
open Go.RowKit

theorem eqEs_false {xs ys : List Expr} (k : Nat) (h : k < xs.length) (h' : k < ys.length) (he : eqE xs[k] ys[k] = false) : eqEs xs ys = false := by
  cases hb : eqEs xs ys
  · rfl
  · have := (eqEs_iff xs ys).1 hb
    subst this
    rw [eqE_refl] at he; cases he
theorem eqP_false {xs ys : List Step} (k : Nat) (h : k < xs.length) (h' : k < ys.length) (he : eqS xs[k] ys[k] = false) : eqP xs ys = false := by
  cases hb : eqP xs ys
  · rfl
  · have := (eqP_iff xs ys).1 hb
    subst this
    rw [(eqS_iff _ _).2 rfl] at he; cases he
theorem eqEs_len {xs ys : List Expr} (h : xs.length ≠ ys.length) : eqEs xs ys = false := by
  cases hb : eqEs xs ys
  · rfl
  · exact absurd (by rw [(eqEs_iff xs ys).1 hb]) h
theorem eqP_len {xs ys : List Step} (h : xs.length ≠ ys.length) : eqP xs ys = false := by
  cases hb : eqP xs ys
  · rfl
  · exact absurd (by rw [(eqP_iff xs ys).1 hb]) h

def SameE (N : Nat) : Prop := ∀ (x y : Expr) cx cy (w : World) ok ok', RE w ok x cx → RE w ok' y cy → wtE x ≤ N → Calls Tryz.prog 51 #[.agg cx.toArray, .agg cy.toArray] w fun e w' => e = .returned (.bool (eqE x y)) ∧ Below w.heap.size w w'
def SameS (N : Nat) : Prop := ∀ (x y : Step) cx cy (w : World) ok ok', RS w ok x cx → RS w ok' y cy → wtS x ≤ N → Calls Tryz.prog 27 #[.agg cx.toArray, .agg cy.toArray] w fun e w' => e = .returned (.bool (eqS x y)) ∧ Below w.heap.size w w'

set_option maxHeartbeats 400000 in
theorem eqFuncE_any {N : Nat} (H : SameE N) (xs ys : List Expr) (A B : Option Addr) (ca cb : Nat) (w : World) (ok ok' : Nat → Prop) (hx : RowK kE w ok A xs) (hy : RowK kE w ok' B ys) (hN : wtEs xs ≤ N) :
    Calls Tryz.prog 50 #[.slice A xs.length ca, .slice B ys.length cb, .func (.func 51) #[] #[]] w fun e w' => e = .returned (.bool (eqEs xs ys)) ∧ Below w.heap.size w w' := by
  have hlx := hx.len
  have hly := hy.len
  by_cases hlen : xs.length = ys.length
  · have hb0 : ((xs.length : Int) != ys.length) = false := by simp [hlen]
    have hb1 : decide (xs.length = ys.length) = true := by simp [hlen]
    have hL := Lib.hid hlen
    clear hlen
    go_enter Tryz.func50, Tryz.ntmps50
    go_wp2_with fail
    go_loopw [17] (fun i wr => ∃ k : Nat, k ≤ xs.length ∧ i = .int .i64 k ∧ Hid (∀ j, j < k → ∀ (h : j < xs.length) (h' : j < ys.length), eqE xs[j] ys[j] = true) ∧ Below w.heap.size w wr) (fun i _ => xs.length - (intOf i).toNat)
    case atStart => exact ⟨0, Nat.zero_le _, rfl, fun j h => absurd h (by omega), Below.refl _ _⟩
    case round =>
      obtain ⟨k, hk, rfl, HE, hbr⟩ := hrel
      by_cases hlt : k < xs.length
      · have hlt' : k < ys.length := by have := hL.out; omega
        obtain ⟨x, b, off, Aa, c1, As, c2, HX, rfl, hbw, hR, x0, x1, x2, x3, x4, x5, x6⟩ := (hx.below hbr).atE k hlt
        obtain ⟨y, b', off', Ab, d1, At, d2, HY, rfl, hbw', hR', y0, y1, y2, y3, y4, y5, y6⟩ := (hy.below hbr).atE k hlt'
        have hbb : b ≠ wr.heap.size := by omega
        go_wp2_with fail
        refine (H x y _ _ _ ok ok' hR.al.al hR'.al.al (by have := wtEs_get xs k hlt; rw [HX.out] at this; omega)).mono ?_
        rintro e w2 ⟨rfl, hb2⟩
        cases hq : eqE x y
        · have hf : eqEs xs ys = false := eqEs_false k hlt hlt' (by rw [HX.out, HY.out]; exact hq)
          have HF := Lib.hid hf
          clear hf hq
          go_wp2_with fail
          go_ret
          exact ⟨by rw [HF.out]; rfl, hbr.trans (al2 hbr.size hb2)⟩
        · have HQ : Hid (∀ j, j < k + 1 → ∀ (h : j < xs.length) (h' : j < ys.length), eqE xs[j] ys[j] = true) := by
            intro j hj h h'
            rcases Nat.lt_or_ge j k with hjk | hjk
            · exact HE.out j hjk h h'
            · obtain rfl : j = k := by omega
              rw [HX.out, HY.out]; exact hq
          clear hq HX HY
          go_wp2_with fail
          go_roundw
          case rel => exact ⟨k + 1, by omega, by go_num, HQ, hbr.trans (al2 hbr.size hb2)⟩
          case measure => simp [intOf]; omega
      · have hf : eqEs xs ys = true := by
          rw [eqEs_iff]
          exact List.ext_getElem hL.out fun j h h' => (eqE_iff _ _).1 (HE.out j (by omega) h h')
        have HF := Lib.hid hf
        clear hf
        go_wp2_with fail
        go_ret
        exact ⟨by rw [HF.out]; rfl, hbr⟩
  · have hb0 : ((xs.length : Int) != ys.length) = true := by simp; omega
    have hf := eqEs_len hlen
    have HF := Lib.hid hf
    clear hf hlen
    go_enter Tryz.func50, Tryz.ntmps50
    go_wp2_with fail
    go_ret
    exact ⟨by rw [HF.out]; rfl, Below.refl _ _⟩
set_option maxHeartbeats 400000 in
theorem eqFuncS_any {N : Nat} (H : SameS N) (xs ys : List Step) (A B : Option Addr) (ca cb : Nat) (w : World) (ok ok' : Nat → Prop) (hx : RowK kS w ok A xs) (hy : RowK kS w ok' B ys) (hN : wtP xs ≤ N) :
    Calls Tryz.prog 26 #[.slice A xs.length ca, .slice B ys.length cb, .func (.func 27) #[] #[]] w fun e w' => e = .returned (.bool (eqP xs ys)) ∧ Below w.heap.size w w' := by
  have hlx := hx.len
  have hly := hy.len
  by_cases hlen : xs.length = ys.length
  · have hb0 : ((xs.length : Int) != ys.length) = false := by simp [hlen]
    have hb1 : decide (xs.length = ys.length) = true := by simp [hlen]
    have hL := Lib.hid hlen
    clear hlen
    go_enter Tryz.func26, Tryz.ntmps26
    go_wp2_with fail
    go_loopw [17] (fun i wr => ∃ k : Nat, k ≤ xs.length ∧ i = .int .i64 k ∧ Hid (∀ j, j < k → ∀ (h : j < xs.length) (h' : j < ys.length), eqS xs[j] ys[j] = true) ∧ Below w.heap.size w wr) (fun i _ => xs.length - (intOf i).toNat)
    case atStart => exact ⟨0, Nat.zero_le _, rfl, fun j h => absurd h (by omega), Below.refl _ _⟩
    case round =>
      obtain ⟨k, hk, rfl, HE, hbr⟩ := hrel
      by_cases hlt : k < xs.length
      · have hlt' : k < ys.length := by have := hL.out; omega
        obtain ⟨x, b, off, Aa, c1, HX, rfl, hbw, hR, x0, x1, x2, x3⟩ := (hx.below hbr).atS k hlt
        obtain ⟨y, b', off', Ab, d1, HY, rfl, hbw', hR', y0, y1, y2, y3⟩ := (hy.below hbr).atS k hlt'
        have hbb : b ≠ wr.heap.size := by omega
        go_wp2_with fail
        refine (H x y _ _ _ ok ok' hR.al.al hR'.al.al (by have := wtP_get xs k hlt; rw [HX.out] at this; omega)).mono ?_
        rintro e w2 ⟨rfl, hb2⟩
        cases hq : eqS x y
        · have hf : eqP xs ys = false := eqP_false k hlt hlt' (by rw [HX.out, HY.out]; exact hq)
          have HF := Lib.hid hf
          clear hf hq
          go_wp2_with fail
          go_ret
          exact ⟨by rw [HF.out]; rfl, hbr.trans (al2 hbr.size hb2)⟩
        · have HQ : Hid (∀ j, j < k + 1 → ∀ (h : j < xs.length) (h' : j < ys.length), eqS xs[j] ys[j] = true) := by
            intro j hj h h'
            rcases Nat.lt_or_ge j k with hjk | hjk
            · exact HE.out j hjk h h'
            · obtain rfl : j = k := by omega
              rw [HX.out, HY.out]; exact hq
          clear hq HX HY
          go_wp2_with fail
          go_roundw
          case rel => exact ⟨k + 1, by omega, by go_num, HQ, hbr.trans (al2 hbr.size hb2)⟩
          case measure => simp [intOf]; omega
      · have hf : eqP xs ys = true := by
          rw [eqP_iff]
          exact List.ext_getElem hL.out fun j h h' => (eqS_iff _ _).1 (HE.out j (by omega) h h')
        have HF := Lib.hid hf
        clear hf
        go_wp2_with fail
        go_ret
        exact ⟨by rw [HF.out]; rfl, hbr⟩
  · have hb0 : ((xs.length : Int) != ys.length) = true := by simp; omega
    have hf := eqP_len hlen
    have HF := Lib.hid hf
    clear hf hlen
    go_enter Tryz.func26, Tryz.ntmps26
    go_wp2_with fail
    go_ret
    exact ⟨by rw [HF.out]; rfl, Below.refl _ _⟩

set_option maxHeartbeats 1000000 in
theorem sameStep_any {N : Nat} (H : SameE N) : ∀ (x y : Step) cx cy (w : World) ok ok', RS w ok x cx → RS w ok' y cy → wtS x ≤ N → Calls Tryz.prog 27 #[.agg cx.toArray, .agg cy.toArray] w fun e w' => e = .returned (.bool (eqS x y)) ∧ Below w.heap.size w w' := by
  intro x y cx cy w ok ok' hx hy hN
  obtain ⟨Aw, cw, rfl, hx1⟩ := hx.rows
  obtain ⟨Bw, dw, rfl, hy1⟩ := hy.rows
  obtain ⟨ax, te, nm, wh⟩ := x
  obtain ⟨ax', te', nm', wh'⟩ := y
  clear hx hy
  simp only [Step.axis, Step.test, Step.name, Step.wh, wtS] at *
  go_enter Tryz.func27, Tryz.ntmps27
  go_wp2_with fail
  · refine (eqFuncE_any H wh wh' Aw Bw cw dw _ ok ok' hx1.al.al hy1.al.al (by omega)).mono ?_
    rintro e w2 ⟨rfl, hb2⟩
    go_wp2_with fail
    go_ret
    exact ⟨by simp [eqS, str_eq, *], al2 (Nat.le_refl _) hb2⟩
  all_goals
    go_ret
    exact ⟨by simp [eqS, str_eq, *], bl2 (Nat.le_refl _)⟩

set_option maxHeartbeats 1000000 in
theorem same_any {N : Nat} (H : SameS N) (xs ys : List Step) (A B : Option Addr) (ca cb : Nat) (w : World) (ok ok' : Nat → Prop) (hx : RowK kS w ok A xs) (hy : RowK kS w ok' B ys) (hN : wtP xs ≤ N) :
    Calls Tryz.prog 10 #[.agg #[.slice A xs.length ca], .agg #[.slice B ys.length cb]] w fun e w' => e = .returned (.bool (eqP xs ys)) ∧ Below w.heap.size w w' := by
  go_enter Tryz.func10, Tryz.ntmps10
  go_wp2_with fail
  refine (eqFuncS_any H xs ys A B ca cb _ ok ok' hx.al.al hy.al.al hN).mono ?_
  rintro e w2 ⟨rfl, hb2⟩
  go_wp2_with fail
  go_ret
  exact ⟨rfl, al2 (Nat.le_refl _) hb2⟩

set_option maxHeartbeats 2000000 in
theorem sameExpr_any {N : Nat} (H : SameE N) (HS : SameS N) : SameE (N + 1) := by
  intro x y cx cy w ok ok' hx hy hN
  obtain ⟨Aa, ca, As, cs, rfl, hx1, hx2⟩ := hx.rows
  obtain ⟨Ba, da, Bs, ds, rfl, hy1, hy2⟩ := hy.rows
  obtain ⟨op, xs, ps, at', cm, tx, nu⟩ := x
  obtain ⟨op', xs', ps', at'', cm', tx', nu'⟩ := y
  clear hx hy
  simp only [Expr.op, Expr.args, Expr.path, Expr.attr, Expr.cmp, Expr.text, Expr.num, wtE] at *
  go_enter Tryz.func51, Tryz.ntmps51
  go_wp2_with fail
  · refine (same_any HS ps ps' As Bs cs ds _ ok ok' hx2.al.al hy2.al.al (by omega)).mono ?_
    rintro e w2 ⟨rfl, hb2⟩
    obtain ⟨hq, hf⟩ := bcell hb2
    cases hp : eqP ps ps'
    · go_wp2_with fail
      go_ret
      exact ⟨by simp [eqE, *], al2 (Nat.le_refl _) hb2⟩
    · have HP := Lib.hid hp
      clear hp
      go_wp2_with fail
      refine (eqFuncE_any H xs xs' Aa Ba ca da _ ok ok' (hx1.al.al.below hb2) (hy1.al.al.below hb2) (by omega)).mono ?_
      rintro e w3 ⟨rfl, hb3⟩
      clear hq hf
      go_wp2_with fail
      go_ret
      exact ⟨by simp [eqE, str_eq, HP.out, *], (al2 (Nat.le_refl _) hb2).trans (hb3.mono (al2 (Nat.le_refl _) hb2).size)⟩
  all_goals
    go_ret
    exact ⟨by simp [eqE, str_eq, *], bl2 (Nat.le_refl _)⟩

theorem same_all (N : Nat) : SameE N ∧ SameS N := by
  induction N with
  | zero =>
    exact ⟨fun x y cx cy w ok ok' hx hy hN => absurd (wtE_pos x) (by omega), fun x y cx cy w ok ok' hx hy hN => absurd (wtS_pos x) (by omega)⟩
  | succ N ih =>
    have hE := sameExpr_any ih.1 ih.2
    exact ⟨hE, sameStep_any hE⟩
/-- ask.Same -/
theorem same_calls (xs ys : List Step) (A B : Option Addr) (ca cb : Nat) (w : World) (ok ok' : Nat → Prop) (hx : RowK kS w ok A xs) (hy : RowK kS w ok' B ys) :
    Calls Tryz.prog 10 #[.agg #[.slice A xs.length ca], .agg #[.slice B ys.length cb]] w fun e w' => e = .returned (.bool (eqP xs ys)) ∧ Below w.heap.size w w' :=
  same_any (same_all (wtP xs)).2 xs ys A B ca cb w ok ok' hx hy (Nat.le_refl _)
end Go.Proofs.YtbbmmeaicilabaaGreatDoor
