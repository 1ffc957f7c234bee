/- gimletref13: same, all, Alike: two paths are alike in all fields. Conditions: the paths lie in memory as trees. -/
import Derived.Test.YtbbmmeaicilabaaGreatDoorQGc
import Derived.Deep.RegionHeld3
set_option linter.unusedVariables false
set_option linter.unusedSimpArgs false
namespace Go.Proofs.YtbbmmeaicilabaaGreatDoor
open Go.RowKit

def RefE (N : Nat) : Prop := ∀ (x y : Expr) cx cy (w : World) ok ok', RE w ok x cx → RE w ok' y cy → wtE x ≤ N → Calls Tryz.prog 34 #[.agg cx.toArray, .agg cy.toArray] w fun e w' => e = .returned (.bool (eqE x y)) ∧ Below w.heap.size w w'

set_option maxHeartbeats 1000000 in
theorem refAll_any {N : Nat} (H : RefE N) (xs ys : List Expr) (A B : Option Addr) (ca cb : Nat) (w : World) (ok ok' : Nat → Prop) (hx : RowK kE w ok A xs) (hy : RowK kE w ok' B ys) (hN : wtEs xs ≤ N) :
    Calls Tryz.prog 60 #[.slice A xs.length ca, .slice B ys.length cb] w fun e w' => e = .returned (.bool (eqEs xs ys)) ∧ Below w.heap.size w w' := by
  have hlx := hx.len
  have hly := hy.len
  by_cases hlen : xs.length = ys.length
  · have hb0 : ((xs.length : Int) != ys.length) = false := by simp [hlen]
    have hL := Lib.hid hlen
    clear hlen
    go_enter Tryz.func60, Tryz.ntmps60
    go_wp2_with fail
    go_loopw [5] (fun i wr => ∃ k : Nat, k ≤ xs.length ∧ i = .int .i64 k ∧ Hid (∀ j, j < k → ∀ (h : j < xs.length) (h' : j < ys.length), eqE xs[j] ys[j] = true) ∧ Below w.heap.size w wr) (fun i _ => xs.length - (intOf i).toNat)
    case atStart => exact ⟨0, Nat.zero_le _, rfl, fun j h => absurd h (by omega), Below.refl _ _⟩
    case round =>
      obtain ⟨k, hk, rfl, HE, hbr⟩ := hrel
      by_cases hlt : k < xs.length
      · have hlt' : k < ys.length := by have := hL.out; omega
        obtain ⟨x, b, off, Aa, c1, As, c2, HX, rfl, hbw, hR, x0, x1, x2, x3, x4, x5, x6⟩ := (hx.below hbr).atE k hlt
        obtain ⟨y, b', off', Ab, d1, At, d2, HY, rfl, hbw', hR', y0, y1, y2, y3, y4, y5, y6⟩ := (hy.below hbr).atE k hlt'
        have hw := wtEs_get xs k hlt
        rw [HX.out] at hw
        go_wp2_with fail
        go_region_held3 (fun w' => w'.cell? ⟨b, off + k * 7, none⟩ = some (.int .i64 x.op) ∧ w'.cell? ⟨b, off + k * 7 + 1, none⟩ = some (.slice Aa x.args.length c1) ∧ w'.cell? ⟨b, off + k * 7 + 2, none⟩ = some (.slice As x.path.length c2) ∧ w'.cell? ⟨b, off + k * 7 + 3, none⟩ = some (.string x.attr) ∧ w'.cell? ⟨b, off + k * 7 + 4, none⟩ = some (.int .i64 x.cmp) ∧ w'.cell? ⟨b, off + k * 7 + 5, none⟩ = some (.string x.text) ∧ w'.cell? ⟨b, off + k * 7 + 6, none⟩ = some (.int .i64 x.num) ∧ w'.cell? ⟨b', off' + k * 7, none⟩ = some (.int .i64 y.op) ∧ w'.cell? ⟨b', off' + k * 7 + 1, none⟩ = some (.slice Ab y.args.length d1) ∧ w'.cell? ⟨b', off' + k * 7 + 2, none⟩ = some (.slice At y.path.length d2) ∧ w'.cell? ⟨b', off' + k * 7 + 3, none⟩ = some (.string y.attr) ∧ w'.cell? ⟨b', off' + k * 7 + 4, none⟩ = some (.int .i64 y.cmp) ∧ w'.cell? ⟨b', off' + k * 7 + 5, none⟩ = some (.string y.text) ∧ w'.cell? ⟨b', off' + k * 7 + 6, none⟩ = some (.int .i64 y.num))
          (first | ((repeat' apply And.intro); all_goals assumption))
          (first | (go_at_call 34; refine (H x y _ _ _ ok ok' (hR.bel (by repeat' (first | with_reducible exact Below.refl _ _ | with_reducible assumption | with_reducible refine Below.alloc ?_ ?_ _ | with_reducible refine Below.setCell ?_ ?_ _ | with_reducible refine Below.drew ?_ | with_reducible refine below_dn ?_ | omega | (simp; done) | (simp; omega)))) (hR'.bel (by repeat' (first | with_reducible exact Below.refl _ _ | with_reducible assumption | with_reducible refine Below.alloc ?_ ?_ _ | with_reducible refine Below.setCell ?_ ?_ _ | with_reducible refine Below.drew ?_ | with_reducible refine below_dn ?_ | omega | (simp; done) | (simp; omega)))) (by omega)).mono ?_; rintro e w2 ⟨rfl, hb2⟩; have hbk : Below wr.heap.size wr w2 := Below.trans (by repeat' (first | with_reducible exact Below.refl _ _ | with_reducible assumption | with_reducible refine Below.alloc ?_ ?_ _ | with_reducible refine Below.setCell ?_ ?_ _ | with_reducible refine Below.drew ?_ | with_reducible refine below_dn ?_ | omega | (simp; done) | (simp; omega))) (hb2.mono (by simp)); obtain ⟨hqw2, -⟩ := bcell hbk; simp only [← hqw2 _ _ hbw, ← hqw2 _ _ hbw'] at x0 x1 x2 x3 x4 x5 x6 y0 y1 y2 y3 y4 y5 y6))
        all_goals try clear x0 x1 x2 x3 x4 x5 x6 y0 y1 y2 y3 y4 y5 y6
        cases hq : eqE x y
        · have hf : eqEs xs ys = false := eqEs_false k hlt hlt' (by rw [HX.out, HY.out]; exact hq)
          have HF := Lib.hid hf
          clear hf hq
          go_wp2_with fail
          go_ret
          exact ⟨by rw [HF.out]; rfl, hbr.trans (hbk.mono hbr.size)⟩
        · have HQ : Hid (∀ j, j < k + 1 → ∀ (h : j < xs.length) (h' : j < ys.length), eqE xs[j] ys[j] = true) := by
            intro j hj h h'
            rcases Nat.lt_or_ge j k with hjk | hjk
            · exact HE.out j hjk h h'
            · obtain rfl : j = k := by omega
              rw [HX.out, HY.out]; exact hq
          clear hq HX HY
          go_wp2_with fail
          go_roundw
          case rel => exact ⟨k + 1, by omega, by go_num, HQ, hbr.trans (hbk.mono hbr.size)⟩
          case measure => simp [intOf]; omega
      · have hf : eqEs xs ys = true := by
          rw [eqEs_iff]
          exact List.ext_getElem hL.out fun j h h' => (eqE_iff _ _).1 (HE.out j (by omega) h h')
        have HF := Lib.hid hf
        clear hf
        go_wp2_with fail
        go_ret
        exact ⟨by rw [HF.out]; rfl, hbr⟩
  · have hb0 : ((xs.length : Int) != ys.length) = true := by simp; omega
    have hf := eqEs_len hlen
    have HF := Lib.hid hf
    clear hf hlen
    go_enter Tryz.func60, Tryz.ntmps60
    go_wp2_with fail
    go_ret
    exact ⟨by rw [HF.out]; rfl, Below.refl _ _⟩

set_option maxHeartbeats 4000000 in
theorem refSame_any {N : Nat} (H : RefE N) (xs ys : List Step) (A B : Option Addr) (ca cb : Nat) (w : World) (ok ok' : Nat → Prop) (hx : RowK kS w ok A xs) (hy : RowK kS w ok' B ys) (hN : wtP xs ≤ N) :
    Calls Tryz.prog 61 #[.agg #[.slice A xs.length ca], .agg #[.slice B ys.length cb]] w fun e w' => e = .returned (.bool (eqP xs ys)) ∧ Below w.heap.size w w' := by
  have hlx := hx.len
  have hly := hy.len
  by_cases hlen : xs.length = ys.length
  · have hb0 : ((xs.length : Int) != ys.length) = false := by simp [hlen]
    have hL := Lib.hid hlen
    clear hlen
    go_enter Tryz.func61, Tryz.ntmps61
    go_wp2_with fail
    go_loopw [5] (fun i wr => ∃ k : Nat, k ≤ xs.length ∧ i = .int .i64 k ∧ Hid (∀ j, j < k → ∀ (h : j < xs.length) (h' : j < ys.length), eqS xs[j] ys[j] = true) ∧ Below w.heap.size w wr ∧ w.heap.size + 1 < wr.heap.size ∧ wr.cell? ⟨w.heap.size, 0, none⟩ = some (.slice A xs.length ca) ∧ wr.cell? ⟨w.heap.size + 1, 0, none⟩ = some (.slice B ys.length cb)) (fun i _ => xs.length - (intOf i).toNat)
    case atStart => exact ⟨0, Nat.zero_le _, rfl, fun j h => absurd h (by omega), bl2 (Nat.le_refl _), by simp, by simp [go_sem], by simp [go_sem]⟩
    case round =>
      obtain ⟨k, hk, rfl, HE, hbr, hzr, hc0, hc1⟩ := hrel
      by_cases hlt : k < xs.length
      · have hlt' : k < ys.length := by have := hL.out; omega
        obtain ⟨x, b, off, Aa, c1, HX, rfl, hbw, hR, x0, x1, x2, x3⟩ := (hx.below hbr).atS k hlt
        obtain ⟨y, b', off', Ab, d1, HY, rfl, hbw', hR', y0, y1, y2, y3⟩ := (hy.below hbr).atS k hlt'
        have hbb : b ≠ wr.heap.size := by omega
        have hbb' : b' ≠ wr.heap.size := by omega
        obtain ⟨ax, te, nm, wh⟩ := x
        obtain ⟨ax', te', nm', wh'⟩ := y
        simp only [Step.axis, Step.test, Step.name, Step.wh] at x0 x1 x2 x3 y0 y1 y2 y3
        have hw := wtP_get xs k hlt
        rw [HX.out] at hw
        simp only [wtS] at hw
        obtain ⟨Ab2, db2, heq2, hy1⟩ := hR'.rows
        obtain ⟨Aa2, ca2, heq1, hx1⟩ := hR.rows
        simp only [Step.axis, Step.test, Step.name, Step.wh] at heq1 heq2
        simp at heq1 heq2
        obtain ⟨rfl, rfl⟩ := heq1
        obtain ⟨rfl, rfl⟩ := heq2
        simp only [Step.wh] at hx1 hy1
        go_wp2_with fail
        · refine (refAll_any H wh wh' _ _ _ _ _ ok ok' hx1.al.al hy1.al.al (by omega)).mono ?_
          rintro e w2 ⟨rfl, hb2⟩
          have hbk : Below wr.heap.size wr w2 := al2 (Nat.le_refl _) hb2
          cases hq : eqEs wh wh'
          · have hf : eqP xs ys = false := eqP_false k hlt hlt' (by rw [HX.out, HY.out]; simp [eqS, hq])
            have HF := Lib.hid hf
            clear hf hq
            go_wp2_with fail
            go_ret
            exact ⟨by rw [HF.out]; rfl, hbr.trans (hbk.mono hbr.size)⟩
          · have HQ : Hid (∀ j, j < k + 1 → ∀ (h : j < xs.length) (h' : j < ys.length), eqS xs[j] ys[j] = true) := by
              intro j hj h h'
              rcases Nat.lt_or_ge j k with hjk | hjk
              · exact HE.out j hjk h h'
              · obtain rfl : j = k := by omega
                rw [HX.out, HY.out]; simp [eqS, str_eq, *]
            clear hq HX HY
            obtain ⟨hqw, hfw⟩ := bcell hbk
            go_wp2_with fail
            go_roundw
            case rel => exact ⟨k + 1, by omega, by go_num, HQ, hbr.trans (hbk.mono hbr.size), by have := hbk.size; omega, by rw [hqw _ _ (by omega)]; exact hc0, by rw [hqw _ _ hzr]; exact hc1⟩
            case measure => simp [intOf]; omega
        all_goals
          go_ret
          exact ⟨by rw [eqP_false k hlt hlt' (by rw [HX.out, HY.out]; simp [eqS, str_eq, *])]; rfl, hbr.trans (bl2 hbr.size)⟩
      · have hf : eqP xs ys = true := by
          rw [eqP_iff]
          exact List.ext_getElem hL.out fun j h h' => (eqS_iff _ _).1 (HE.out j (by omega) h h')
        have HF := Lib.hid hf
        clear hf
        go_wp2_with fail
        go_ret
        exact ⟨by rw [HF.out]; rfl, hbr⟩
  · have hb0 : ((xs.length : Int) != ys.length) = true := by simp; omega
    have hf := eqP_len hlen
    have HF := Lib.hid hf
    clear hf hlen
    go_enter Tryz.func61, Tryz.ntmps61
    go_wp2_with fail
    go_ret
    exact ⟨by rw [HF.out]; rfl, bl2 (Nat.le_refl _)⟩

set_option maxHeartbeats 4000000 in
theorem refAlike_any {N : Nat} (H : RefE N) : RefE (N + 1) := by
  intro x y cx cy w ok ok' hx hy hN
  obtain ⟨Aa, ca, As, cs, rfl, hx1, hx2⟩ := hx.rows
  obtain ⟨Ba, da, Bs, ds, rfl, hy1, hy2⟩ := hy.rows
  obtain ⟨op, xs, ps, at', cm, tx, nu⟩ := x
  obtain ⟨op', xs', ps', at'', cm', tx', nu'⟩ := y
  clear hx hy
  simp only [Expr.op, Expr.args, Expr.path, Expr.attr, Expr.cmp, Expr.text, Expr.num, wtE] at *
  go_enter Tryz.func34, Tryz.ntmps34
  go_wp2_with fail
  · refine (refAll_any H xs xs' Aa Ba ca da _ ok ok' hx1.al.al hy1.al.al (by omega)).mono ?_
    rintro e w2 ⟨rfl, hb2⟩
    have hbk : Below w.heap.size w w2 := al2 (Nat.le_refl _) hb2
    obtain ⟨hqw2, hfw2⟩ := bcell hb2
    have hzw20 : w.heap.size < w2.heap.size := by have := hb2.size; simp at this; omega
    have hzw21 : w.heap.size + 1 < w2.heap.size := by have := hb2.size; simp at this; omega
    cases hp : eqEs xs xs'
    · go_wp2_with fail
      go_ret
      exact ⟨by simp [eqE, *], hbk⟩
    · have HP := Lib.hid hp
      clear hp
      go_wp2_with fail
      refine (refSame_any H ps ps' As Bs cs ds _ ok ok' (hx2.al.al.below hb2) (hy2.al.al.below hb2) (by omega)).mono ?_
      rintro e w3 ⟨rfl, hb3⟩
      have hbk3 : Below w.heap.size w w3 := hbk.trans (hb3.mono hbk.size)
      cases hp : eqP ps ps'
      · clear hqw2
        go_wp2_with fail
        go_ret
        exact ⟨by simp [eqE, *], hbk3⟩
      · have HQ := Lib.hid hp
        clear hp
        obtain ⟨hqw3, hfw3⟩ := bcell hbk3
        have hz30 : w.heap.size < w3.heap.size := by have := hb3.size; omega
        have hz31 : w.heap.size + 1 < w3.heap.size := by have := hb3.size; omega
        have hc : ∀ b o, b < w2.heap.size → w3.cell? ⟨b, o, none⟩ = w2.cell? ⟨b, o, none⟩ := (bcell hb3).1
        clear hqw3
        go_wp2_with fail
        all_goals
          go_ret
          exact ⟨by simp [eqE, str_eq, HP.out, HQ.out, *], hbk3⟩
  all_goals
    go_ret
    exact ⟨by simp [eqE, str_eq, *], bl2 (Nat.le_refl _)⟩
theorem refAlike_all (N : Nat) : RefE N := by
  induction N with
  | zero => exact fun x y cx cy w ok ok' hx hy hN => absurd (wtE_pos x) (by omega)
  | succ N ih => exact refAlike_any ih
/-- gimletref13.Alike -/
theorem refAlike (x y : Expr) (cx cy : List Value) (w : World) (ok ok' : Nat → Prop) (hx : RE w ok x cx) (hy : RE w ok' y cy) : Calls Tryz.prog 34 #[.agg cx.toArray, .agg cy.toArray] w fun e w' => e = .returned (.bool (eqE x y)) ∧ Below w.heap.size w w' :=
  refAlike_all (wtE x) x y cx cy w ok ok' hx hy (Nat.le_refl _)
end Go.Proofs.YtbbmmeaicilabaaGreatDoor
