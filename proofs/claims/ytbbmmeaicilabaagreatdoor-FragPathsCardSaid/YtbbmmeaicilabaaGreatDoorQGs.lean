/- gimletref13: self, True, False, has, without, spread. Conditions: expressions lie in memory as trees; what Expr answers one level below is known. -/
import Derived.Test.YtbbmmeaicilabaaGreatDoorQGr
import Derived.Test.YtbbmmeaicilabaaGreatDoorQGf
import Derived.Test.YtbbmmeaicilabaaGreatDoorQGg
import Derived.Deep.DeepCutAuto
set_option linter.unusedVariables false
set_option linter.unusedSimpArgs false
namespace Go.Proofs.YtbbmmeaicilabaaGreatDoor
open Go.RowKit

set_option maxHeartbeats 400000 in
theorem rself_any (w : World) : Calls Tryz.prog 59 #[] w fun e w' => ∃ cs, e = .returned (.agg cs.toArray) ∧ RS w' (fun k => w.heap.size ≤ k) sPoint cs ∧ Below w.heap.size w w' := by
  go_enter Tryz.func59, Tryz.ntmps59
  go_wp2_with fail
  exact bodyPost_ret (v := .agg #[.int .i64 3, .int .i64 3, .string ⟨#[]⟩, .slice none 0 0]) (by simp [results, Tryz.results59, go_sem]) rfl ⟨[.int .i64 3, .int .i64 3, .string ⟨#[]⟩, .slice none 0 0], rfl, RS.of_rows (x := sPoint) (RowK.nil _ _ _), bl1 (Nat.le_refl _)⟩
set_option maxHeartbeats 400000 in
theorem rtrue_any (w : World) : Calls Tryz.prog 62 #[] w fun e w' => ∃ cs, e = .returned (.agg cs.toArray) ∧ RE w' (fun k => w.heap.size ≤ k) eTrue cs ∧ Below w.heap.size w w' := by
  go_enter Tryz.func62, Tryz.ntmps62
  go_wp2_with fail
  refine (rself_any _).mono ?_
  rintro e w1 ⟨cs, rfl, hR, hb⟩
  obtain ⟨Aw, cw, rfl, hrw⟩ := hR.rows
  obtain ⟨hq, hf⟩ := bcell hb
  have hz : w.heap.size < w1.heap.size := by have := hb.size; simp at this; omega
  go_wp2_with fail
  refine bodyPost_ret (v := .agg #[.int .i64 3, .slice none 0 0, .slice (some ⟨w1.heap.size, 0, none⟩) 1 1, .string ⟨#[]⟩, .int .i64 0, .string ⟨#[]⟩, .int .i64 0]) ?h1 rfl ⟨[.int .i64 3, .slice none 0 0, .slice (some ⟨w1.heap.size, 0, none⟩) 1 1, .string ⟨#[]⟩, .int .i64 0, .string ⟨#[]⟩, .int .i64 0], rfl, ?h2, ?h3⟩
  case h1 => simp [results, Tryz.results62, go_sem, hq, hz]
  case h2 =>
    refine RE.of_rows (x := eTrue) (ca := 0) (cp := 1) (RowK.nil _ _ _) (RowK.oneS (x := sPoint) (v0 := .int .i64 3) (v1 := .int .i64 3) (v2 := .string ⟨#[]⟩) (v3 := .slice Aw 0 cw) ?_ ?_ ?_ ?_ ?_ ?_)
    · omega
    · simp [go_sem]; rfl
    · simp [go_sem]; rfl
    · simp [go_sem]; rfl
    · simp [go_sem]; rfl
    · exact ((RS.mono (ok' := fun k => w.heap.size + 1 ≤ k) (by simp) hR).chg (p := fun k => k = w.heap.size) (by repeat' (first | with_reducible exact Chg.refl _ _ | with_reducible assumption | with_reducible refine Chg.al ?_ | with_reducible refine Chg.set ?_ ?_ | with_reducible refine Chg.dr ?_ | with_reducible refine Chg.dn ?_ | with_reducible rfl | omega | (simp; done) | (simp; omega))) (by intro k hk; omega)).mono (by intro k hk; omega)
  case h3 =>
    have hb' : Below w.heap.size w w1 := al1 (Nat.le_refl _) hb
    exact (by repeat' (first | with_reducible exact Below.refl _ _ | with_reducible assumption | with_reducible refine Below.alloc ?_ ?_ _ | with_reducible refine Below.setCell ?_ ?_ _ | with_reducible refine Below.drew ?_ | with_reducible refine below_dn ?_ | omega | (simp; done) | (simp; omega)))

set_option maxHeartbeats 1000000 in
theorem rfalse_any (w : World) : Calls Tryz.prog 35 #[] w fun e w' => ∃ cs, e = .returned (.agg cs.toArray) ∧ RE w' (fun k => w.heap.size ≤ k) eFalse cs ∧ Below w.heap.size w w' := by
  go_enter Tryz.func35, Tryz.ntmps35
  go_wp2_with fail
  refine (rtrue_any _).mono ?_
  rintro e w1 ⟨cs, rfl, hR, hb⟩
  obtain ⟨Aa, ca, As, cp, rfl, -, -⟩ := hR.rows
  obtain ⟨hq, hf⟩ := bcell hb
  have hz : w.heap.size < w1.heap.size := by have := hb.size; simp at this; omega
  go_wp2_with fail
  refine bodyPost_ret (v := .agg #[.int .i64 2, .slice (some ⟨w1.heap.size, 0, none⟩) 1 1, .slice none 0 0, .string ⟨#[]⟩, .int .i64 0, .string ⟨#[]⟩, .int .i64 0]) ?h1 rfl ⟨[.int .i64 2, .slice (some ⟨w1.heap.size, 0, none⟩) 1 1, .slice none 0 0, .string ⟨#[]⟩, .int .i64 0, .string ⟨#[]⟩, .int .i64 0], rfl, ?h2, ?h3⟩
  case h1 => simp [results, Tryz.results35, go_sem, hq, hz]
  case h2 =>
    refine RE.of_rows (x := eFalse) (ca := 1) (cp := 0) (RowK.oneE (x := eTrue) (v0 := .int .i64 3) (v1 := .slice Aa 0 ca) (v2 := .slice As 1 cp) (v3 := .string ByteArray.empty) (v4 := .int .i64 0) (v5 := .string ByteArray.empty) (v6 := .int .i64 0) ?_ ?_ ?_ ?_ ?_ ?_ ?_ ?_ ?_) (RowK.nil _ _ _)
    · omega
    · simp [go_sem]; rfl
    · simp [go_sem]; rfl
    · simp [go_sem]; rfl
    · simp [go_sem]; rfl
    · simp [go_sem]; rfl
    · simp [go_sem]; rfl
    · simp [go_sem]; rfl
    · exact ((RE.mono (ok' := fun k => w.heap.size + 1 ≤ k) (by simp) hR).chg (p := fun k => k = w.heap.size) (by repeat' (first | with_reducible exact Chg.refl _ _ | with_reducible assumption | with_reducible refine Chg.al ?_ | with_reducible refine Chg.set ?_ ?_ | with_reducible refine Chg.dr ?_ | with_reducible refine Chg.dn ?_ | with_reducible rfl | omega | (simp; done) | (simp; omega))) (by intro k hk; omega)).mono (by intro k hk; omega)
  case h3 =>
    have hb' : Below w.heap.size w w1 := al1 (Nat.le_refl _) hb
    exact (by repeat' (first | with_reducible exact Below.refl _ _ | with_reducible assumption | with_reducible refine Below.alloc ?_ ?_ _ | with_reducible refine Below.setCell ?_ ?_ _ | with_reducible refine Below.drew ?_ | with_reducible refine below_dn ?_ | omega | (simp; done) | (simp; omega)))

set_option maxHeartbeats 4000000 in
theorem rhas_any (l : List Expr) (x : Expr) (A : Option Addr) (ca : Nat) (cx : List Value) (ok ok' : Nat → Prop) (w : World) (hl : RowK kE w ok A l) (hx : RE w ok' x cx) : Calls Tryz.prog 86 #[.slice A l.length ca, .agg cx.toArray] w fun e w' => e = .returned (.bool (l.any (fun y => eqE y x))) ∧ Below w.heap.size w w' := by
  obtain ⟨Ba, da, Bs, dp, rfl, -, -⟩ := hx.rows
  have hlen := hl.len
  go_enter Tryz.func86, Tryz.ntmps86
  go_wp2_with fail
  go_loopw [5] (fun i wr => ∃ k : Nat, k ≤ l.length ∧ i = .int .i64 k ∧ Hid ((l.take k).any (fun y => eqE y x) = false) ∧ Below w.heap.size w wr ∧ Hid (w.heap.size < wr.heap.size ∧ ∀ o, wr.cell? ⟨w.heap.size, o, none⟩ = ([.int .i64 x.op, .slice Ba x.args.length da, .slice Bs x.path.length dp, .string x.attr, .int .i64 x.cmp, .string x.text, .int .i64 x.num])[o]?)) (fun i _ => l.length - (intOf i).toNat)
  case atStart => exact ⟨0, Nat.zero_le _, rfl, rfl, bl1 (Nat.le_refl _), by simp, fun o => by simp [go_sem]⟩
  case round =>
    obtain ⟨k, hk, rfl, HE, hbr, HB⟩ := hrel
    have hzr := HB.out.1
    by_cases hlt : k < l.length
    · obtain ⟨y, b, off, Aa, c1, As, c2, HX, rfl, hbw, hR, x0, x1, x2, x3, x4, x5, x6⟩ := (hl.below hbr).atE k hlt
      have b0 := HB.out.2 0
      have b1 := HB.out.2 1
      have b2 := HB.out.2 2
      have b3 := HB.out.2 3
      have b4 := HB.out.2 4
      have b5 := HB.out.2 5
      have b6 := HB.out.2 6
      simp at b0 b1 b2 b3 b4 b5 b6
      have hd := any_take_succ (fun y => eqE y x) l k hlt
      rw [HE.out, HX.out, Bool.false_or] at hd
      have hxr := hx.bel hbr
      go_wp2_with fail
      go_region_held3 (fun w' => w'.cell? ⟨b, off + k * 7, none⟩ = some (.int .i64 y.op) ∧ w'.cell? ⟨b, off + k * 7 + 1, none⟩ = some (.slice Aa y.args.length c1) ∧ w'.cell? ⟨b, off + k * 7 + 2, none⟩ = some (.slice As y.path.length c2) ∧ w'.cell? ⟨b, off + k * 7 + 3, none⟩ = some (.string y.attr) ∧ w'.cell? ⟨b, off + k * 7 + 4, none⟩ = some (.int .i64 y.cmp) ∧ w'.cell? ⟨b, off + k * 7 + 5, none⟩ = some (.string y.text) ∧ w'.cell? ⟨b, off + k * 7 + 6, none⟩ = some (.int .i64 y.num) ∧ w'.cell? ⟨w.heap.size, 0, none⟩ = some (.int .i64 x.op) ∧ w'.cell? ⟨w.heap.size, 1, none⟩ = some (.slice Ba x.args.length da) ∧ w'.cell? ⟨w.heap.size, 2, none⟩ = some (.slice Bs x.path.length dp) ∧ w'.cell? ⟨w.heap.size, 3, none⟩ = some (.string x.attr) ∧ w'.cell? ⟨w.heap.size, 4, none⟩ = some (.int .i64 x.cmp) ∧ w'.cell? ⟨w.heap.size, 5, none⟩ = some (.string x.text) ∧ w'.cell? ⟨w.heap.size, 6, none⟩ = some (.int .i64 x.num))
        (first | ((repeat' apply And.intro); all_goals assumption))
        (first | (go_at_call 34; refine (refAlike y x _ _ _ _ _ (hR.bel (by repeat' (first | with_reducible exact Below.refl _ _ | with_reducible assumption | with_reducible refine Below.alloc ?_ ?_ _ | with_reducible refine Below.setCell ?_ ?_ _ | with_reducible refine Below.drew ?_ | with_reducible refine below_dn ?_ | omega | (simp; done) | (simp; omega)))) (hxr.bel (by repeat' (first | with_reducible exact Below.refl _ _ | with_reducible assumption | with_reducible refine Below.alloc ?_ ?_ _ | with_reducible refine Below.setCell ?_ ?_ _ | with_reducible refine Below.drew ?_ | with_reducible refine below_dn ?_ | omega | (simp; done) | (simp; omega))))).mono ?_; rintro e w2 ⟨rfl, hb2⟩; have hbk : Below wr.heap.size wr w2 := Below.trans (by repeat' (first | with_reducible exact Below.refl _ _ | with_reducible assumption | with_reducible refine Below.alloc ?_ ?_ _ | with_reducible refine Below.setCell ?_ ?_ _ | with_reducible refine Below.drew ?_ | with_reducible refine below_dn ?_ | omega | (simp; done) | (simp; omega))) (hb2.mono (by simp)); obtain ⟨hqw2, -⟩ := bcell hbk; simp only [← hqw2 _ _ hbw, ← hqw2 _ _ hzr] at x0 x1 x2 x3 x4 x5 x6 b0 b1 b2 b3 b4 b5 b6))
      all_goals try clear x0 x1 x2 x3 x4 x5 x6 b0 b1 b2 b3 b4 b5 b6
      have HB2 : Hid (w.heap.size < w2.heap.size ∧ ∀ o, w2.cell? ⟨w.heap.size, o, none⟩ = ([.int .i64 x.op, .slice Ba x.args.length da, .slice Bs x.path.length dp, .string x.attr, .int .i64 x.cmp, .string x.text, .int .i64 x.num])[o]?) :=
        ⟨by have := hbk.size; omega, fun o => by rw [hqw2 _ _ hzr]; exact HB.out.2 o⟩
      have hB2 : Below w.heap.size w w2 := hbr.trans (hbk.mono hbr.size)
      cases hq : eqE y x
      · have HE2 : Hid ((l.take (k + 1)).any (fun y => eqE y x) = false) := by unfold Hid; rw [hd]; exact hq
        clear hd hq
        go_wp2_with fail
        go_roundw
        case rel => exact ⟨k + 1, by omega, by go_num, HE2, hB2, HB2⟩
        case measure => simp [intOf]; omega
      · have HF : Hid (l.any (fun y => eqE y x) = true) := any_of_get _ l k hlt (by rw [HX.out]; exact hq)
        clear hd hq
        go_wp2_with fail
        go_ret
        exact ⟨by rw [HF.out]; rfl, hB2⟩
    · have HF : Hid (l.any (fun y => eqE y x) = false) := by have h := HE.out; rw [List.take_of_length_le (by omega)] at h; exact h
      go_wp2_with fail
      go_ret
      exact ⟨by rw [HF.out]; rfl, hbr⟩

set_option maxHeartbeats 4000000 in
theorem rwithout_any (l : List Expr) (x : Expr) (A : Option Addr) (ca : Nat) (cx : List Value) (ok' : Nat → Prop) (B0 : Nat) (w : World) (hl : RowK kE w (fun k => B0 ≤ k) A l) (hx : RE w ok' x cx) (hB0 : B0 ≤ w.heap.size) (hsz : l.length ≤ 1000000) : Calls Tryz.prog 84 #[.slice A l.length ca, .agg cx.toArray] w fun e w' => ∃ A' c', e = .returned (.slice A' (l.filter (fun y => !eqE y x)).length c') ∧ RowK kE w' (fun k => B0 ≤ k) A' (l.filter (fun y => !eqE y x)) ∧ Below w.heap.size w w' := by
  obtain ⟨Ba, da, Bs, dp, rfl, -, -⟩ := hx.rows
  have hlen := hl.len
  have hl' := hl.move (w1 := w) (Nat.le_refl _) (fun _ _ _ => rfl)
  go_enter Tryz.func84, Tryz.ntmps84
  go_wp2_with fail
  go_loopw [5, 6] (fun v5 i wr => ∃ k : Nat, k ≤ l.length ∧ i = .int .i64 k ∧ OwnK kE 64 wr w.heap.size (fun k => B0 ≤ k) v5 ((l.take k).filter (fun y => !eqE y x)) ∧ Below w.heap.size w wr ∧ Hid (w.heap.size < wr.heap.size ∧ (∀ o, wr.cell? ⟨w.heap.size, o, none⟩ = ([.int .i64 x.op, .slice Ba x.args.length da, .slice Bs x.path.length dp, .string x.attr, .int .i64 x.cmp, .string x.text, .int .i64 x.num])[o]?) ∧ some w.heap.size ≠ v5.ownBlock)) (fun _ i _ => l.length - (intOf i).toNat)
  case atStart => exact ⟨0, Nat.zero_le _, rfl, OwnK.nil _ _ _ _ _, bl1 (Nat.le_refl _), by simp, fun o => by simp [go_sem], by simp [Value.ownBlock]⟩
  case round =>
    obtain ⟨k, hk, rfl, HO, hbr, HB⟩ := hrel
    have hzr := HB.out.1
    by_cases hlt : k < l.length
    · obtain ⟨y, b, off, Aa, c1, As, c2, HX, rfl, hbw, hR, x0, x1, x2, x3, x4, x5, x6⟩ := (hl'.below hbr).atE k hlt
      have b0 := HB.out.2.1 0
      have b1 := HB.out.2.1 1
      have b2 := HB.out.2.1 2
      have b3 := HB.out.2.1 3
      have b4 := HB.out.2.1 4
      have b5 := HB.out.2.1 5
      have b6 := HB.out.2.1 6
      simp at b0 b1 b2 b3 b4 b5 b6
      have hft := filter_take_succ (fun y => !eqE y x) l k hlt
      rw [HX.out] at hft
      have hfl : ((l.take k).filter (fun y => !eqE y x)).length ≤ l.length := Nat.le_trans (List.length_filter_le _ _) (List.length_take_le' _ _)
      generalize hacc : (l.take k).filter (fun y => !eqE y x) = acc at *
      clear hacc
      obtain ⟨Av, cv, rfl, -⟩ := HO.row
      have hxr := hx.bel hbr
      go_wp2_with fail
      go_region_held3 (fun w' => w'.cell? ⟨b, off + k * 7, none⟩ = some (.int .i64 y.op) ∧ w'.cell? ⟨b, off + k * 7 + 1, none⟩ = some (.slice Aa y.args.length c1) ∧ w'.cell? ⟨b, off + k * 7 + 2, none⟩ = some (.slice As y.path.length c2) ∧ w'.cell? ⟨b, off + k * 7 + 3, none⟩ = some (.string y.attr) ∧ w'.cell? ⟨b, off + k * 7 + 4, none⟩ = some (.int .i64 y.cmp) ∧ w'.cell? ⟨b, off + k * 7 + 5, none⟩ = some (.string y.text) ∧ w'.cell? ⟨b, off + k * 7 + 6, none⟩ = some (.int .i64 y.num) ∧ w'.cell? ⟨w.heap.size, 0, none⟩ = some (.int .i64 x.op) ∧ w'.cell? ⟨w.heap.size, 1, none⟩ = some (.slice Ba x.args.length da) ∧ w'.cell? ⟨w.heap.size, 2, none⟩ = some (.slice Bs x.path.length dp) ∧ w'.cell? ⟨w.heap.size, 3, none⟩ = some (.string x.attr) ∧ w'.cell? ⟨w.heap.size, 4, none⟩ = some (.int .i64 x.cmp) ∧ w'.cell? ⟨w.heap.size, 5, none⟩ = some (.string x.text) ∧ w'.cell? ⟨w.heap.size, 6, none⟩ = some (.int .i64 x.num))
        (first | ((repeat' apply And.intro); all_goals assumption))
        (first | (go_at_call 34; refine (refAlike y x _ _ _ _ _ (hR.bel (by repeat' (first | with_reducible exact Below.refl _ _ | with_reducible assumption | with_reducible refine Below.alloc ?_ ?_ _ | with_reducible refine Below.setCell ?_ ?_ _ | with_reducible refine Below.drew ?_ | with_reducible refine below_dn ?_ | omega | (simp; done) | (simp; omega)))) (hxr.bel (by repeat' (first | with_reducible exact Below.refl _ _ | with_reducible assumption | with_reducible refine Below.alloc ?_ ?_ _ | with_reducible refine Below.setCell ?_ ?_ _ | with_reducible refine Below.drew ?_ | with_reducible refine below_dn ?_ | omega | (simp; done) | (simp; omega))))).mono ?_; rintro e w2 ⟨rfl, hb2⟩; have hbk : Below wr.heap.size wr w2 := Below.trans (by repeat' (first | with_reducible exact Below.refl _ _ | with_reducible assumption | with_reducible refine Below.alloc ?_ ?_ _ | with_reducible refine Below.setCell ?_ ?_ _ | with_reducible refine Below.drew ?_ | with_reducible refine below_dn ?_ | omega | (simp; done) | (simp; omega))) (hb2.mono (by simp)); obtain ⟨hqw2, -⟩ := bcell hbk; simp only [← hqw2 _ _ hbw, ← hqw2 _ _ hzr] at x0 x1 x2 x3 x4 x5 x6 b0 b1 b2 b3 b4 b5 b6))
      have HB2 : Hid (w.heap.size < w2.heap.size ∧ (∀ o, w2.cell? ⟨w.heap.size, o, none⟩ = ([.int .i64 x.op, .slice Ba x.args.length da, .slice Bs x.path.length dp, .string x.attr, .int .i64 x.cmp, .string x.text, .int .i64 x.num])[o]?) ∧ some w.heap.size ≠ (Value.slice Av acc.length cv).ownBlock) :=
        ⟨by have := hbk.size; omega, fun o => by rw [hqw2 _ _ hzr]; exact HB.out.2.1 o, HB.out.2.2⟩
      have hB2 : Below w.heap.size w w2 := hbr.trans (hbk.mono hbr.size)
      have HO2 := HO.below hbk
      clear b0 b1 b2 b3 b4 b5 b6 hqw2
      cases hq : eqE y x
      · rw [hq] at hft
        have HFT := Lib.hid hft
        clear hft hq
        have C1 : Hid (∀ j, (B0 ≤ j ∧ j < w.heap.size) → B0 ≤ j ∧ some j ≠ (Value.slice Av acc.length cv).ownBlock) := by
          intro j hj
          refine ⟨by omega, fun e => ?_⟩
          have := (HO2.lt j e.symm).1
          omega
        have C4 : (acc.length + 1) * 104 ≤ 140737488355328 := by omega
        have hsz2 := hB2.size
        have hbw2 : b < w2.heap.size := by have := hbk.size; omega
        go_wp2_with (at_builtin; go_loud (refine append_ownK kE w.heap.size (fun k => B0 ≤ k) (fun k => B0 ≤ k ∧ k < w.heap.size) rfl _ _ 53 64 _ 104 rfl Tryz.underlying53 info_Expr rfl (.slice Av acc.length cv) acc y [.int .i64 y.op, .slice Aa y.args.length c1, .slice As y.path.length c2, .string y.attr, .int .i64 y.cmp, .string y.text, .int .i64 y.num] rfl rfl HO2 (hR.bel hbk) C1.out (fun j hj => by omega) (by omega) C4 (by decide) ?_; intro v1 w4 HO4 hg4 hat4))
        go_roundw
        case rel => exact ⟨k + 1, by omega, by go_num, by rw [HFT.out]; exact HO4, hB2.grown hg4 (by omega) (fun j hj => (HO2.lt j hj).1), by
          have hne : some w.heap.size ≠ (Value.slice Av acc.length cv).ownBlock := HB2.out.2.2
          have hz2 := HB2.out.1
          refine ⟨by have := hg4.size; omega, fun o => ?_, ?_⟩
          · rw [cell_same (hg4.block w.heap.size HB2.out.1 hne)]; exact HB2.out.2.1 o
          · rcases hat4 with h | ⟨b4, h, hle⟩
            · rw [h]; exact hne
            · rw [h]; intro e; have := Option.some.inj e; omega⟩
        case measure => simp [intOf]; omega
      · rw [hq] at hft
        have HFT := Lib.hid hft
        clear hft hq
        go_wp2_with fail
        go_roundw
        case rel => exact ⟨k + 1, by omega, by go_num, by rw [HFT.out]; simpa using HO2, hB2, HB2⟩
        case measure => simp [intOf]; omega
    · have htk : l.take k = l := List.take_of_length_le (by omega)
      rw [htk] at HO
      obtain ⟨Av, cv, rfl, hrv⟩ := HO.row
      clear htk
      go_wp2_with fail
      go_ret
      exact ⟨Av, cv, rfl, hrv, hbr⟩

/-- what 'Expr' answers of one expression -/
def RefAt (f : Expr → Expr) (x : Expr) : Prop := ∀ (cs : List Value) (w : World) ok, RE w ok x cs → Calls Tryz.prog 113 #[.agg cs.toArray] w fun e w' => ∃ cs', e = .returned (.agg cs'.toArray) ∧ RE w' (fun k => w.heap.size ≤ k) (f x) cs' ∧ Below w.heap.size w w'
theorem any_comm (l : List Expr) (x : Expr) : l.any (fun y => eqE y x) = memE l x := by
  unfold memE; congr 1; funext y
  cases h : eqE y x <;> cases h' : eqE x y <;> first | rfl | (rw [eqE_iff] at h'; subst h'; rw [eqE_refl] at h; cases h) | (rw [eqE_iff] at h; subst h; rw [eqE_refl] at h'; cases h')

set_option maxHeartbeats 8000000 in
theorem rspread_any (f : Expr → Expr) (op : Int) (l : List Expr) (A : Option Addr) (ca : Nat) (w : World) (ok : Nat → Prop)
    (hl : RowK kE w ok A l) (hf : ∀ x ∈ l, RefAt f x) (hsz : wtEs (spreadF f op l) ≤ 1000000) :
    Calls Tryz.prog 85 #[.slice A l.length ca, .int .i64 op] w fun e w' => ∃ A' c', e = .returned (.slice A' (spreadF f op l).length c') ∧ RowK kE w' (fun k => w.heap.size ≤ k) A' (spreadF f op l) ∧ Below w.heap.size w w' := by
  have hlen := hl.len
  have hF := Lib.hid hf
  clear hf
  go_enter Tryz.func85, Tryz.ntmps85
  go_wp2_with fail
  go_loopw [5, 6] (fun v6 i wr => ∃ k : Nat, k ≤ l.length ∧ i = .int .i64 k ∧ OwnK kE 64 wr w.heap.size (fun k => w.heap.size ≤ k) v6 (spreadF f op (l.take k)) ∧ Below w.heap.size w wr) (fun _ i _ => l.length - (intOf i).toNat)
  case atStart => exact ⟨0, Nat.zero_le _, rfl, OwnK.nil _ _ _ _ _, Below.refl _ _⟩
  case round =>
    obtain ⟨k, hk, rfl, HO, hbr⟩ := hrel
    obtain ⟨wo, rfl⟩ : ∃ wo : World, wo = wr := ⟨_, rfl⟩
    by_cases hlt : k < l.length
    · obtain ⟨x, b, off, Ax, c1, Asx, c2, HX, rfl, hbw, hR, x0, x1, x2, x3, x4, x5, x6⟩ := (hl.below hbr).atE k hlt
      go_wp2_with fail
      refine (hF.out x (by rw [← HX.out]; exact List.getElem_mem hlt) _ _ ok hR).mono ?_
      rintro e w1 ⟨cs, rfl, hR1, hb1⟩
      obtain ⟨An, cn, Sn, dn, rfl, hn1, hn2⟩ := hR1.rows
      have hB1 : Below w.heap.size w w1 := hbr.trans (hb1.mono hbr.size)
      have hsp := spread_take f op l k hlt
      rw [HX.out] at hsp
      have hspl := spread_take_len f op l (k + 1)
      have hspw := wtEs_len (spreadF f op l)
      rw [hsp] at hspl
      have HSP := Lib.hid hsp
      clear hsp
      have hwr1 : wo.heap.size ≤ w1.heap.size := hb1.size
      obtain ⟨A6, c6, rfl, -⟩ := HO.row
      have HO1 : OwnK kE 64 w1 w.heap.size (fun k => w.heap.size ≤ k) (.slice A6 (spreadF f op (l.take k)).length c6) (spreadF f op (l.take k)) := HO.below hb1
      have hv6 : ∀ j, (Value.slice A6 (spreadF f op (l.take k)).length c6).ownBlock = some j → j < wo.heap.size := fun j hj => (HO.lt j hj).2
      generalize f x = n at *
      go_upto_if 26 with fail
      go_cut [8] (fun s10 wx => ∃ A2 c2, s10 = .slice A2 (nxt op n).length c2 ∧ RowK kE wx (fun k => wo.heap.size ≤ k) A2 (nxt op n) ∧ Below w1.heap.size w1 wx)
      case first =>
        by_cases hop : n.op = op
        · have hn : nxt op n = n.args := by unfold nxt; rw [if_pos hop]
          have hnb : (n.op == op) = true := by simp [hop]
          have HN := Lib.hid hn
          clear hn hop
          go_wp2_with fail
          go_meet
          case rel => exact ⟨An, cn, by rw [HN.out], by rw [HN.out]; exact ((hn1.mono (ok' := fun k => wo.heap.size ≤ k) (fun _ h => h)).below (bl2 (Nat.le_refl _))), bl2 (Nat.le_refl _)⟩
        · have hn : nxt op n = [n] := by unfold nxt; rw [if_neg hop]
          have hnb : (n.op == op) = false := by simp [hop]
          have HN := Lib.hid hn
          clear hn hop
          go_wp2_with fail
          go_meet
          case rel =>
            refine ⟨some ⟨w1.heap.size + 1, 0, none⟩, 1, by rw [HN.out]; rfl, ?_, bl2 (Nat.le_refl _)⟩
            rw [HN.out]
            refine RowK.oneEc n An cn Sn dn (by omega) ((hR1.al.al).mono (fun _ h => h)) ?_ ?_ ?_ ?_ ?_ ?_ ?_
            all_goals simp [go_sem]
      case rest =>
        obtain ⟨A2, c2, rfl, hrow2, hbx⟩ := hcut
        have hlen2 := hrow2.len
        have hrow2' := hrow2.move (w1 := wc) (Nat.le_refl _) (fun _ _ _ => rfl)
        have HO2 := HO1.below hbx
        generalize nxt op n = nx at *
        go_wp2_with fail
        go_loopw [5, 9] (fun v6 i wi => ∃ m : Nat, m ≤ nx.length ∧ i = .int .i64 m ∧ OwnK kE 64 wi w.heap.size (fun k => w.heap.size ≤ k) v6 (addAll (spreadF f op (l.take k)) (nx.take m)) ∧ Below w.heap.size w wi ∧ Chg (fun k => k < wo.heap.size) wc wi ∧ Hid (∀ j, v6.ownBlock = some j → j < wo.heap.size ∨ wc.heap.size ≤ j)) (fun _ i _ => nx.length - (intOf i).toNat)
        case atStart => exact ⟨0, Nat.zero_le _, rfl, by simpa [addAll] using HO2, (hB1.trans (hbx.mono hB1.size)), Chg.refl _ _, fun j hj => .inl (hv6 j hj)⟩
        case round =>
          obtain ⟨m, hm, rfl, HOi, hbi, hci, hvi⟩ := hrel
          by_cases hlt2 : m < nx.length
          · have hrow3 := hrow2'.chg hci (by intro k hk; omega)
            obtain ⟨y, b2, off2, Ay, cy, Sy, dy, HY, rfl, hbw2, hRy, y0, y1, y2, y3, y4, y5, y6⟩ := hrow3.atE m hlt2
            obtain ⟨Av, cv, rfl, hrv⟩ := HOi.row
            have hta := addAll_take (spreadF f op (l.take k)) nx m hlt2
            rw [HY.out] at hta
            have htl := addAll_take_len (spreadF f op (l.take k)) nx (m + 1)
            rw [hta] at htl
            have HTA := Lib.hid hta
            clear hta
            generalize hacc : addAll (spreadF f op (l.take k)) (nx.take m) = acc at *
            clear hacc
            go_wp2_with fail
            refine (rhas_any acc y Av cv _ _ _ _ hrv hRy).mono ?_
            rintro e w2 ⟨rfl, hb2⟩
            rw [any_comm]
            have hbi2 : Below wr.heap.size wr w2 := hb2
            have HO2' := HOi.below hbi2
            obtain ⟨hqw2, hfw2⟩ := bcell hb2
            cases hq : memE acc y
            · have hae : addE acc y = acc ++ [y] := by unfold addE; rw [hq]; rfl
              rw [hae] at htl HTA
              simp at htl
              clear hq hae
              have hsz2 := hb2.size
              have hszi := hbi.size
              have hszr := hbr.size
              have C1 : Hid (∀ j, (wo.heap.size ≤ j ∧ j < wc.heap.size) → w.heap.size ≤ j ∧ some j ≠ (Value.slice Av acc.length cv).ownBlock) := by
                intro j hj
                refine ⟨by omega, fun e => ?_⟩
                rcases hvi.out j e.symm with h | h <;> omega
              have C4 : (acc.length + 1) * 104 ≤ 140737488355328 := by omega
              go_wp2_with (at_builtin; go_loud (refine append_ownK kE w.heap.size (fun k => w.heap.size ≤ k) (fun k => wo.heap.size ≤ k ∧ k < wc.heap.size) rfl _ _ 53 64 _ 104 rfl Tryz.underlying53 info_Expr rfl (.slice Av acc.length cv) acc y [.int .i64 y.op, .slice Ay y.args.length cy, .slice Sy y.path.length dy, .string y.attr, .int .i64 y.cmp, .string y.text, .int .i64 y.num] rfl rfl HO2' (hRy.bel hbi2) C1.out (fun j hj => by omega) (by omega) C4 (by decide) ?_; intro v1 w3 HO3 hg3 hat3))
              go_roundw
              case rel => exact ⟨m + 1, by omega, by go_num, by rw [HTA.out]; exact HO3, (hbi.trans (hbi2.mono hbi.size)).grown hg3 (by omega) (fun j hj => (HO2'.lt j hj).1), (hci.trans (Chg.of_below hbi2)).grown hg3 (fun j hj => hvi.out j hj), fun j hj => by
                  rcases hat3 with h | ⟨b3, h, hle⟩
                  · exact hvi.out j (by rw [← h]; exact hj)
                  · rw [h] at hj; have := Option.some.inj hj; have := hci.size; exact .inr (by omega)⟩
              case measure => simp [intOf]; omega
            · have hae : addE acc y = acc := by unfold addE; rw [hq]; rfl
              rw [hae] at HTA
              clear hq hae
              go_wp2_with fail
              go_roundw
              case rel => exact ⟨m + 1, by omega, by go_num, by rw [HTA.out]; exact HO2', hbi.trans (hbi2.mono hbi.size), hci.trans (Chg.of_below hbi2), hvi⟩
              case measure => simp [intOf]; omega
          · have htk : nx.take m = nx := List.take_of_length_le (by omega)
            rw [htk] at HOi
            go_wp2_with fail
            go_roundw
            case rel => exact ⟨k + 1, by omega, by go_num, by rw [HSP.out]; exact HOi, hbi⟩
            case measure => simp [intOf]; omega
    · have htk : l.take k = l := List.take_of_length_le (by omega)
      rw [htk] at HO
      obtain ⟨Ap, cp, rfl, hrp⟩ := HO.row
      go_wp2_with fail
      go_ret
      exact ⟨Ap, cp, rfl, hrp, hbr⟩
end Go.Proofs.YtbbmmeaicilabaaGreatDoor
