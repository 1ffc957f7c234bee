/- gimletlaw13: list, copied: a path as new memory. Conditions: the path lies in memory as a tree, of weight four million at most. -/
import Derived.Test.YtbbmmeaicilabaaGreatDoorQGj
import Derived.Test.YtbbmmeaicilabaaGreatDoorQGg
set_option linter.unusedVariables false
set_option linter.unusedSimpArgs false
namespace Go.Proofs.YtbbmmeaicilabaaGreatDoor
open Go.RowKit

def CopL (N : Nat) : Prop := ∀ (xs : List Expr) (A : Option Addr) (ca : Nat) (w : World) (ok : Nat → Prop), RowK kE w ok A xs → wtEs xs < N → Calls Tryz.prog 29 #[.slice A xs.length ca] w fun e w' => ∃ A' c', e = .returned (.slice A' xs.length c') ∧ RowK kE w' (fun k => w.heap.size ≤ k) A' xs ∧ Below w.heap.size w w'
def CopP (N : Nat) : Prop := ∀ (xs : List Step) (A : Option Addr) (ca : Nat) (w : World) (ok : Nat → Prop), RowK kS w ok A xs → wtP xs < N → Calls Tryz.prog 12 #[.agg #[.slice A xs.length ca]] w fun e w' => ∃ A' c', e = .returned (.agg #[.slice A' xs.length c']) ∧ RowK kS w' (fun k => w.heap.size ≤ k) A' xs ∧ Below w.heap.size w w'

set_option maxHeartbeats 8000000 in
theorem list_any {N : Nat} (hN : N + 1 ≤ 4000000) (H : CopL N) (H' : CopP N) : CopL (N + 1) := by
  intro xs A ca w ok hx hw
  have hlx := hx.len
  have hlw := wtEs_len xs
  have HL := Lib.hid H
  have HP := Lib.hid H'
  clear H H'
  go_enter Tryz.func29, Tryz.ntmps29
  go_wp2_with fail
  go_loopw [3, 4] (fun v i wr => ∃ k : Nat, k ≤ xs.length ∧ i = .int .i64 k ∧ OwnK kE 64 wr w.heap.size (fun k => w.heap.size ≤ k) v (xs.take k) ∧ Below w.heap.size w wr) (fun _ i _ => xs.length - (intOf i).toNat)
  case atStart => exact ⟨0, Nat.zero_le _, rfl, OwnK.nil _ _ _ _ _, Below.refl _ _⟩
  case round =>
    obtain ⟨k, hk, rfl, HO, hbr⟩ := hrel
    obtain ⟨wo, rfl⟩ : ∃ wo : World, wo = wr := ⟨_, rfl⟩
    obtain ⟨A3, c3, rfl, -⟩ := HO.row
    by_cases hlt : k < xs.length
    · obtain ⟨x, b, off, Aa, c1, As, c2, HX, rfl, hbw, hR, x0, x1, x2, x3, x4, x5, x6⟩ := (hx.below hbr).atE k hlt
      have hwx := wtEs_get xs k hlt
      rw [HX.out] at hwx
      have hws : wtE x = 1 + x.attr.size + x.text.size + wtEs x.args + wtP x.path := by cases x; rfl
      obtain ⟨Ab, cb, Sb, db, he, hrw, hrp⟩ := hR.rows
      obtain ⟨⟨rfl, rfl⟩, rfl, rfl⟩ : (Aa = Ab ∧ c1 = cb) ∧ As = Sb ∧ c2 = db := by simpa using he
      clear he
      have hbb : b ≠ wo.heap.size := by omega
      have hal : (xs.take k).length ≤ xs.length := List.length_take_le' _ _
      have htk : xs.take (k + 1) = xs.take k ++ [x] := by rw [← HX.out, ← List.take_append_getElem hlt]
      have HTK := Lib.hid htk
      clear htk
      generalize xs.take k = acc at *
      have hv3 : ∀ j, (Value.slice A3 acc.length c3).ownBlock = some j → j < wo.heap.size := fun j hj => (HO.lt j hj).2
      go_wp2_with fail
      refine (HL.out x.args Aa c1 _ ok hrw.al (by omega)).mono ?_
      rintro e w1 ⟨A1, d1, rfl, hr1, hb1⟩
      have B1 := (Blk.new wo #[.int .i64 x.op, .slice Aa x.args.length c1, .slice As x.path.length c2, .string x.attr, .int .i64 x.cmp, .string x.text, .int .i64 x.num] 64).below hb1
      have q0 := (B1).cell 0
      have q1 := (B1).cell 1
      have q2 := (B1).cell 2
      have q3 := (B1).cell 3
      have q4 := (B1).cell 4
      have q5 := (B1).cell 5
      have q6 := (B1).cell 6
      simp at q0 q1 q2 q3 q4 q5 q6
      have qf := fun o => (B1).frozen o
      have hz1 := B1.lt
      have hbo1 : Below wo.heap.size wo w1 := al1 (Nat.le_refl _) hb1
      clear x0 x1 x2 x3 x4 x5 x6
      go_wp2_with fail
      have hbo2 : Below wo.heap.size wo (w1.setCell ⟨wo.heap.size, 1, none⟩ (.slice A1 x.args.length d1)) := hbo1.setCell (p := ⟨wo.heap.size, 1, none⟩) (Nat.le_refl _) _
      refine (HP.out x.path As c2 _ ok (hrp.below hbo2) (by omega)).mono ?_
      rintro e w3 ⟨A2, d2, rfl, hr3, hb3⟩
      have B2 := B1.set 1 (.slice A1 x.args.length d1)
      simp at B2
      have B3 := B2.below hb3
      have f0 := (B3).cell 0
      have f1 := (B3).cell 1
      have f2 := (B3).cell 2
      have f3 := (B3).cell 3
      have f4 := (B3).cell 4
      have f5 := (B3).cell 5
      have f6 := (B3).cell 6
      simp at f0 f1 f2 f3 f4 f5 f6
      have ff := fun o => (B3).frozen o
      have hz3 := B3.lt
      have hbo3 : Below wo.heap.size wo w3 := hbo2.trans (hb3.mono hbo2.size)
      have hr1' := ((hr1.mono (ok' := fun k => wo.heap.size + 1 ≤ k) (by simp)).chg (p := fun k => k = wo.heap.size) (Chg.set (ad := ⟨wo.heap.size, 1, none⟩) (u := .slice A1 x.args.length d1) rfl (Chg.refl _ _)) (by intro k hk; omega)).below hb3
      have hr3' := hr3.mono (ok' := fun k => wo.heap.size + 1 ≤ k) (by simp; intros; omega)
      have hbo4 : Below wo.heap.size wo (w3.setCell ⟨wo.heap.size, 2, none⟩ (.slice A2 x.path.length d2)) := hbo3.setCell (p := ⟨wo.heap.size, 2, none⟩) (Nat.le_refl _) _
      have hc4 : Chg (fun k => k = wo.heap.size) w3 (w3.setCell ⟨wo.heap.size, 2, none⟩ (.slice A2 x.path.length d2)) := Chg.set (ad := ⟨wo.heap.size, 2, none⟩) rfl (Chg.refl _ _)
      have hRE := RE.of_rows (x := x) (ca := d1) (cp := d2) (hr1'.chg hc4 (by intro k hk; omega)) (hr3'.chg hc4 (by intro k hk; omega))
      have HO4 := HO.below hbo4
      have C1 : Hid (∀ j, (wo.heap.size + 1 ≤ j) → w.heap.size ≤ j ∧ some j ≠ (Value.slice A3 acc.length c3).ownBlock) := by
        intro j hj
        refine ⟨by have := hbr.size; omega, fun e => ?_⟩
        have := hv3 j e.symm
        omega
      have C4 : (acc.length + 1) * 104 ≤ 140737488355328 := by omega
      have hbz := hbr.trans (hbo4.mono hbr.size)
      have hsz4 : w.heap.size ≤ w3.heap.size := by have := hbo3.size; have := hbr.size; omega
      have B4 := B3.set 2 (.slice A2 x.path.length d2)
      simp at B4
      go_upto_region 8 with fail
      clear f0 f1 f2 f3 f4 f5 f6 ff q0 q1 q2 q3 q4 q5 q6 qf
      have hsz34 : w3.heap.size ≤ (w3.setCell ⟨wo.heap.size, 2, none⟩ (.slice A2 x.path.length d2)).heap.size := hc4.size
      generalize w3.setCell ⟨wo.heap.size, 2, none⟩ (.slice A2 x.path.length d2) = W4 at *
      have q0 := (B4).cell 0
      have q1 := (B4).cell 1
      have q2 := (B4).cell 2
      have q3 := (B4).cell 3
      have q4 := (B4).cell 4
      have q5 := (B4).cell 5
      have q6 := (B4).cell 6
      simp at q0 q1 q2 q3 q4 q5 q6
      have qf := fun o => (B4).frozen o
      go_wp2_with (at_builtin; go_loud (refine append_ownK kE w.heap.size (fun k => w.heap.size ≤ k) (fun k => wo.heap.size + 1 ≤ k) rfl _ _ 53 64 _ 104 rfl Tryz.underlying53 info_Expr rfl (.slice A3 acc.length c3) acc x [.int .i64 x.op, .slice A1 x.args.length d1, .slice A2 x.path.length d2, .string x.attr, .int .i64 x.cmp, .string x.text, .int .i64 x.num] rfl rfl HO4 hRE C1.out (fun j hj => by omega) (by omega) C4 (by decide) ?_; intro v1 w5 HO5 hg5 hat5))
      go_roundw
      case rel => exact ⟨k + 1, by omega, by go_num, by rw [HTK.out]; exact HO5, hbz.grown hg5 (by omega) (fun j hj => (HO4.lt j hj).1)⟩
      case measure => simp [intOf]; omega
    · have htk : xs.take k = xs := List.take_of_length_le (by omega)
      rw [htk] at HO ⊢
      obtain ⟨Av, cv, he, hrv⟩ := HO.row
      obtain ⟨rfl, rfl⟩ : A3 = Av ∧ c3 = cv := by simpa using he
      clear htk he
      go_wp2_with fail
      go_ret
      exact ⟨A3, c3, rfl, hrv, hbr⟩

set_option maxHeartbeats 8000000 in
theorem copied_any {N : Nat} (hN : N ≤ 4000000) (H : CopL N) : CopP N := by
  intro xs A ca w ok hx hw
  have hlx := hx.len
  have hlw := wtP_len xs
  have HL := Lib.hid H
  clear H
  go_enter Tryz.func12, Tryz.ntmps12
  go_wp2_with fail
  obtain ⟨W0, hW0⟩ : ∃ W0, W0 = ((w.alloc (.cells #[.slice A xs.length ca] 27)).alloc (.cells #[.slice none 0 0] 27)).alloc (.cells #[.slice none 0 0] 27) := ⟨_, rfl⟩
  have hbW : Below w.heap.size w W0 := by rw [hW0]; exact (by repeat' (first | with_reducible exact Below.refl _ _ | with_reducible assumption | with_reducible refine Below.alloc ?_ ?_ _ | with_reducible refine Below.setCell ?_ ?_ _ | with_reducible refine Below.drew ?_ | with_reducible refine below_dn ?_ | omega | (simp; done) | (simp; omega)))
  have hsW : W0.heap.size = w.heap.size + 3 := by rw [hW0]; simp
  have hc0 : W0.cell? ⟨w.heap.size, 0, none⟩ = some (.slice A xs.length ca) := by rw [hW0]; simp [go_sem]
  have hBR : Blk W0 (w.heap.size + 1) #[.slice none 0 0] 27 := by
    rw [hW0]; have h := (Blk.new (w.alloc (.cells #[.slice A xs.length ca] 27)) #[.slice none 0 0] 27).al (.cells #[.slice none 0 0] 27)
    simpa using h
  have hBO : Blk W0 (w.heap.size + 2) #[.slice none 0 0] 27 := by
    rw [hW0]; have h := Blk.new ((w.alloc (.cells #[.slice A xs.length ca] 27)).alloc (.cells #[.slice none 0 0] 27)) #[.slice none 0 0] 27
    simpa using h
  have hx0 := hx.below hbW
  rw [← hW0]
  clear hW0
  go_loopw [4] (fun i wr => ∃ (k : Nat) (v : Value), k ≤ xs.length ∧ i = .int .i64 k ∧ OwnK kS 55 wr (w.heap.size + 3) (fun k => w.heap.size + 3 ≤ k) v (xs.take k) ∧ Chg (fun b => b = w.heap.size + 2) W0 wr ∧ Blk wr (w.heap.size + 2) #[v] 27) (fun i _ => xs.length - (intOf i).toNat)
  case atStart => exact ⟨0, _, Nat.zero_le _, rfl, OwnK.nil _ _ _ _ _, Chg.refl _ _, hBO⟩
  case round =>
    obtain ⟨k, v, hk, rfl, HO, hch, BO⟩ := hrel
    obtain ⟨wo, rfl⟩ : ∃ wo : World, wo = wr := ⟨_, rfl⟩
    obtain ⟨acc, hacc⟩ : ∃ acc, acc = xs.take k := ⟨_, rfl⟩
    rw [← hacc] at HO
    obtain ⟨A3, c3, rfl, -⟩ := HO.row
    have hso := hch.size
    have hco : wo.cell? ⟨w.heap.size, 0, none⟩ = some (.slice A xs.length ca) := by rw [cell_same (a := ⟨w.heap.size, 0, none⟩) (hch.block w.heap.size (by omega) (by omega))]; exact hc0
    have hbr : Below w.heap.size w wo := hbW.trans ((hch.below (B := w.heap.size) (by omega) (fun k hk => by omega)))
    have o0 := (BO).cell 0
    simp at o0
    have of := fun o => (BO).frozen o
    by_cases hlt : k < xs.length
    · have hrow := ((hx.move (w1 := w) (Nat.le_refl _) (fun _ _ _ => rfl)).below hbW).chg hch (by intro b hb; omega)
      obtain ⟨x, b, off, Aw, cw, HX, rfl, hbw, hR, x0, x1, x2, x3⟩ := hrow.atS k hlt
      have hwx := wtP_get xs k hlt
      rw [HX.out] at hwx
      have hws : wtS x = 1 + x.name.size + wtEs x.wh := by cases x; rfl
      obtain ⟨Ab, cb, he, hrw⟩ := hR.rows
      obtain ⟨rfl, rfl⟩ : Aw = Ab ∧ cw = cb := by simpa using he
      clear he
      have hbb : b ≠ wo.heap.size := by omega
      have hal : acc.length ≤ xs.length := by rw [hacc]; exact List.length_take_le' _ _
      have htk : xs.take (k + 1) = acc ++ [x] := by rw [hacc, ← HX.out, ← List.take_append_getElem hlt]
      have HTK := Lib.hid htk
      clear htk hacc
      have hv3 : ∀ j, (Value.slice A3 acc.length c3).ownBlock = some j → j < wo.heap.size := fun j hj => (HO.lt j hj).2
      go_wp2_with fail
      refine (HL.out x.wh Aw cw _ _ hrw.al (by omega)).mono ?_
      rintro e w1 ⟨A1, d1, rfl, hr1, hb1⟩
      have B1 := (Blk.new wo #[.int .i64 x.axis, .int .i64 x.test, .string x.name, .slice Aw x.wh.length cw] 55).below hb1
      have B2 := B1.set 3 (.slice A1 x.wh.length d1)
      simp at B2
      have q0 := (B1).cell 0
      have q1 := (B1).cell 1
      have q2 := (B1).cell 2
      have q3 := (B1).cell 3
      simp at q0 q1 q2 q3
      have qf := fun o => (B1).frozen o
      have hz1 := B1.lt
      have hbo1 : Below wo.heap.size wo w1 := al1 (Nat.le_refl _) hb1
      have hbo2 : Below wo.heap.size wo (w1.setCell ⟨wo.heap.size, 3, none⟩ (.slice A1 x.wh.length d1)) := hbo1.setCell (p := ⟨wo.heap.size, 3, none⟩) (Nat.le_refl _) _
      have hc2 : Chg (fun k => k = wo.heap.size) w1 (w1.setCell ⟨wo.heap.size, 3, none⟩ (.slice A1 x.wh.length d1)) := Chg.set (ad := ⟨wo.heap.size, 3, none⟩) rfl (Chg.refl _ _)
      have hr1' := (hr1.mono (ok' := fun k => wo.heap.size + 1 ≤ k) (by simp)).chg hc2 (by intro k hk; omega)
      have hsz2 : w1.heap.size ≤ (w1.setCell ⟨wo.heap.size, 3, none⟩ (.slice A1 x.wh.length d1)).heap.size := hc2.size
      clear x0 x1 x2 x3
      go_upto_region 7 with fail
      clear q0 q1 q2 q3 qf o0 of
      generalize w1.setCell ⟨wo.heap.size, 3, none⟩ (.slice A1 x.wh.length d1) = W4 at *
      have q0 := (B2).cell 0
      have q1 := (B2).cell 1
      have q2 := (B2).cell 2
      have q3 := (B2).cell 3
      simp at q0 q1 q2 q3
      have qf := fun o => (B2).frozen o
      have BO4 := BO.below hbo2
      have o0 := (BO4).cell 0
      simp at o0
      have of := fun o => (BO4).frozen o
      have HO4 := HO.below hbo2
      have hlo := BO4.lt
      have C1 : Hid (∀ j, (wo.heap.size + 1 ≤ j) → w.heap.size + 3 ≤ j ∧ some j ≠ (Value.slice A3 acc.length c3).ownBlock) := by
        intro j hj
        refine ⟨by omega, fun e => ?_⟩
        have := hv3 j e.symm
        omega
      have C4 : (acc.length + 1) * 56 ≤ 140737488355328 := by omega
      go_wp2_with (at_builtin; go_loud (refine append_ownK kS (w.heap.size + 3) (fun k => w.heap.size + 3 ≤ k) (fun k => wo.heap.size + 1 ≤ k) rfl _ _ 25 55 _ 56 rfl Tryz.underlying25 info_Step rfl (.slice A3 acc.length c3) acc x [.int .i64 x.axis, .int .i64 x.test, .string x.name, .slice A1 x.wh.length d1] rfl rfl HO4 (RS.of_rows hr1') C1.out (fun j hj => by omega) (by omega) C4 (by decide) ?_; intro v1 w5 HO5 hg5 hat5; obtain ⟨A5, c5, rfl, -⟩ := HO5.row; have BO5 := BO4.grown hg5 (fun e => by have := (HO4.lt _ e.symm).1; omega); have n0 := BO5.cell 0; simp at n0; have nf := fun o => BO5.frozen o; have hlo5 := BO5.lt))
      have BO6 := BO5.set 0 (.slice A5 (acc ++ [x]).length c5)
      simp only [List.setIfInBounds_toArray, List.set_cons_zero] at BO6
      have hc6 : Chg (fun b => b = w.heap.size + 2) w5 (w5.setCell ⟨w.heap.size + 2, 0, none⟩ (.slice A5 (acc ++ [x]).length c5)) := Chg.set (ad := ⟨w.heap.size + 2, 0, none⟩) rfl (Chg.refl _ _)
      have hc5 : Chg (fun b => b = w.heap.size + 2) W0 w5 := by
        have h1 : Chg (fun b => b = w.heap.size + 2) W0 W4 := hch.trans (Chg.of_below hbo2)
        exact h1.grown hg5 (fun j hj => .inr (by have := (HO4.lt j hj).1; omega))
      have HO6 := OwnK.mono (ok' := fun k => w.heap.size + 3 ≤ k) (fun _ hk => hk.1) (HO5.move hc6.size (fun b hb hlt => hc6.block b hlt (by intro hE; omega)))
      go_roundw
      case rel => exact ⟨k + 1, .slice A5 (acc ++ [x]).length c5, by omega, by go_num, by rw [HTK.out]; simpa using HO6, by simpa using hc5.trans hc6, by simpa using BO6⟩
      case measure => simp [intOf]; omega
    · have hax : acc = xs := by rw [hacc]; exact List.take_of_length_le (by omega)
      clear hacc
      subst hax
      obtain ⟨Av, cv, he, hrv⟩ := HO.row
      obtain ⟨rfl, rfl⟩ : A3 = Av ∧ c3 = cv := by simpa using he
      clear he
      have BR := hBR.chg hch (by omega)
      have p0 := (BR).cell 0
      simp at p0
      have pf := fun o => (BR).frozen o
      go_wp2_with fail
      refine bodyPost_ret (v := .agg #[.slice A3 acc.length c3]) ?h1 rfl ⟨A3, c3, rfl, ?h2, ?h3⟩
      case h1 => simp [results, Tryz.results12, go_sem, p0]
      case h3 => exact (by repeat' (first | with_reducible exact Below.refl _ _ | with_reducible assumption | with_reducible refine Below.alloc ?_ ?_ _ | with_reducible refine Below.setCell ?_ ?_ _ | with_reducible refine Below.drew ?_ | with_reducible refine below_dn ?_ | omega | (simp; done) | (simp; omega)))
      case h2 => exact (hrv.chg (p := fun k => k = w.heap.size + 1) (by repeat' (first | with_reducible exact Chg.refl _ _ | with_reducible assumption | with_reducible refine Chg.al ?_ | with_reducible refine Chg.set ?_ ?_ | with_reducible refine Chg.dr ?_ | with_reducible refine Chg.dn ?_ | with_reducible rfl | omega | (simp; done) | (simp; omega))) (by intro k hk; omega)).mono (by intro k hk; omega)
theorem copied_all (N : Nat) (hN : N ≤ 4000000) : CopL N ∧ CopP N := by
  induction N with
  | zero => exact ⟨fun xs A ca w ok hx hw => absurd hw (by omega), fun xs A ca w ok hx hw => absurd hw (by omega)⟩
  | succ N ih =>
    have ih := ih (by omega)
    have h1 := list_any hN ih.1 ih.2
    exact ⟨h1, copied_any hN h1⟩
end Go.Proofs.YtbbmmeaicilabaaGreatDoor
