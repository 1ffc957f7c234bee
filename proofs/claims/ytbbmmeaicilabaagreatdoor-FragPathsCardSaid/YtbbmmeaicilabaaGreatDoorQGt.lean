/- gimletref13: joined, where. Conditions: expressions lie in memory as trees; what Expr answers one level below is known. -/
import Derived.Test.YtbbmmeaicilabaaGreatDoorQGs
set_option linter.unusedVariables false
set_option linter.unusedSimpArgs false
namespace Go.Proofs.YtbbmmeaicilabaaGreatDoor
open Go.RowKit

theorem left_true (n s : Expr) (l : List Expr) (h : (l.filter (fun y => !eqE y n)).any (fun y => eqE y s) = true) : leftF n s l = [s] := by
  unfold leftF
  rw [if_pos]
  obtain ⟨y, hy, he⟩ := List.any_eq_true.1 h
  exact List.any_eq_true.2 ⟨y, (List.mem_filter.1 hy).1, he⟩
theorem left_false (n s : Expr) (l : List Expr) (hs : eqE s n = false) (h : (l.filter (fun y => !eqE y n)).any (fun y => eqE y s) = false) : leftF n s l = l.filter (fun y => !eqE y n) := by
  unfold leftF
  rw [if_neg]
  intro hh
  obtain ⟨y, hy, he⟩ := List.any_eq_true.1 hh
  have hys := (eqE_iff _ _).1 he
  have : (l.filter (fun y => !eqE y n)).any (fun y => eqE y s) = true := List.any_eq_true.2 ⟨y, List.mem_filter.2 ⟨hy, by rw [hys, hs]; rfl⟩, he⟩
  rw [h] at this; cases this

theorem ne_ft : eqE eFalse eTrue = false := by
  cases h : eqE eFalse eTrue
  · rfl
  · have := congrArg Expr.op ((eqE_iff _ _).1 h); simp [eFalse, eTrue, Expr.op] at this
theorem ne_tf : eqE eTrue eFalse = false := by
  cases h : eqE eTrue eFalse
  · rfl
  · have := congrArg Expr.op ((eqE_iff _ _).1 h); simp [eFalse, eTrue, Expr.op] at this

set_option maxHeartbeats 4000000 in
theorem rwhere_any (f : Expr → Expr) (l : List Expr) (A : Option Addr) (ca : Nat) (w : World) (ok : Nat → Prop) (hl : RowK kE w ok A l) (hf : ∀ x ∈ l, RefAt f x) (hsz : wtEs (spreadF f 0 l) ≤ 1000000) :
    Calls Tryz.prog 56 #[.slice A l.length ca] w fun e w' => ∃ A' c', e = .returned (.slice A' (andsF f l).length c') ∧ RowK kE w' (fun k => w.heap.size ≤ k) A' (andsF f l) ∧ Below w.heap.size w w' := by
  have hF := Lib.hid hf
  clear hf
  unfold andsF turnF
  have HSP := Lib.hid (rspread_any f 0 l A ca w ok hl hF.out hsz)
  generalize spreadF f 0 l = sp at *
  go_enter Tryz.func56, Tryz.ntmps56
  go_wp2_with fail
  refine HSP.out.mono ?_
  rintro e w1 ⟨A1, c1, rfl, hr1, hb1⟩
  have hlen := wtEs_len sp
  go_wp2_with fail
  refine (rtrue_any _).mono ?_
  rintro e w2 ⟨cs, rfl, hR2, hb2⟩
  go_wp2_with fail
  refine (rwithout_any sp eTrue A1 c1 cs _ w.heap.size w2 (hr1.below hb2) hR2 (by have := hb1.size; have := hb2.size; omega) (by omega)).mono ?_
  rintro e w3 ⟨A3, c3, rfl, hr3, hb3⟩
  have hB2 : Below w.heap.size w w2 := hb1.trans (hb2.mono hb1.size)
  have hB3 : Below w.heap.size w w3 := hB2.trans (hb3.mono hB2.size)
  have hT := left_true eTrue eFalse sp
  have hN := left_false eTrue eFalse sp ne_ft
  generalize sp.filter (fun y => !eqE y eTrue) = lw at *
  have hlw := hr3.len
  go_wp2_with fail
  refine (rfalse_any _).mono ?_
  rintro e w4 ⟨cs4, rfl, hR4, hb4⟩
  have hB4 : Below w.heap.size w w4 := hB3.trans (hb4.mono hB3.size)
  go_wp2_with fail
  refine (rhas_any lw eFalse A3 c3 cs4 _ _ w4 (hr3.below hb4) hR4).mono ?_
  rintro e w5 ⟨rfl, hb5⟩
  have hB5 : Below w.heap.size w w5 := hB4.trans (hb5.mono hB4.size)
  cases hq : lw.any (fun y => eqE y eFalse)
  · have HN := Lib.hid (hN hq)
    clear hN hT hq
    go_wp2_with fail
    go_ret
    exact ⟨A3, c3, by rw [HN.out]; rfl, by rw [HN.out]; exact (hr3.below hb4).below hb5, hB5⟩
  · have HN := Lib.hid (hT hq)
    clear hN hT hq
    go_wp2_with fail
    refine (rfalse_any _).mono ?_
    rintro e w6 ⟨cs6, rfl, hR6, hb6⟩
    obtain ⟨A6, c6, S6, d6, rfl, -, -⟩ := hR6.rows
    have hB6 : Below w.heap.size w w6 := hB5.trans (hb6.mono hB5.size)
    go_wp2_with fail
    go_ret
    refine ⟨some ⟨w6.heap.size, 0, none⟩, 1, by rw [HN.out]; rfl, ?_, hB6.trans (bl1 hB6.size)⟩
    rw [HN.out]
    refine RowK.oneEc eFalse A6 c6 S6 d6 (by have := hB6.size; omega) ((RE.al hR6).mono (by intro k hk; have := hB5.size; omega)) ?_ ?_ ?_ ?_ ?_ ?_ ?_
    all_goals simp [go_sem]

set_option maxHeartbeats 4000000 in
theorem rjoined_ands (f : Expr → Expr) (x : Expr) (cx : List Value) (w : World) (ok : Nat → Prop) (hx : RE w ok x cx) (h0 : x.op = 0) (hsz : wtEs (spreadF f 0 x.args) ≤ 1000000) (H : Hid (∀ y ∈ x.args, RefAt f y)) :
    Calls Tryz.prog 137 #[.agg cx.toArray] w fun e w' => ∃ cs', e = .returned (.agg cs'.toArray) ∧ RE w' (fun k => w.heap.size ≤ k) (joinF 0 (andsF f x.args) eTrue) cs' ∧ Below w.heap.size w w' := by
  obtain ⟨Aa, ca, As, cp, rfl, hxa, hxp⟩ := hx.rows
  have hb1 : (x.op == 1) = decide (0 = 1) := by rw [h0]; rfl
  simp at hb1
  unfold andsF turnF
  have HSP := Lib.hid (fun (W : World) (hW : RowK kE W ok Aa x.args) => rspread_any f 0 x.args Aa ca W ok hW H.out hsz)
  have hlen := wtEs_len (spreadF f 0 x.args)
  generalize spreadF f 0 x.args = sp at *
  go_enter Tryz.func137, Tryz.ntmps137
  go_wp2_with fail
  refine (rtrue_any _).mono ?_
  rintro e w1 ⟨cs1, rfl, hR1, hb1'⟩
  obtain ⟨A1, c1, S1, d1, rfl, -, -⟩ := hR1.rows
  obtain ⟨hqw1, hfw1⟩ := bcell hb1'
  have hzw10 : w.heap.size < w1.heap.size := by have := hb1'.size; simp at this; omega
  have hzw11 : w.heap.size + 1 < w1.heap.size := by have := hb1'.size; simp at this; omega
  have hB1 : Below w.heap.size w w1 := al2 (Nat.le_refl _) hb1'
  go_wp2_with fail
  refine (rfalse_any _).mono ?_
  rintro e w2 ⟨cs2, rfl, hR2, hb2⟩
  obtain ⟨A2, c2, S2, d2, rfl, -, -⟩ := hR2.rows
  have hB2 : Below w.heap.size w w2 := hB1.trans (al1 hB1.size hb2)
  obtain ⟨hqw2, hfw2⟩ := bcell hb2
  have hz1 : w1.heap.size < w2.heap.size := by have := hb2.size; simp at this; omega
  have hz2 : w.heap.size + 1 < w2.heap.size := by omega
  have hz3 : w.heap.size < w2.heap.size := by omega
  go_wp2_with fail
  have hz1l : w1.heap.size ≠ w.heap.size + 1 := by omega
  obtain ⟨W, hW⟩ : ∃ W, W = w2.alloc (Obj.cells (#[.int .i64 eFalse.op, .slice A2 eFalse.args.length c2, .slice S2 eFalse.path.length d2, .string eFalse.attr, .int .i64 eFalse.cmp, .string eFalse.text, .int .i64 eFalse.num]) 64) := ⟨_, rfl⟩
  have hbW : Below w.heap.size w W := by rw [hW]; exact (by repeat' (first | with_reducible exact Below.refl _ _ | with_reducible assumption | with_reducible refine Below.alloc ?_ ?_ _ | with_reducible refine Below.setCell ?_ ?_ _ | with_reducible refine Below.drew ?_ | with_reducible refine below_dn ?_ | omega | (simp; done) | (simp; omega)))
  have RB1 := (Blk.new (w.alloc _) _ _).below hb1'
  have RB2 := (RB1.al _).below hb2
  have RW : Blk W (w.heap.size + 1) #[.int .i64 0, .slice none 0 0, .slice none 0 0, .string ⟨#[]⟩, .int .i64 0, .string ⟨#[]⟩, .int .i64 0] 64 := by
    rw [hW]; simp only [World.size_alloc] at RB2
    repeat' first | with_reducible exact RB2 | with_reducible refine Blk.al ?_ _ | with_reducible refine Blk.far ?_ ?_ _ | (simp; omega)
  clear RB1 RB2
  have hWs : w2.heap.size < W.heap.size := by rw [hW]; simp
  have x0 : W.cell? ⟨w.heap.size, 0, none⟩ = some (.int .i64 0) := by rw [hW]; simp [go_sem, hqw1, hqw2, hzw10, hzw11, hz1, hz2, hz3, h0]
  have x1 : W.cell? ⟨w.heap.size, 1, none⟩ = some (.slice Aa x.args.length ca) := by rw [hW]; simp [go_sem, hqw1, hqw2, hzw10, hzw11, hz1, hz2, hz3]
  obtain ⟨k0, k1, k2, k3, k4, k5, k6⟩ : W.cell? ⟨w1.heap.size, 0, none⟩ = some (.int .i64 eTrue.op) ∧ W.cell? ⟨w1.heap.size, 1, none⟩ = some (.slice A1 eTrue.args.length c1) ∧ W.cell? ⟨w1.heap.size, 2, none⟩ = some (.slice S1 eTrue.path.length d1) ∧ W.cell? ⟨w1.heap.size, 3, none⟩ = some (.string eTrue.attr) ∧ W.cell? ⟨w1.heap.size, 4, none⟩ = some (.int .i64 eTrue.cmp) ∧ W.cell? ⟨w1.heap.size, 5, none⟩ = some (.string eTrue.text) ∧ W.cell? ⟨w1.heap.size, 6, none⟩ = some (.int .i64 eTrue.num) := by rw [hW]; simp [go_sem, hqw1, hqw2, hzw10, hzw11, hz1, hz2, hz3]
  obtain ⟨j0, j1, j2, j3, j4, j5, j6⟩ : W.cell? ⟨w2.heap.size, 0, none⟩ = some (.int .i64 eFalse.op) ∧ W.cell? ⟨w2.heap.size, 1, none⟩ = some (.slice A2 eFalse.args.length c2) ∧ W.cell? ⟨w2.heap.size, 2, none⟩ = some (.slice S2 eFalse.path.length d2) ∧ W.cell? ⟨w2.heap.size, 3, none⟩ = some (.string eFalse.attr) ∧ W.cell? ⟨w2.heap.size, 4, none⟩ = some (.int .i64 eFalse.cmp) ∧ W.cell? ⟨w2.heap.size, 5, none⟩ = some (.string eFalse.text) ∧ W.cell? ⟨w2.heap.size, 6, none⟩ = some (.int .i64 eFalse.num) := by rw [hW]; simp [go_sem, hqw1, hqw2, hzw10, hzw11, hz1, hz2, hz3]
  have hb12 : Below w1.heap.size w1 w2 := al1 (Nat.le_refl _) hb2
  have hR2' := RE.mono (ok' := fun k => w1.heap.size + 1 ≤ k) (by simp) hR2
  have hRN : RE W (fun k => w.heap.size + 2 ≤ k) eTrue [.int .i64 eTrue.op, .slice A1 eTrue.args.length c1, .slice S1 eTrue.path.length d1, .string eTrue.attr, .int .i64 eTrue.cmp, .string eTrue.text, .int .i64 eTrue.num] := by rw [hW]; exact ((hR1.bel hb12).al).mono (by intro k hk; simp at hk; omega)
  have hRS : RE W (fun k => w.heap.size + 2 ≤ k) eFalse [.int .i64 eFalse.op, .slice A2 eFalse.args.length c2, .slice S2 eFalse.path.length d2, .string eFalse.attr, .int .i64 eFalse.cmp, .string eFalse.text, .int .i64 eFalse.num] := by rw [hW]; exact (RE.al hR2').mono (by intro k hk; omega)
  have hxaW := hxa.below hbW
  rw [← hW]
  have L0 : w.heap.size < W.heap.size := by omega
  have L1 : w1.heap.size < W.heap.size := by omega
  clear hW hqw1 hqw2 hfw1 hfw2
  have hTr := left_true eTrue eFalse sp
  have hFa := left_false eTrue eFalse sp ne_ft
  go_region_held3 (fun w' => w'.cell? ⟨w.heap.size, 0, none⟩ = some (.int .i64 0) ∧ w'.cell? ⟨w.heap.size, 1, none⟩ = some (.slice Aa x.args.length ca) ∧ w'.cell? ⟨w1.heap.size, 0, none⟩ = some (.int .i64 eTrue.op) ∧ w'.cell? ⟨w1.heap.size, 1, none⟩ = some (.slice A1 eTrue.args.length c1) ∧ w'.cell? ⟨w1.heap.size, 2, none⟩ = some (.slice S1 eTrue.path.length d1) ∧ w'.cell? ⟨w1.heap.size, 3, none⟩ = some (.string eTrue.attr) ∧ w'.cell? ⟨w1.heap.size, 4, none⟩ = some (.int .i64 eTrue.cmp) ∧ w'.cell? ⟨w1.heap.size, 5, none⟩ = some (.string eTrue.text) ∧ w'.cell? ⟨w1.heap.size, 6, none⟩ = some (.int .i64 eTrue.num))
    (first | ((repeat' apply And.intro); all_goals assumption))
    (first
      | (go_at_call 85; refine (HSP.out _ (hxaW.below (by repeat' (first | with_reducible exact Below.refl _ _ | with_reducible assumption | with_reducible refine Below.alloc ?_ ?_ _ | with_reducible refine Below.setCell ?_ ?_ _ | with_reducible refine Below.drew ?_ | with_reducible refine below_dn ?_ | omega | (simp; done) | (simp; omega))))).mono ?_; rintro e w3 ⟨A3, c3, rfl, hr3, hb3⟩; have hbk3 : Below W.heap.size W w3 := Below.trans (by repeat' (first | with_reducible exact Below.refl _ _ | with_reducible assumption | with_reducible refine Below.alloc ?_ ?_ _ | with_reducible refine Below.setCell ?_ ?_ _ | with_reducible refine Below.drew ?_ | with_reducible refine below_dn ?_ | omega | (simp; done) | (simp; omega))) (hb3.mono (by simp)); obtain ⟨hqw3, -⟩ := bcell hbk3; simp only [← hqw3 _ _ L0, ← hqw3 _ _ L1, ← hqw3 _ _ hWs] at x0 x1 k0 k1 k2 k3 k4 k5 k6 j0 j1 j2 j3 j4 j5 j6; clear hqw3)
      | (go_at_call 84; refine (rwithout_any sp eTrue A3 c3 _ _ (w.heap.size + 2) _ ((hr3.mono (by intro k hk; simp at hk; omega)).below (by repeat' (first | with_reducible exact Below.refl _ _ | with_reducible assumption | with_reducible refine Below.alloc ?_ ?_ _ | with_reducible refine Below.setCell ?_ ?_ _ | with_reducible refine Below.drew ?_ | with_reducible refine below_dn ?_ | omega | (simp; done) | (simp; omega)))) (hRN.bel (Below.trans hbk3 (by repeat' (first | with_reducible exact Below.refl _ _ | with_reducible assumption | with_reducible refine Below.alloc ?_ ?_ _ | with_reducible refine Below.setCell ?_ ?_ _ | with_reducible refine Below.drew ?_ | with_reducible refine below_dn ?_ | omega | (simp; done) | (simp; omega))))) (by have := hbk3.size; simp; omega) (by omega)).mono ?_; rintro e w4 ⟨A4, c4, rfl, hr4, hb4⟩; have hbk4 : Below w3.heap.size w3 w4 := Below.trans (by repeat' (first | with_reducible exact Below.refl _ _ | with_reducible assumption | with_reducible refine Below.alloc ?_ ?_ _ | with_reducible refine Below.setCell ?_ ?_ _ | with_reducible refine Below.drew ?_ | with_reducible refine below_dn ?_ | omega | (simp; done) | (simp; omega))) (hb4.mono (by simp)); obtain ⟨hqw4, -⟩ := bcell hbk4; have hs3 := hbk3.size; simp only [← hqw4 _ _ (Nat.lt_of_lt_of_le L0 hs3), ← hqw4 _ _ (Nat.lt_of_lt_of_le L1 hs3), ← hqw4 _ _ (Nat.lt_of_lt_of_le hWs hs3)] at x0 x1 k0 k1 k2 k3 k4 k5 k6 j0 j1 j2 j3 j4 j5 j6; clear hqw4))
  have hBk4 : Below W.heap.size W w4 := hbk3.trans (hbk4.mono hbk3.size)
  have hB4 : Below w.heap.size w w4 := hbW.trans (hBk4.mono hbW.size)
  have R4 := RW.below hBk4
  have hRS4 := hRS.bel hBk4
  have hRN4 := hRN.bel hBk4
  have hW4 := hBk4.size
  have L04 : w.heap.size < w4.heap.size := by omega
  have L14 : w1.heap.size < w4.heap.size := by omega
  have L24 : w2.heap.size < w4.heap.size := by omega
  generalize sp.filter (fun y => !eqE y eTrue) = lw at *
  have hlw := hr4.len
  clear RW hbk3 hbk4 hr3 hRN hRS hxaW
  go_wp2_with fail
  refine (rhas_any lw eFalse A4 c4 _ _ _ w4 hr4 hRS4).mono ?_
  rintro e w5 ⟨rfl, hb5⟩
  have R5 := R4.below hb5
  have hB5 : Below w.heap.size w w5 := hB4.trans (hb5.mono hB4.size)
  have hRS5 := hRS4.bel hb5
  have hRN5 := hRN4.bel hb5
  have hr5 := hr4.below hb5
  obtain ⟨hqw5, -⟩ := bcell hb5
  simp only [← hqw5 _ _ L04, ← hqw5 _ _ L14, ← hqw5 _ _ L24] at x0 x1 k0 k1 k2 k3 k4 k5 k6 j0 j1 j2 j3 j4 j5 j6
  have hs5 := hb5.size
  have N1 : w1.heap.size ≠ w.heap.size + 1 := by omega
  have N2 : w2.heap.size ≠ w.heap.size + 1 := by omega
  clear hqw5 R4 hRS4 hRN4 hr4
  have r0 := (R5).cell 0
  have r1 := (R5).cell 1
  have r2 := (R5).cell 2
  have r3 := (R5).cell 3
  have r4 := (R5).cell 4
  have r5 := (R5).cell 5
  have r6 := (R5).cell 6
  simp at r0 r1 r2 r3 r4 r5 r6
  have rf := fun o => (R5).frozen o
  cases hq : lw.any (fun y => eqE y eFalse)
  · have HN := Lib.hid (hFa hq)
    clear hTr hFa hq
    rcases lw with _ | ⟨z, _ | ⟨z2, r⟩⟩
    · go_wp2_with fail
      refine bodyPost_ret (v := .agg ([.int .i64 eTrue.op, .slice A1 eTrue.args.length c1, .slice S1 eTrue.path.length d1, .string eTrue.attr, .int .i64 eTrue.cmp, .string eTrue.text, .int .i64 eTrue.num]).toArray) ?h1 rfl ⟨_, rfl, ?h2, ?h3⟩
      case h1 => simp [results, Tryz.results137, go_sem, r0, r1, r2, r3, r4, r5, r6]
      case h3 => exact (by repeat' (first | with_reducible exact Below.refl _ _ | with_reducible assumption | with_reducible refine Below.alloc ?_ ?_ _ | with_reducible refine Below.setCell ?_ ?_ _ | with_reducible refine Below.drew ?_ | with_reducible refine below_dn ?_ | omega | (simp; done) | (simp; omega)))
      case h2 => rw [HN.out]; exact (hRN5.chg (p := fun k => k = w.heap.size + 1) (by repeat' (first | with_reducible exact Chg.refl _ _ | with_reducible assumption | with_reducible refine Chg.al ?_ | with_reducible refine Chg.set ?_ ?_ | with_reducible refine Chg.dr ?_ | with_reducible refine Chg.dn ?_ | with_reducible rfl | omega | (simp; done) | (simp; omega))) (by intro k hk; omega)).mono (by intro k hk; omega)
    · obtain ⟨z', b', off', Az, cz, Sz, dz, HZ, rfl, hbz, hRz, z0, z1, z2, z3, z4, z5, z6⟩ := hr5.atE 0 (by simp)
      obtain rfl : z = z' := HZ.out
      simp only [Nat.zero_mul, Nat.add_zero] at z0 z1 z2 z3 z4 z5 z6
      go_wp2_with fail
      refine bodyPost_ret (v := .agg ([.int .i64 z.op, .slice Az z.args.length cz, .slice Sz z.path.length dz, .string z.attr, .int .i64 z.cmp, .string z.text, .int .i64 z.num]).toArray) ?h1 rfl ⟨_, rfl, ?h2, ?h3⟩
      case h1 => simp [results, Tryz.results137, go_sem, r0, r1, r2, r3, r4, r5, r6]
      case h3 => exact (by repeat' (first | with_reducible exact Below.refl _ _ | with_reducible assumption | with_reducible refine Below.alloc ?_ ?_ _ | with_reducible refine Below.setCell ?_ ?_ _ | with_reducible refine Below.drew ?_ | with_reducible refine below_dn ?_ | omega | (simp; done) | (simp; omega)))
      case h2 => rw [HN.out]; exact (hRz.chg (p := fun k => k = w.heap.size + 1) (by repeat' (first | with_reducible exact Chg.refl _ _ | with_reducible assumption | with_reducible refine Chg.al ?_ | with_reducible refine Chg.set ?_ ?_ | with_reducible refine Chg.dr ?_ | with_reducible refine Chg.dn ?_ | with_reducible rfl | omega | (simp; done) | (simp; omega))) (by intro k hk; omega)).mono (by intro k hk; omega)
    · have hl0 : (((z :: z2 :: r).length : Nat) : Int) ≠ 0 := by simp only [List.length_cons]; omega
      have hl1 : (((z :: z2 :: r).length : Nat) : Int) ≠ 1 := by simp only [List.length_cons]; omega
      have HJ : Hid (joinF 0 (z :: z2 :: r) eTrue = .mk 0 (z :: z2 :: r) [] ByteArray.empty 0 ByteArray.empty 0) := rfl
      generalize z :: z2 :: r = lw at *
      go_wp2_with fail
      refine bodyPost_ret (v := .agg #[.int .i64 0, .slice A4 lw.length c4, .slice none 0 0, .string ⟨#[]⟩, .int .i64 0, .string ⟨#[]⟩, .int .i64 0]) ?h1 rfl ⟨[.int .i64 0, .slice A4 lw.length c4, .slice none 0 0, .string ⟨#[]⟩, .int .i64 0, .string ⟨#[]⟩, .int .i64 0], rfl, ?h2, ?h3⟩
      case h1 => simp [results, Tryz.results137, go_sem, r0, r1, r2, r3, r4, r5, r6]
      case h3 => exact (by repeat' (first | with_reducible exact Below.refl _ _ | with_reducible assumption | with_reducible refine Below.alloc ?_ ?_ _ | with_reducible refine Below.setCell ?_ ?_ _ | with_reducible refine Below.drew ?_ | with_reducible refine below_dn ?_ | omega | (simp; done) | (simp; omega)))
      case h2 =>
        rw [HN.out, HJ.out]
        exact RE.of_rows (x := .mk 0 lw [] ByteArray.empty 0 ByteArray.empty 0) ((hr5.chg (p := fun k => k = w.heap.size + 1) (by repeat' (first | with_reducible exact Chg.refl _ _ | with_reducible assumption | with_reducible refine Chg.al ?_ | with_reducible refine Chg.set ?_ ?_ | with_reducible refine Chg.dr ?_ | with_reducible refine Chg.dn ?_ | with_reducible rfl | omega | (simp; done) | (simp; omega))) (by intro k hk; omega)).mono (by intro k hk; omega)) (RowK.nil _ _ _)
  · have HN := Lib.hid (hTr hq)
    clear hTr hFa hq
    go_wp2_with fail
    refine bodyPost_ret (v := .agg ([.int .i64 eFalse.op, .slice A2 eFalse.args.length c2, .slice S2 eFalse.path.length d2, .string eFalse.attr, .int .i64 eFalse.cmp, .string eFalse.text, .int .i64 eFalse.num]).toArray) ?h1 rfl ⟨_, rfl, ?h2, ?h3⟩
    case h1 => simp [results, Tryz.results137, go_sem, r0, r1, r2, r3, r4, r5, r6]
    case h3 => exact (by repeat' (first | with_reducible exact Below.refl _ _ | with_reducible assumption | with_reducible refine Below.alloc ?_ ?_ _ | with_reducible refine Below.setCell ?_ ?_ _ | with_reducible refine Below.drew ?_ | with_reducible refine below_dn ?_ | omega | (simp; done) | (simp; omega)))
    case h2 => rw [HN.out]; exact (hRS5.chg (p := fun k => k = w.heap.size + 1) (by repeat' (first | with_reducible exact Chg.refl _ _ | with_reducible assumption | with_reducible refine Chg.al ?_ | with_reducible refine Chg.set ?_ ?_ | with_reducible refine Chg.dr ?_ | with_reducible refine Chg.dn ?_ | with_reducible rfl | omega | (simp; done) | (simp; omega))) (by intro k hk; omega)).mono (by intro k hk; omega)
set_option maxHeartbeats 4000000 in
theorem rjoined_ors (f : Expr → Expr) (x : Expr) (cx : List Value) (w : World) (ok : Nat → Prop) (hx : RE w ok x cx) (h0 : x.op = 1) (hsz : wtEs (spreadF f 1 x.args) ≤ 1000000) (H : Hid (∀ y ∈ x.args, RefAt f y)) :
    Calls Tryz.prog 137 #[.agg cx.toArray] w fun e w' => ∃ cs', e = .returned (.agg cs'.toArray) ∧ RE w' (fun k => w.heap.size ≤ k) (joinF 1 (orsF f x.args) eFalse) cs' ∧ Below w.heap.size w w' := by
  obtain ⟨Aa, ca, As, cp, rfl, hxa, hxp⟩ := hx.rows
  have hb1 : (x.op == 1) = decide (1 = 1) := by rw [h0]; rfl
  simp at hb1
  unfold orsF turnF
  have HSP := Lib.hid (fun (W : World) (hW : RowK kE W ok Aa x.args) => rspread_any f 1 x.args Aa ca W ok hW H.out hsz)
  have hlen := wtEs_len (spreadF f 1 x.args)
  generalize spreadF f 1 x.args = sp at *
  go_enter Tryz.func137, Tryz.ntmps137
  go_wp2_with fail
  refine (rtrue_any _).mono ?_
  rintro e w1 ⟨cs1, rfl, hR1, hb1'⟩
  obtain ⟨A1, c1, S1, d1, rfl, -, -⟩ := hR1.rows
  obtain ⟨hqw1, hfw1⟩ := bcell hb1'
  have hzw10 : w.heap.size < w1.heap.size := by have := hb1'.size; simp at this; omega
  have hzw11 : w.heap.size + 1 < w1.heap.size := by have := hb1'.size; simp at this; omega
  have hB1 : Below w.heap.size w w1 := al2 (Nat.le_refl _) hb1'
  go_wp2_with fail
  refine (rfalse_any _).mono ?_
  rintro e w2 ⟨cs2, rfl, hR2, hb2⟩
  obtain ⟨A2, c2, S2, d2, rfl, -, -⟩ := hR2.rows
  have hB2 : Below w.heap.size w w2 := hB1.trans (al1 hB1.size hb2)
  obtain ⟨hqw2, hfw2⟩ := bcell hb2
  have hz1 : w1.heap.size < w2.heap.size := by have := hb2.size; simp at this; omega
  have hz2 : w.heap.size + 1 < w2.heap.size := by omega
  have hz3 : w.heap.size < w2.heap.size := by omega
  go_wp2_with fail
  have hz1l : w1.heap.size ≠ w.heap.size + 1 := by omega
  obtain ⟨W, hW⟩ : ∃ W, W = ((((((((w2).setCell ⟨w1.heap.size, 0, none⟩ (.int .i64 eFalse.op)).setCell ⟨w1.heap.size, 1, none⟩ (.slice A2 eFalse.args.length c2)).setCell ⟨w1.heap.size, 2, none⟩ (.slice S2 eFalse.path.length d2)).setCell ⟨w1.heap.size, 3, none⟩ (.string eFalse.attr)).setCell ⟨w1.heap.size, 4, none⟩ (.int .i64 eFalse.cmp)).setCell ⟨w1.heap.size, 5, none⟩ (.string eFalse.text)).setCell ⟨w1.heap.size, 6, none⟩ (.int .i64 eFalse.num)).alloc (Obj.cells (#[.int .i64 eTrue.op, .slice A1 eTrue.args.length c1, .slice S1 eTrue.path.length d1, .string eTrue.attr, .int .i64 eTrue.cmp, .string eTrue.text, .int .i64 eTrue.num]) 64) := ⟨_, rfl⟩
  have hbW : Below w.heap.size w W := by rw [hW]; exact (by repeat' (first | with_reducible exact Below.refl _ _ | with_reducible assumption | with_reducible refine Below.alloc ?_ ?_ _ | with_reducible refine Below.setCell ?_ ?_ _ | with_reducible refine Below.drew ?_ | with_reducible refine below_dn ?_ | omega | (simp; done) | (simp; omega)))
  have RB1 := (Blk.new (w.alloc _) _ _).below hb1'
  have RB2 := (RB1.al _).below hb2
  have RW : Blk W (w.heap.size + 1) #[.int .i64 0, .slice none 0 0, .slice none 0 0, .string ⟨#[]⟩, .int .i64 0, .string ⟨#[]⟩, .int .i64 0] 64 := by
    rw [hW]; simp only [World.size_alloc] at RB2
    repeat' first | with_reducible exact RB2 | with_reducible refine Blk.al ?_ _ | with_reducible refine Blk.far ?_ ?_ _ | (simp; omega)
  clear RB1 RB2
  have hWs : w2.heap.size < W.heap.size := by rw [hW]; simp
  have x0 : W.cell? ⟨w.heap.size, 0, none⟩ = some (.int .i64 1) := by rw [hW]; simp [go_sem, hqw1, hqw2, hzw10, hzw11, hz1, hz2, hz3, h0]
  have x1 : W.cell? ⟨w.heap.size, 1, none⟩ = some (.slice Aa x.args.length ca) := by rw [hW]; simp [go_sem, hqw1, hqw2, hzw10, hzw11, hz1, hz2, hz3]
  obtain ⟨k0, k1, k2, k3, k4, k5, k6⟩ : W.cell? ⟨w1.heap.size, 0, none⟩ = some (.int .i64 eFalse.op) ∧ W.cell? ⟨w1.heap.size, 1, none⟩ = some (.slice A2 eFalse.args.length c2) ∧ W.cell? ⟨w1.heap.size, 2, none⟩ = some (.slice S2 eFalse.path.length d2) ∧ W.cell? ⟨w1.heap.size, 3, none⟩ = some (.string eFalse.attr) ∧ W.cell? ⟨w1.heap.size, 4, none⟩ = some (.int .i64 eFalse.cmp) ∧ W.cell? ⟨w1.heap.size, 5, none⟩ = some (.string eFalse.text) ∧ W.cell? ⟨w1.heap.size, 6, none⟩ = some (.int .i64 eFalse.num) := by rw [hW]; simp [go_sem, hqw1, hqw2, hzw10, hzw11, hz1, hz2, hz3]
  obtain ⟨j0, j1, j2, j3, j4, j5, j6⟩ : W.cell? ⟨w2.heap.size, 0, none⟩ = some (.int .i64 eTrue.op) ∧ W.cell? ⟨w2.heap.size, 1, none⟩ = some (.slice A1 eTrue.args.length c1) ∧ W.cell? ⟨w2.heap.size, 2, none⟩ = some (.slice S1 eTrue.path.length d1) ∧ W.cell? ⟨w2.heap.size, 3, none⟩ = some (.string eTrue.attr) ∧ W.cell? ⟨w2.heap.size, 4, none⟩ = some (.int .i64 eTrue.cmp) ∧ W.cell? ⟨w2.heap.size, 5, none⟩ = some (.string eTrue.text) ∧ W.cell? ⟨w2.heap.size, 6, none⟩ = some (.int .i64 eTrue.num) := by rw [hW]; simp [go_sem, hqw1, hqw2, hzw10, hzw11, hz1, hz2, hz3]
  have hb12 : Below w1.heap.size w1 w2 := al1 (Nat.le_refl _) hb2
  have hR2' := RE.mono (ok' := fun k => w1.heap.size + 1 ≤ k) (by simp) hR2
  have hRN : RE W (fun k => w.heap.size + 2 ≤ k) eFalse [.int .i64 eFalse.op, .slice A2 eFalse.args.length c2, .slice S2 eFalse.path.length d2, .string eFalse.attr, .int .i64 eFalse.cmp, .string eFalse.text, .int .i64 eFalse.num] := by rw [hW]; exact (hR2'.chg (p := fun k => k = w1.heap.size) (by repeat' (first | with_reducible exact Chg.refl _ _ | with_reducible assumption | with_reducible refine Chg.al ?_ | with_reducible refine Chg.set ?_ ?_ | with_reducible refine Chg.dr ?_ | with_reducible refine Chg.dn ?_ | with_reducible rfl | omega | (simp; done) | (simp; omega))) (by intro k hk; omega)).mono (by intro k hk; omega)
  have hRS : RE W (fun k => w.heap.size + 2 ≤ k) eTrue [.int .i64 eTrue.op, .slice A1 eTrue.args.length c1, .slice S1 eTrue.path.length d1, .string eTrue.attr, .int .i64 eTrue.cmp, .string eTrue.text, .int .i64 eTrue.num] := by rw [hW]; exact (hR1.bel (by repeat' (first | with_reducible exact Below.refl _ _ | with_reducible assumption | with_reducible refine Below.alloc ?_ ?_ _ | with_reducible refine Below.setCell ?_ ?_ _ | with_reducible refine Below.drew ?_ | with_reducible refine below_dn ?_ | omega | (simp; done) | (simp; omega)))).mono (by intro k hk; simp at hk; omega)
  have hxaW := hxa.below hbW
  rw [← hW]
  have L0 : w.heap.size < W.heap.size := by omega
  have L1 : w1.heap.size < W.heap.size := by omega
  clear hW hqw1 hqw2 hfw1 hfw2
  have hTr := left_true eFalse eTrue sp
  have hFa := left_false eFalse eTrue sp ne_tf
  go_region_held3 (fun w' => w'.cell? ⟨w.heap.size, 0, none⟩ = some (.int .i64 1) ∧ w'.cell? ⟨w.heap.size, 1, none⟩ = some (.slice Aa x.args.length ca) ∧ w'.cell? ⟨w1.heap.size, 0, none⟩ = some (.int .i64 eFalse.op) ∧ w'.cell? ⟨w1.heap.size, 1, none⟩ = some (.slice A2 eFalse.args.length c2) ∧ w'.cell? ⟨w1.heap.size, 2, none⟩ = some (.slice S2 eFalse.path.length d2) ∧ w'.cell? ⟨w1.heap.size, 3, none⟩ = some (.string eFalse.attr) ∧ w'.cell? ⟨w1.heap.size, 4, none⟩ = some (.int .i64 eFalse.cmp) ∧ w'.cell? ⟨w1.heap.size, 5, none⟩ = some (.string eFalse.text) ∧ w'.cell? ⟨w1.heap.size, 6, none⟩ = some (.int .i64 eFalse.num))
    (first | ((repeat' apply And.intro); all_goals assumption))
    (first
      | (go_at_call 85; refine (HSP.out _ (hxaW.below (by repeat' (first | with_reducible exact Below.refl _ _ | with_reducible assumption | with_reducible refine Below.alloc ?_ ?_ _ | with_reducible refine Below.setCell ?_ ?_ _ | with_reducible refine Below.drew ?_ | with_reducible refine below_dn ?_ | omega | (simp; done) | (simp; omega))))).mono ?_; rintro e w3 ⟨A3, c3, rfl, hr3, hb3⟩; have hbk3 : Below W.heap.size W w3 := Below.trans (by repeat' (first | with_reducible exact Below.refl _ _ | with_reducible assumption | with_reducible refine Below.alloc ?_ ?_ _ | with_reducible refine Below.setCell ?_ ?_ _ | with_reducible refine Below.drew ?_ | with_reducible refine below_dn ?_ | omega | (simp; done) | (simp; omega))) (hb3.mono (by simp)); obtain ⟨hqw3, -⟩ := bcell hbk3; simp only [← hqw3 _ _ L0, ← hqw3 _ _ L1, ← hqw3 _ _ hWs] at x0 x1 k0 k1 k2 k3 k4 k5 k6 j0 j1 j2 j3 j4 j5 j6; clear hqw3)
      | (go_at_call 84; refine (rwithout_any sp eFalse A3 c3 _ _ (w.heap.size + 2) _ ((hr3.mono (by intro k hk; simp at hk; omega)).below (by repeat' (first | with_reducible exact Below.refl _ _ | with_reducible assumption | with_reducible refine Below.alloc ?_ ?_ _ | with_reducible refine Below.setCell ?_ ?_ _ | with_reducible refine Below.drew ?_ | with_reducible refine below_dn ?_ | omega | (simp; done) | (simp; omega)))) (hRN.bel (Below.trans hbk3 (by repeat' (first | with_reducible exact Below.refl _ _ | with_reducible assumption | with_reducible refine Below.alloc ?_ ?_ _ | with_reducible refine Below.setCell ?_ ?_ _ | with_reducible refine Below.drew ?_ | with_reducible refine below_dn ?_ | omega | (simp; done) | (simp; omega))))) (by have := hbk3.size; simp; omega) (by omega)).mono ?_; rintro e w4 ⟨A4, c4, rfl, hr4, hb4⟩; have hbk4 : Below w3.heap.size w3 w4 := Below.trans (by repeat' (first | with_reducible exact Below.refl _ _ | with_reducible assumption | with_reducible refine Below.alloc ?_ ?_ _ | with_reducible refine Below.setCell ?_ ?_ _ | with_reducible refine Below.drew ?_ | with_reducible refine below_dn ?_ | omega | (simp; done) | (simp; omega))) (hb4.mono (by simp)); obtain ⟨hqw4, -⟩ := bcell hbk4; have hs3 := hbk3.size; simp only [← hqw4 _ _ (Nat.lt_of_lt_of_le L0 hs3), ← hqw4 _ _ (Nat.lt_of_lt_of_le L1 hs3), ← hqw4 _ _ (Nat.lt_of_lt_of_le hWs hs3)] at x0 x1 k0 k1 k2 k3 k4 k5 k6 j0 j1 j2 j3 j4 j5 j6; clear hqw4))
  have hBk4 : Below W.heap.size W w4 := hbk3.trans (hbk4.mono hbk3.size)
  have hB4 : Below w.heap.size w w4 := hbW.trans (hBk4.mono hbW.size)
  have R4 := RW.below hBk4
  have hRS4 := hRS.bel hBk4
  have hRN4 := hRN.bel hBk4
  have hW4 := hBk4.size
  have L04 : w.heap.size < w4.heap.size := by omega
  have L14 : w1.heap.size < w4.heap.size := by omega
  have L24 : w2.heap.size < w4.heap.size := by omega
  generalize sp.filter (fun y => !eqE y eFalse) = lw at *
  have hlw := hr4.len
  clear RW hbk3 hbk4 hr3 hRN hRS hxaW
  go_wp2_with fail
  refine (rhas_any lw eTrue A4 c4 _ _ _ w4 hr4 hRS4).mono ?_
  rintro e w5 ⟨rfl, hb5⟩
  have R5 := R4.below hb5
  have hB5 : Below w.heap.size w w5 := hB4.trans (hb5.mono hB4.size)
  have hRS5 := hRS4.bel hb5
  have hRN5 := hRN4.bel hb5
  have hr5 := hr4.below hb5
  obtain ⟨hqw5, -⟩ := bcell hb5
  simp only [← hqw5 _ _ L04, ← hqw5 _ _ L14, ← hqw5 _ _ L24] at x0 x1 k0 k1 k2 k3 k4 k5 k6 j0 j1 j2 j3 j4 j5 j6
  have hs5 := hb5.size
  have N1 : w1.heap.size ≠ w.heap.size + 1 := by omega
  have N2 : w2.heap.size ≠ w.heap.size + 1 := by omega
  clear hqw5 R4 hRS4 hRN4 hr4
  have r0 := (R5).cell 0
  have r1 := (R5).cell 1
  have r2 := (R5).cell 2
  have r3 := (R5).cell 3
  have r4 := (R5).cell 4
  have r5 := (R5).cell 5
  have r6 := (R5).cell 6
  simp at r0 r1 r2 r3 r4 r5 r6
  have rf := fun o => (R5).frozen o
  cases hq : lw.any (fun y => eqE y eTrue)
  · have HN := Lib.hid (hFa hq)
    clear hTr hFa hq
    rcases lw with _ | ⟨z, _ | ⟨z2, r⟩⟩
    · go_wp2_with fail
      refine bodyPost_ret (v := .agg ([.int .i64 eFalse.op, .slice A2 eFalse.args.length c2, .slice S2 eFalse.path.length d2, .string eFalse.attr, .int .i64 eFalse.cmp, .string eFalse.text, .int .i64 eFalse.num]).toArray) ?h1 rfl ⟨_, rfl, ?h2, ?h3⟩
      case h1 => simp [results, Tryz.results137, go_sem, r0, r1, r2, r3, r4, r5, r6]
      case h3 => exact (by repeat' (first | with_reducible exact Below.refl _ _ | with_reducible assumption | with_reducible refine Below.alloc ?_ ?_ _ | with_reducible refine Below.setCell ?_ ?_ _ | with_reducible refine Below.drew ?_ | with_reducible refine below_dn ?_ | omega | (simp; done) | (simp; omega)))
      case h2 => rw [HN.out]; exact (hRN5.chg (p := fun k => k = w.heap.size + 1) (by repeat' (first | with_reducible exact Chg.refl _ _ | with_reducible assumption | with_reducible refine Chg.al ?_ | with_reducible refine Chg.set ?_ ?_ | with_reducible refine Chg.dr ?_ | with_reducible refine Chg.dn ?_ | with_reducible rfl | omega | (simp; done) | (simp; omega))) (by intro k hk; omega)).mono (by intro k hk; omega)
    · obtain ⟨z', b', off', Az, cz, Sz, dz, HZ, rfl, hbz, hRz, z0, z1, z2, z3, z4, z5, z6⟩ := hr5.atE 0 (by simp)
      obtain rfl : z = z' := HZ.out
      simp only [Nat.zero_mul, Nat.add_zero] at z0 z1 z2 z3 z4 z5 z6
      go_wp2_with fail
      refine bodyPost_ret (v := .agg ([.int .i64 z.op, .slice Az z.args.length cz, .slice Sz z.path.length dz, .string z.attr, .int .i64 z.cmp, .string z.text, .int .i64 z.num]).toArray) ?h1 rfl ⟨_, rfl, ?h2, ?h3⟩
      case h1 => simp [results, Tryz.results137, go_sem, r0, r1, r2, r3, r4, r5, r6]
      case h3 => exact (by repeat' (first | with_reducible exact Below.refl _ _ | with_reducible assumption | with_reducible refine Below.alloc ?_ ?_ _ | with_reducible refine Below.setCell ?_ ?_ _ | with_reducible refine Below.drew ?_ | with_reducible refine below_dn ?_ | omega | (simp; done) | (simp; omega)))
      case h2 => rw [HN.out]; exact (hRz.chg (p := fun k => k = w.heap.size + 1) (by repeat' (first | with_reducible exact Chg.refl _ _ | with_reducible assumption | with_reducible refine Chg.al ?_ | with_reducible refine Chg.set ?_ ?_ | with_reducible refine Chg.dr ?_ | with_reducible refine Chg.dn ?_ | with_reducible rfl | omega | (simp; done) | (simp; omega))) (by intro k hk; omega)).mono (by intro k hk; omega)
    · have hl0 : (((z :: z2 :: r).length : Nat) : Int) ≠ 0 := by simp only [List.length_cons]; omega
      have hl1 : (((z :: z2 :: r).length : Nat) : Int) ≠ 1 := by simp only [List.length_cons]; omega
      have HJ : Hid (joinF 1 (z :: z2 :: r) eFalse = .mk 1 (z :: z2 :: r) [] ByteArray.empty 0 ByteArray.empty 0) := rfl
      generalize z :: z2 :: r = lw at *
      go_wp2_with fail
      refine bodyPost_ret (v := .agg #[.int .i64 1, .slice A4 lw.length c4, .slice none 0 0, .string ⟨#[]⟩, .int .i64 0, .string ⟨#[]⟩, .int .i64 0]) ?h1 rfl ⟨[.int .i64 1, .slice A4 lw.length c4, .slice none 0 0, .string ⟨#[]⟩, .int .i64 0, .string ⟨#[]⟩, .int .i64 0], rfl, ?h2, ?h3⟩
      case h1 => simp [results, Tryz.results137, go_sem, r0, r1, r2, r3, r4, r5, r6]
      case h3 => exact (by repeat' (first | with_reducible exact Below.refl _ _ | with_reducible assumption | with_reducible refine Below.alloc ?_ ?_ _ | with_reducible refine Below.setCell ?_ ?_ _ | with_reducible refine Below.drew ?_ | with_reducible refine below_dn ?_ | omega | (simp; done) | (simp; omega)))
      case h2 =>
        rw [HN.out, HJ.out]
        exact RE.of_rows (x := .mk 1 lw [] ByteArray.empty 0 ByteArray.empty 0) ((hr5.chg (p := fun k => k = w.heap.size + 1) (by repeat' (first | with_reducible exact Chg.refl _ _ | with_reducible assumption | with_reducible refine Chg.al ?_ | with_reducible refine Chg.set ?_ ?_ | with_reducible refine Chg.dr ?_ | with_reducible refine Chg.dn ?_ | with_reducible rfl | omega | (simp; done) | (simp; omega))) (by intro k hk; omega)).mono (by intro k hk; omega)) (RowK.nil _ _ _)
  · have HN := Lib.hid (hTr hq)
    clear hTr hFa hq
    go_wp2_with fail
    refine bodyPost_ret (v := .agg ([.int .i64 eTrue.op, .slice A1 eTrue.args.length c1, .slice S1 eTrue.path.length d1, .string eTrue.attr, .int .i64 eTrue.cmp, .string eTrue.text, .int .i64 eTrue.num]).toArray) ?h1 rfl ⟨_, rfl, ?h2, ?h3⟩
    case h1 => simp [results, Tryz.results137, go_sem, r0, r1, r2, r3, r4, r5, r6]
    case h3 => exact (by repeat' (first | with_reducible exact Below.refl _ _ | with_reducible assumption | with_reducible refine Below.alloc ?_ ?_ _ | with_reducible refine Below.setCell ?_ ?_ _ | with_reducible refine Below.drew ?_ | with_reducible refine below_dn ?_ | omega | (simp; done) | (simp; omega)))
    case h2 => rw [HN.out]; exact (hRS5.chg (p := fun k => k = w.heap.size + 1) (by repeat' (first | with_reducible exact Chg.refl _ _ | with_reducible assumption | with_reducible refine Chg.al ?_ | with_reducible refine Chg.set ?_ ?_ | with_reducible refine Chg.dr ?_ | with_reducible refine Chg.dn ?_ | with_reducible rfl | omega | (simp; done) | (simp; omega))) (by intro k hk; omega)).mono (by intro k hk; omega)
end Go.Proofs.YtbbmmeaicilabaaGreatDoor
