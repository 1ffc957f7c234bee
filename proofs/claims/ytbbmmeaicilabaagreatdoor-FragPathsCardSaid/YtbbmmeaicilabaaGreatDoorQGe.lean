/- frag: the true expression, the false one, alike, among. Conditions: expressions lie in memory as trees. -/
import Derived.Test.YtbbmmeaicilabaaGreatDoorQGc
import Derived.Test.YtbbmmeaicilabaaGreatDoorQGf
import Derived.Deep.RegionHeld3
set_option linter.unusedVariables false
set_option linter.unusedSimpArgs false
namespace Go.Proofs.YtbbmmeaicilabaaGreatDoor
open Go.RowKit

set_option maxHeartbeats 400000 in
theorem point_any (w : World) : Calls Tryz.prog 49 #[] w fun e w' => ∃ cs, e = .returned (.agg cs.toArray) ∧ RS w' (fun k => w.heap.size ≤ k) sPoint cs ∧ Below w.heap.size w w' := by
  go_enter Tryz.func49, Tryz.ntmps49
  go_wp2_with fail
  exact bodyPost_ret (v := .agg #[.int .i64 3, .int .i64 3, .string ⟨#[]⟩, .slice none 0 0]) (by simp [results, Tryz.results49, go_sem]) rfl ⟨[.int .i64 3, .int .i64 3, .string ⟨#[]⟩, .slice none 0 0], rfl, RS.of_rows (x := sPoint) (RowK.nil _ _ _), bl1 (Nat.le_refl _)⟩
set_option maxHeartbeats 400000 in
theorem truth_any (w : World) : Calls Tryz.prog 54 #[] w fun e w' => ∃ cs, e = .returned (.agg cs.toArray) ∧ RE w' (fun k => w.heap.size ≤ k) eTrue cs ∧ Below w.heap.size w w' := by
  go_enter Tryz.func54, Tryz.ntmps54
  go_wp2_with fail
  refine (point_any _).mono ?_
  rintro e w1 ⟨cs, rfl, hR, hb⟩
  obtain ⟨Aw, cw, rfl, hrw⟩ := hR.rows
  obtain ⟨hq, hf⟩ := bcell hb
  have hz : w.heap.size < w1.heap.size := by have := hb.size; simp at this; omega
  go_wp2_with fail
  refine bodyPost_ret (v := .agg #[.int .i64 3, .slice none 0 0, .slice (some ⟨w1.heap.size, 0, none⟩) 1 1, .string ⟨#[]⟩, .int .i64 0, .string ⟨#[]⟩, .int .i64 0]) ?h1 rfl ⟨[.int .i64 3, .slice none 0 0, .slice (some ⟨w1.heap.size, 0, none⟩) 1 1, .string ⟨#[]⟩, .int .i64 0, .string ⟨#[]⟩, .int .i64 0], rfl, ?h2, ?h3⟩
  case h1 => simp [results, Tryz.results54, go_sem, hq, hz]
  case h2 =>
    refine RE.of_rows (x := eTrue) (ca := 0) (cp := 1) (RowK.nil _ _ _) (RowK.oneS (x := sPoint) (v0 := .int .i64 3) (v1 := .int .i64 3) (v2 := .string ⟨#[]⟩) (v3 := .slice Aw 0 cw) ?_ ?_ ?_ ?_ ?_ ?_)
    · omega
    · simp [go_sem]; rfl
    · simp [go_sem]; rfl
    · simp [go_sem]; rfl
    · simp [go_sem]; rfl
    · exact ((RS.mono (ok' := fun k => w.heap.size + 1 ≤ k) (by simp) hR).chg (p := fun k => k = w.heap.size) (by repeat' (first | with_reducible exact Chg.refl _ _ | with_reducible assumption | with_reducible refine Chg.al ?_ | with_reducible refine Chg.set ?_ ?_ | with_reducible refine Chg.dr ?_ | with_reducible refine Chg.dn ?_ | with_reducible rfl | omega | (simp; done) | (simp; omega))) (by intro k hk; omega)).mono (by intro k hk; omega)
  case h3 =>
    have hb' : Below w.heap.size w w1 := al1 (Nat.le_refl _) hb
    exact (by repeat' (first | with_reducible exact Below.refl _ _ | with_reducible assumption | with_reducible refine Below.alloc ?_ ?_ _ | with_reducible refine Below.setCell ?_ ?_ _ | with_reducible refine Below.drew ?_ | with_reducible refine below_dn ?_ | omega | (simp; done) | (simp; omega)))

set_option maxHeartbeats 1000000 in
theorem lie_any (w : World) : Calls Tryz.prog 31 #[] w fun e w' => ∃ cs, e = .returned (.agg cs.toArray) ∧ RE w' (fun k => w.heap.size ≤ k) eFalse cs ∧ Below w.heap.size w w' := by
  go_enter Tryz.func31, Tryz.ntmps31
  go_wp2_with fail
  refine (truth_any _).mono ?_
  rintro e w1 ⟨cs, rfl, hR, hb⟩
  obtain ⟨Aa, ca, As, cp, rfl, -, -⟩ := hR.rows
  obtain ⟨hq, hf⟩ := bcell hb
  have hz : w.heap.size < w1.heap.size := by have := hb.size; simp at this; omega
  go_wp2_with fail
  refine bodyPost_ret (v := .agg #[.int .i64 2, .slice (some ⟨w1.heap.size, 0, none⟩) 1 1, .slice none 0 0, .string ⟨#[]⟩, .int .i64 0, .string ⟨#[]⟩, .int .i64 0]) ?h1 rfl ⟨[.int .i64 2, .slice (some ⟨w1.heap.size, 0, none⟩) 1 1, .slice none 0 0, .string ⟨#[]⟩, .int .i64 0, .string ⟨#[]⟩, .int .i64 0], rfl, ?h2, ?h3⟩
  case h1 => simp [results, Tryz.results31, go_sem, hq, hz]
  case h2 =>
    refine RE.of_rows (x := eFalse) (ca := 1) (cp := 0) (RowK.oneE (x := eTrue) (v0 := .int .i64 3) (v1 := .slice Aa 0 ca) (v2 := .slice As 1 cp) (v3 := .string ByteArray.empty) (v4 := .int .i64 0) (v5 := .string ByteArray.empty) (v6 := .int .i64 0) ?_ ?_ ?_ ?_ ?_ ?_ ?_ ?_ ?_) (RowK.nil _ _ _)
    · omega
    · simp [go_sem]; rfl
    · simp [go_sem]; rfl
    · simp [go_sem]; rfl
    · simp [go_sem]; rfl
    · simp [go_sem]; rfl
    · simp [go_sem]; rfl
    · simp [go_sem]; rfl
    · exact ((RE.mono (ok' := fun k => w.heap.size + 1 ≤ k) (by simp) hR).chg (p := fun k => k = w.heap.size) (by repeat' (first | with_reducible exact Chg.refl _ _ | with_reducible assumption | with_reducible refine Chg.al ?_ | with_reducible refine Chg.set ?_ ?_ | with_reducible refine Chg.dr ?_ | with_reducible refine Chg.dn ?_ | with_reducible rfl | omega | (simp; done) | (simp; omega))) (by intro k hk; omega)).mono (by intro k hk; omega)
  case h3 =>
    have hb' : Below w.heap.size w w1 := al1 (Nat.le_refl _) hb
    exact (by repeat' (first | with_reducible exact Below.refl _ _ | with_reducible assumption | with_reducible refine Below.alloc ?_ ?_ _ | with_reducible refine Below.setCell ?_ ?_ _ | with_reducible refine Below.drew ?_ | with_reducible refine below_dn ?_ | omega | (simp; done) | (simp; omega)))

set_option maxHeartbeats 1000000 in
theorem whole_any (x : Expr) (cs : List Value) (ok : Nat → Prop) (w : World) (hx : RE w ok x cs) : Calls Tryz.prog 53 #[.agg cs.toArray] w fun e w' => ∃ b, e = .returned (.agg #[.slice (some ⟨b, 0, none⟩) 1 1]) ∧ RowK kS w' (fun k => ok k ∨ w.heap.size ≤ k) (some ⟨b, 0, none⟩) [.mk 3 3 ByteArray.empty [x]] ∧ Below w.heap.size w w' := by
  obtain ⟨Aa, ca, As, cp, rfl, -, -⟩ := hx.rows
  go_enter Tryz.func53, Tryz.ntmps53
  go_wp2_with fail
  refine (point_any _).mono ?_
  rintro e w1 ⟨cs, rfl, hR, hb⟩
  obtain ⟨Aw, cw, rfl, -⟩ := hR.rows
  obtain ⟨hqw1, hfw1⟩ := bcell hb
  have hzw10 : w.heap.size < w1.heap.size := by have := hb.size; simp at this; omega
  have hzw11 : w.heap.size + 1 < w1.heap.size := by have := hb.size; simp at this; omega
  go_wp2_with fail
  have hb' : Below w.heap.size w w1 := al2 (Nat.le_refl _) hb
  refine bodyPost_ret (v := .agg #[.slice (some ⟨w1.heap.size + 2, 0, none⟩) 1 1]) ?h1 rfl ⟨w1.heap.size + 2, rfl, ?h2, ?h3⟩
  case h1 => simp [results, Tryz.results53, go_sem, hqw1, hzw10, hzw11]
  case h2 =>
    refine RowK.oneS (v0 := .int .i64 3) (v1 := .int .i64 3) (v2 := .string ByteArray.empty) (v3 := .slice (some ⟨w1.heap.size + 1, 0, none⟩) 1 1) ?_ ?_ ?_ ?_ ?_ ?_
    · exact .inr (by omega)
    · simp [go_sem]; rfl
    · simp [go_sem]; rfl
    · simp [go_sem]; rfl
    · simp [go_sem]
    · refine RS.of_rows (x := .mk 3 3 ByteArray.empty [x]) (RowK.oneEc x Aa ca As cp (.inr (by omega)) ((hx.bel (by repeat' (first | with_reducible exact Below.refl _ _ | with_reducible assumption | with_reducible refine Below.alloc ?_ ?_ _ | with_reducible refine Below.setCell ?_ ?_ _ | with_reducible refine Below.drew ?_ | with_reducible refine below_dn ?_ | omega | (simp; done) | (simp; omega)))).mono (fun _ h => .inl h)) ?_ ?_ ?_ ?_ ?_ ?_ ?_)
      all_goals simp [go_sem]
  case h3 => exact (by repeat' (first | with_reducible exact Below.refl _ _ | with_reducible assumption | with_reducible refine Below.alloc ?_ ?_ _ | with_reducible refine Below.setCell ?_ ?_ _ | with_reducible refine Below.drew ?_ | with_reducible refine below_dn ?_ | omega | (simp; done) | (simp; omega)))

set_option maxHeartbeats 2000000 in
theorem alike_any (x y : Expr) (cx cy : List Value) (ok ok' : Nat → Prop) (w : World) (hx : RE w ok x cx) (hy : RE w ok' y cy) : Calls Tryz.prog 30 #[.agg cx.toArray, .agg cy.toArray] w fun e w' => e = .returned (.bool (eqE x y)) ∧ Below w.heap.size w w' := by
  obtain ⟨Aa, ca, As, cp, rfl, -, -⟩ := hx.rows
  obtain ⟨Ba, da, Bs, dp, rfl, -, -⟩ := hy.rows
  go_enter Tryz.func30, Tryz.ntmps30
  go_wp2_with fail
  go_region_held3 (fun w' => Below w.heap.size w w' ∧ w'.cell? ⟨w.heap.size, 0, none⟩ = some (.int .i64 x.op) ∧ w'.cell? ⟨w.heap.size, 1, none⟩ = some (.slice Aa x.args.length ca) ∧ w'.cell? ⟨w.heap.size, 2, none⟩ = some (.slice As x.path.length cp) ∧ w'.cell? ⟨w.heap.size, 3, none⟩ = some (.string x.attr) ∧ w'.cell? ⟨w.heap.size, 4, none⟩ = some (.int .i64 x.cmp) ∧ w'.cell? ⟨w.heap.size, 5, none⟩ = some (.string x.text) ∧ w'.cell? ⟨w.heap.size, 6, none⟩ = some (.int .i64 x.num) ∧
    w'.cell? ⟨w.heap.size + 1, 0, none⟩ = some (.int .i64 y.op) ∧ w'.cell? ⟨w.heap.size + 1, 1, none⟩ = some (.slice Ba y.args.length da) ∧ w'.cell? ⟨w.heap.size + 1, 2, none⟩ = some (.slice Bs y.path.length dp) ∧ w'.cell? ⟨w.heap.size + 1, 3, none⟩ = some (.string y.attr) ∧ w'.cell? ⟨w.heap.size + 1, 4, none⟩ = some (.int .i64 y.cmp) ∧ w'.cell? ⟨w.heap.size + 1, 5, none⟩ = some (.string y.text) ∧ w'.cell? ⟨w.heap.size + 1, 6, none⟩ = some (.int .i64 y.num))
    (first | ((repeat' apply And.intro); all_goals (first | go_keep | ((repeat' (first | with_reducible exact Below.refl _ _ | with_reducible assumption | with_reducible refine Below.alloc ?_ ?_ _ | with_reducible refine Below.setCell ?_ ?_ _ | with_reducible refine Below.drew ?_ | with_reducible refine below_dn ?_ | omega | (simp; done) | (simp; omega))); done))))
    (first
      | (go_at_call_of 53 (Value.agg #[.int .i64 x.op, .slice Aa x.args.length ca, .slice As x.path.length cp, .string x.attr, .int .i64 x.cmp, .string x.text, .int .i64 x.num]); refine (whole_any x _ ok _ (hx.bel (by repeat' (first | with_reducible exact Below.refl _ _ | with_reducible assumption | with_reducible refine Below.alloc ?_ ?_ _ | with_reducible refine Below.setCell ?_ ?_ _ | with_reducible refine Below.drew ?_ | with_reducible refine below_dn ?_ | omega | (simp; done) | (simp; omega))))).mono ?_; rintro e w1 ⟨b1, rfl, hr1, hb1⟩; have hB1 : Below w.heap.size w w1 := Below.trans (by repeat' (first | with_reducible exact Below.refl _ _ | with_reducible assumption | with_reducible refine Below.alloc ?_ ?_ _ | with_reducible refine Below.setCell ?_ ?_ _ | with_reducible refine Below.drew ?_ | with_reducible refine below_dn ?_ | omega | (simp; done) | (simp; omega))) (hb1.mono (by simp; omega)); have hs1 : w.heap.size + 1 < w1.heap.size := (by have := hb1.size; simp at this; omega); have hk1 : ∀ o, w1.cell? ⟨w.heap.size, o, none⟩ = _ := fun o => hb1.cell (p := ⟨w.heap.size, o, none⟩) (by simp; omega); have hl1 : ∀ o, w1.cell? ⟨w.heap.size + 1, o, none⟩ = _ := fun o => hb1.cell (p := ⟨w.heap.size + 1, o, none⟩) (by simp))
      | (go_at_call_of 53 (Value.agg #[.int .i64 y.op, .slice Ba y.args.length da, .slice Bs y.path.length dp, .string y.attr, .int .i64 y.cmp, .string y.text, .int .i64 y.num]); refine (whole_any y _ ok' _ (hy.bel (by repeat' (first | with_reducible exact Below.refl _ _ | with_reducible assumption | with_reducible refine Below.alloc ?_ ?_ _ | with_reducible refine Below.setCell ?_ ?_ _ | with_reducible refine Below.drew ?_ | with_reducible refine below_dn ?_ | omega | (simp; done) | (simp; omega))))).mono ?_; rintro e w2 ⟨b2, rfl, hr2, hb2⟩; have hB2 : Below w.heap.size w w2 := Below.trans hB1 (hb2.mono hB1.size); have hs2 : w.heap.size + 1 < w2.heap.size := (by have := hb2.size; omega); have hk2 : ∀ o, w2.cell? ⟨w.heap.size, o, none⟩ = _ := fun o => hb2.cell (p := ⟨w.heap.size, o, none⟩) (show w.heap.size < w1.heap.size by omega); have hl2 : ∀ o, w2.cell? ⟨w.heap.size + 1, o, none⟩ = _ := fun o => hb2.cell (p := ⟨w.heap.size + 1, o, none⟩) (show w.heap.size + 1 < w1.heap.size by omega))
      | (go_at_call 10; refine (same_calls [.mk 3 3 ByteArray.empty [x]] [.mk 3 3 ByteArray.empty [y]] (some ⟨b1, 0, none⟩) (some ⟨b2, 0, none⟩) 1 1 _ _ _ (hr1.below hb2) hr2).mono ?_; rintro e w3 ⟨rfl, hb3⟩; have hB3 : Below w.heap.size w w3 := Below.trans hB2 (hb3.mono hB2.size); have hk3 : ∀ o, w3.cell? ⟨w.heap.size, o, none⟩ = _ := fun o => hb3.cell (p := ⟨w.heap.size, o, none⟩) (show w.heap.size < w2.heap.size by omega); have hl3 : ∀ o, w3.cell? ⟨w.heap.size + 1, o, none⟩ = _ := fun o => hb3.cell (p := ⟨w.heap.size + 1, o, none⟩) (show w.heap.size + 1 < w2.heap.size by omega)))
  go_wp2_with fail
  go_ret
  exact ⟨by simp [eqP, eqS, eqEs], hB3⟩

set_option maxHeartbeats 2000000 in
theorem among_any (l : List Expr) (x : Expr) (A : Option Addr) (ca : Nat) (cx : List Value) (ok ok' : Nat → Prop) (w : World) (hl : RowK kE w ok A l) (hx : RE w ok' x cx) : Calls Tryz.prog 132 #[.slice A l.length ca, .agg cx.toArray] w fun e w' => e = .returned (.bool (memE l x)) ∧ Below w.heap.size w w' := by
  obtain ⟨Ba, da, Bs, dp, rfl, -, -⟩ := hx.rows
  have hlen := hl.len
  go_enter Tryz.func132, Tryz.ntmps132
  go_wp2_with fail
  go_loopw [9] (fun i wr => ∃ k : Nat, k ≤ l.length ∧ i = .int .i64 k ∧ Hid (memE l x = memE (l.drop k) x) ∧ Below w.heap.size w wr ∧ Hid (w.heap.size < wr.heap.size ∧ ∀ o, wr.cell? ⟨w.heap.size, o, none⟩ = [Value.int .i64 x.op, .slice Ba x.args.length da, .slice Bs x.path.length dp, .string x.attr, .int .i64 x.cmp, .string x.text, .int .i64 x.num][o]?)) (fun i _ => l.length - (intOf i).toNat)
  case atStart => exact ⟨0, Nat.zero_le _, rfl, rfl, bl1 (Nat.le_refl _), by simp, fun o => by simp [go_sem]⟩
  case round =>
    obtain ⟨k, hk, rfl, HE, hbr, HB⟩ := hrel
    have hzr := HB.out.1
    by_cases hlt : k < l.length
    · obtain ⟨y, b, off, Aa, c1, As, c2, HX, rfl, hbw, hR, x0, x1, x2, x3, x4, x5, x6⟩ := (hl.below hbr).atE k hlt
      have hbb : b ≠ wr.heap.size := by omega
      have b0 := HB.out.2 0
      have b1 := HB.out.2 1
      have b2 := HB.out.2 2
      have b3 := HB.out.2 3
      have b4 := HB.out.2 4
      have b5 := HB.out.2 5
      have b6 := HB.out.2 6
      simp at b0 b1 b2 b3 b4 b5 b6
      have hd := memE_drop l k hlt x
      rw [HX.out] at hd
      go_wp2_with fail
      refine (alike_any x y _ _ ok' ok _ (hx.bel (by exact (by repeat' (first | with_reducible exact Below.refl _ _ | with_reducible assumption | with_reducible refine Below.alloc ?_ ?_ _ | with_reducible refine Below.setCell ?_ ?_ _ | with_reducible refine Below.drew ?_ | with_reducible refine below_dn ?_ | omega | (simp; done) | (simp; omega))))) hR.al).mono ?_
      rintro e w2 ⟨rfl, hb2⟩
      have HB2 : Hid (w.heap.size < w2.heap.size ∧ ∀ o, w2.cell? ⟨w.heap.size, o, none⟩ = [Value.int .i64 x.op, .slice Ba x.args.length da, .slice Bs x.path.length dp, .string x.attr, .int .i64 x.cmp, .string x.text, .int .i64 x.num][o]?) :=
        ⟨by have := hb2.size; simp at this; omega, fun o => by rw [hb2.cell (p := ⟨w.heap.size, o, none⟩) (by simp; omega), ← HB.out.2 o]; simp [go_sem, hzr]⟩
      have hB2 : Below w.heap.size w w2 := hbr.trans (al1 hbr.size hb2)
      cases hq : eqE x y
      · have HE2 : Hid (memE l x = memE (l.drop (k + 1)) x) := by unfold Hid; rw [HE.out, hd, hq]; simp
        clear hd hq
        go_wp2_with fail
        go_roundw
        case rel => exact ⟨k + 1, by omega, by go_num, HE2, hB2, HB2⟩
        case measure => simp [intOf]; omega
      · have HF : Hid (memE l x = true) := by unfold Hid; rw [HE.out, hd, hq]; simp
        clear hd hq
        go_wp2_with fail
        go_ret
        exact ⟨by rw [HF.out]; rfl, hB2⟩
    · have HF : Hid (memE l x = false) := by unfold Hid; rw [HE.out, List.drop_of_length_le (by omega)]; rfl
      go_wp2_with fail
      go_ret
      exact ⟨by rw [HF.out]; rfl, hbr⟩
end Go.Proofs.YtbbmmeaicilabaaGreatDoor
