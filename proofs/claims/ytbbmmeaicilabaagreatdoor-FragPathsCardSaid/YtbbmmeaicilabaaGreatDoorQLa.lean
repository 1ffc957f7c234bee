/- gimletlaw13.FragPaths: true at every path. Conditions: the path lies in memory as a tree, no text of more than 2^48 bytes in it; the tables lie as the text lays them. -/
import Derived.Test.YtbbmmeaicilabaaGreatDoorQKo
import Derived.Test.YtbbmmeaicilabaaGreatDoorQKr
import Derived.Test.YtbbmmeaicilabaaGreatDoorQKj
import Derived.Test.YtbbmmeaicilabaaGreatDoorQGw
import Derived.Test.YtbbmmeaicilabaaGreatDoorQHc
import Derived.Test.YtbbmmeaicilabaaGreatDoorQLb
import Derived.Test.YtbbmmeaicilabaaGreatDoorCards
import Derived.Test.YtbbmmeaicilabaaGreatDoorTie
import Derived.WalkKit
import Derived.ProofKit
import Derived.OpenShut
import Derived.LaidMore
import Derived.Lay
import Derived.Carry
import Derived.SizedLaws
import Derived.Deep.DeepHandedRow
import Derived.SevenTiedAt
import Derived.Stop.Joined
set_option linter.unusedVariables false
set_option linter.unusedSimpArgs false
namespace Go.Proofs.YtbbmmeaicilabaaGreatDoor
open Go.RowKit

set_option maxRecDepth 100000 in
set_option maxHeartbeats 16000000 in
theorem fragPaths_any (p : List Step) (A : Option Addr) (ca : Nat) (w : World) (ok : Nat → Prop) (hp : RowK kS w ok A p) (hok : ∀ k, ok k → k < w.heap.size) (hw : smP p) (hT : WOX w) :
    Calls Tryz.prog 4 #[.agg #[.slice A p.length ca]] w fun e w' => e = .returned (.bool true) ∧ Below w.heap.size w w' := by
  have HT := Lib.hid hT
  clear hT
  obtain ⟨W0, hW0⟩ : ∃ W, W = w.alloc (.cells #[.slice A p.length ca] 27) := ⟨_, rfl⟩
  have B1 : Blk W0 w.heap.size #[.slice A p.length ca] 27 := by rw [hW0]; exact Blk.new _ _ _
  have hw0 : Below w.heap.size w W0 := by rw [hW0]; exact bl1 (Nat.le_refl _)
  replace hp := hp.below hw0
  have ltB1 := B1.lt
  go_enter Tryz.func4, Tryz.ntmps4
  go_wp2_with fail
  rw [← hW0]
  clear hW0
  refine (great_any p A ca W0 ok hp hw).mono ?_
  rintro e w1 ⟨rfl, hb1⟩
  replace hp := hp.below hb1
  replace B1 := B1.below hb1
  replace hw0 := hw0.trans (hb1.mono hw0.size)
  have hzw1 := hb1.size
  have q00 := (B1).cell 0
  simp at q00
  have q0f := fun o => (B1).frozen o
  cases hgt : decide (262144 < wtP p)
  case' true =>
    go_wp2_with fail
    refine (awake_any w1 (HT.out.below hw0)).mono ?_
    rintro e w2 ⟨rfl, hb2⟩
    go_wp2_with fail
    go_ret
    exact ⟨rfl, hw0.trans (hb2.mono hw0.size)⟩
  have hgt2 : wtP p ≤ 262144 := by have := of_decide_eq_false hgt; omega
  clear hgt
  go_wp2_with fail
  refine (awake_any w1 (HT.out.below hw0)).mono ?_
  rintro e w2 ⟨rfl, hb2⟩
  clear q00 q0f
  replace hp := hp.below hb2
  replace B1 := B1.below hb2
  replace hw0 := hw0.trans (hb2.mono hw0.size)
  have hzw2 := hb2.size
  have q00 := (B1).cell 0
  simp at q00
  have q0f := fun o => (B1).frozen o
  go_wp2_with fail
  refine ((copied_all 300000 (by omega)).2 p A ca w2 ok hp (by omega)).mono ?_
  rintro e w3 ⟨A3, c3, rfl, r3, hb3⟩
  replace r3 := r3.move (w1 := w3) (Nat.le_refl _) (fun _ _ _ => rfl)
  replace hp := hp.below hb3
  replace B1 := B1.below hb3
  replace hw0 := hw0.trans (hb3.mono hw0.size)
  have hzw3 := hb3.size
  clear q00 q0f
  go_upto_region 6 with fail
  have B3 := Blk.new w3 #[.slice A3 p.length c3] 27
  have hbx := bl1 (o := .cells #[.slice A3 p.length c3] 27) (Nat.le_refl w3.heap.size)
  replace hp := hp.below hbx
  replace B1 := B1.below hbx
  replace r3 := r3.below hbx
  replace hw0 := hw0.trans (hbx.mono hw0.size)
  have hzW3 := hbx.size
  clear hbx
  generalize w3.alloc (.cells #[.slice A3 p.length c3] 27) = W3 at *
  have ltB3 := B3.lt
  have q00 := (B3).cell 0
  simp at q00
  have q0f := fun o => (B3).frozen o
  go_wp2_with fail
  have hN := normal_calls 262144 (by omega) p A3 c3 W3 _ r3 hgt2 (HT.out.below hw0).base
  obtain ⟨E, hE⟩ : ∃ E, Hid (E = shapeE (isQ p)) := ⟨_, rfl⟩
  obtain ⟨n, hn⟩ : ∃ n, Hid (n = nrm 262144 p) := ⟨_, rfl⟩
  rw [← hE.out, ← hn.out] at hN
  refine (hN).mono ?_
  rintro e w4 ⟨A4, c4, rfl, r4, hb4⟩
  replace r4 := r4.move (w1 := w4) (Nat.le_refl _) (fun _ _ _ => rfl)
  replace hp := hp.below hb4
  replace B1 := B1.below hb4
  replace r3 := r3.below hb4
  replace B3 := B3.below hb4
  replace hw0 := hw0.trans (hb4.mono hw0.size)
  have hzw4 := hb4.size
  clear hN
  clear q00 q0f
  go_upto_region 7 with fail
  have B4 := Blk.new w4 #[.slice A4 n.length c4] 27
  have hbx := bl1 (o := .cells #[.slice A4 n.length c4] 27) (Nat.le_refl w4.heap.size)
  replace hp := hp.below hbx
  replace B1 := B1.below hbx
  replace r3 := r3.below hbx
  replace B3 := B3.below hbx
  replace r4 := r4.below hbx
  replace hw0 := hw0.trans (hbx.mono hw0.size)
  have hzW4 := hbx.size
  clear hbx
  generalize w4.alloc (.cells #[.slice A4 n.length c4] 27) = W4 at *
  have ltB4 := B4.lt
  have q00 := (B3).cell 0
  simp at q00
  have q0f := fun o => (B3).frozen o
  go_wp2_with fail
  have hN := normal_calls 262144 (by omega) p A3 c3 W4 _ r3 hgt2 (HT.out.below hw0).base
  rw [← hE.out, ← hn.out] at hN
  refine (hN).mono ?_
  rintro e w5 ⟨A5, c5, rfl, r5, hb5⟩
  clear hN
  replace hp := hp.below hb5
  replace B1 := B1.below hb5
  replace r3 := r3.below hb5
  replace B3 := B3.below hb5
  replace r4 := r4.below hb5
  replace B4 := B4.below hb5
  replace hw0 := hw0.trans (hb5.mono hw0.size)
  have hzw5 := hb5.size
  clear q00 q0f
  go_upto_region 8 with fail
  have B5 := Blk.new w5 #[.slice A5 n.length c5] 27
  have hbx := bl1 (o := .cells #[.slice A5 n.length c5] 27) (Nat.le_refl w5.heap.size)
  replace hp := hp.below hbx
  replace B1 := B1.below hbx
  replace r3 := r3.below hbx
  replace B3 := B3.below hbx
  replace r4 := r4.below hbx
  replace B4 := B4.below hbx
  replace r5 := r5.below hbx
  replace hw0 := hw0.trans (hbx.mono hw0.size)
  have hzW5 := hbx.size
  clear hbx
  generalize w5.alloc (.cells #[.slice A5 n.length c5] 27) = W5 at *
  have ltB5 := B5.lt
  have q00 := (B3).cell 0
  simp at q00
  have q0f := fun o => (B3).frozen o
  go_wp2_with fail
  have hN := plain_calls p A3 c3 W5 _ r3 (by omega) (HT.out.below hw0).base
  obtain ⟨PL, hPL⟩ : ∃ b, Hid (b = (isQ p && plainB p)) := ⟨_, rfl⟩
  rw [← hE.out, ← hPL.out] at hN
  refine (hN).mono ?_
  rintro e w6 ⟨rfl, hb6⟩
  clear hN
  replace hp := hp.below hb6
  replace B1 := B1.below hb6
  replace r3 := r3.below hb6
  replace B3 := B3.below hb6
  replace r4 := r4.below hb6
  replace B4 := B4.below hb6
  replace r5 := r5.below hb6
  replace B5 := B5.below hb6
  replace hw0 := hw0.trans (hb6.mono hw0.size)
  have hzw6 := hb6.size
  clear q00 q0f
  have q00 := (B3).cell 0
  simp at q00
  have q0f := fun o => (B3).frozen o
  go_wp2_with fail
  have hN := empty_calls 262144 (by omega) p A3 c3 w6 _ r3 hgt2 (HT.out.below hw0).base
  obtain ⟨EM, hEM⟩ : ∃ b, Hid (b = (isQ p && emptyB (nrm 262144 p))) := ⟨_, rfl⟩
  rw [← hE.out, ← hEM.out] at hN
  refine (hN).mono ?_
  rintro e w7 ⟨rfl, hb7⟩
  clear hN
  replace hp := hp.below hb7
  replace B1 := B1.below hb7
  replace r3 := r3.below hb7
  replace B3 := B3.below hb7
  replace r4 := r4.below hb7
  replace B4 := B4.below hb7
  replace r5 := r5.below hb7
  replace B5 := B5.below hb7
  replace hw0 := hw0.trans (hb7.mono hw0.size)
  have hzw7 := hb7.size
  clear q00 q0f
  have q00 := (B1).cell 0
  simp at q00
  have q0f := fun o => (B1).frozen o
  go_wp2_with fail
  refine (shallow_any p A ca w7 ok hp (by omega)).mono ?_
  rintro e w8 ⟨rfl, hb8⟩
  replace hp := hp.below hb8
  replace B1 := B1.below hb8
  replace r3 := r3.below hb8
  replace B3 := B3.below hb8
  replace r4 := r4.below hb8
  replace B4 := B4.below hb8
  replace r5 := r5.below hb8
  replace B5 := B5.below hb8
  replace hw0 := hw0.trans (hb8.mono hw0.size)
  have hzw8 := hb8.size
  clear q00 q0f
  have q00 := (B1).cell 0
  simp at q00
  have q0f := fun o => (B1).frozen o
  have q10 := (B3).cell 0
  simp at q10
  have q1f := fun o => (B3).frozen o
  have q20 := (B4).cell 0
  simp at q20
  have q2f := fun o => (B4).frozen o
  have q30 := (B5).cell 0
  simp at q30
  have q3f := fun o => (B5).frozen o
  have hlen4 := r4.len
  cases hq : isQ p
  case' false =>
    obtain rfl : E = 6 := by rw [hE.out, hq]; rfl
    obtain rfl : PL = false := by rw [hPL.out, hq]; rfl
    obtain rfl : EM = false := by rw [hEM.out, hq]; rfl
    obtain rfl : n = [] := by rw [hn.out]; unfold nrm; rw [hq]; rfl
    go_wp2_with fail
    go_ret
    exact ⟨rfl, hw0⟩
  obtain rfl : E = 0 := by rw [hE.out, hq]; rfl
  obtain rfl : n = normP 262144 p := by rw [hn.out]; unfold nrm; rw [hq]; rfl
  obtain rfl : PL = plainB p := by rw [hPL.out, hq]; rfl
  obtain rfl : EM = emptyB (normP 262144 p) := by rw [hEM.out, hq]; unfold nrm; rw [hq]; rfl
  clear hE hPL hEM hn
  have hsh := isQ_sh hq
  generalize hnn : normP 262144 p = n at *
  go_wp2_with fail
  refine ((copied_all 300000 (by omega)).2 p A ca w8 ok hp (by omega)).mono ?_
  rintro e w9 ⟨A9, c9, rfl, r9, hb9⟩
  replace hp := hp.below hb9
  replace B1 := B1.below hb9
  replace r3 := r3.below hb9
  replace B3 := B3.below hb9
  replace r4 := r4.below hb9
  replace B4 := B4.below hb9
  replace r5 := r5.below hb9
  replace B5 := B5.below hb9
  replace hw0 := hw0.trans (hb9.mono hw0.size)
  have hzw9 := hb9.size
  clear q00 q0f q10 q1f q20 q2f q30 q3f
  go_wp2_with fail
  have hN := rnormal_calls 262144 (by omega) p A9 c9 w9 _ r9 hsh hgt2
  rw [hnn] at hN
  refine (hN).mono ?_
  rintro e w10 ⟨Aa, c10, rfl, ra, hb10⟩
  clear hN
  replace hp := hp.below hb10
  replace B1 := B1.below hb10
  replace r3 := r3.below hb10
  replace B3 := B3.below hb10
  replace r4 := r4.below hb10
  replace B4 := B4.below hb10
  replace r5 := r5.below hb10
  replace B5 := B5.below hb10
  replace r9 := r9.below hb10
  replace hw0 := hw0.trans (hb10.mono hw0.size)
  have hzw10 := hb10.size
  go_upto_region 13 with fail
  have Ba := Blk.new w10 #[.slice Aa n.length c10] 27
  have hbx := bl1 (o := .cells #[.slice Aa n.length c10] 27) (Nat.le_refl w10.heap.size)
  replace hp := hp.below hbx
  replace B1 := B1.below hbx
  replace r3 := r3.below hbx
  replace B3 := B3.below hbx
  replace r4 := r4.below hbx
  replace B4 := B4.below hbx
  replace r5 := r5.below hbx
  replace B5 := B5.below hbx
  replace r9 := r9.below hbx
  replace ra := ra.below hbx
  replace hw0 := hw0.trans (hbx.mono hw0.size)
  have hzWa := hbx.size
  clear hbx
  generalize w10.alloc (.cells #[.slice Aa n.length c10] 27) = Wa at *
  have ltBa := Ba.lt
  have q00 := (B4).cell 0
  simp at q00
  have q0f := fun o => (B4).frozen o
  have q10 := (Ba).cell 0
  simp at q10
  have q1f := fun o => (Ba).frozen o
  go_wp2_with fail
  have hS := same_calls n n A4 Aa c4 c10 Wa _ _ r4 ra
  rw [eqP_refl] at hS
  refine (hS).mono ?_
  rintro e w11 ⟨rfl, hb11⟩
  clear hS
  replace hp := hp.below hb11
  replace B1 := B1.below hb11
  replace r3 := r3.below hb11
  replace B3 := B3.below hb11
  replace r4 := r4.below hb11
  replace B4 := B4.below hb11
  replace r5 := r5.below hb11
  replace B5 := B5.below hb11
  replace r9 := r9.below hb11
  replace ra := ra.below hb11
  replace Ba := Ba.below hb11
  replace hw0 := hw0.trans (hb11.mono hw0.size)
  have hzw11 := hb11.size
  clear q00 q0f q10 q1f
  have q00 := (B5).cell 0
  simp at q00
  have q0f := fun o => (B5).frozen o
  have q10 := (Ba).cell 0
  simp at q10
  have q1f := fun o => (Ba).frozen o
  go_wp2_with fail
  have hS := same_calls n n A5 Aa c5 c10 w11 _ _ r5 ra
  rw [eqP_refl] at hS
  refine (hS).mono ?_
  rintro e w12 ⟨rfl, hb12⟩
  clear hS
  replace hp := hp.below hb12
  replace B1 := B1.below hb12
  replace r3 := r3.below hb12
  replace B3 := B3.below hb12
  replace r4 := r4.below hb12
  replace B4 := B4.below hb12
  replace r5 := r5.below hb12
  replace B5 := B5.below hb12
  replace r9 := r9.below hb12
  replace ra := ra.below hb12
  replace Ba := Ba.below hb12
  replace hw0 := hw0.trans (hb12.mono hw0.size)
  have hzw12 := hb12.size
  clear q00 q0f q10 q1f
  have q00 := (B3).cell 0
  simp at q00
  have q0f := fun o => (B3).frozen o
  have q10 := (B1).cell 0
  simp at q10
  have q1f := fun o => (B1).frozen o
  go_wp2_with fail
  have hS := same_calls p p A3 A c3 ca w12 _ _ r3 hp
  rw [eqP_refl] at hS
  refine (hS).mono ?_
  rintro e w13 ⟨rfl, hb13⟩
  clear hS
  replace hp := hp.below hb13
  replace B1 := B1.below hb13
  replace r3 := r3.below hb13
  replace B3 := B3.below hb13
  replace r4 := r4.below hb13
  replace B4 := B4.below hb13
  replace r5 := r5.below hb13
  replace B5 := B5.below hb13
  replace r9 := r9.below hb13
  replace ra := ra.below hb13
  replace Ba := Ba.below hb13
  replace hw0 := hw0.trans (hb13.mono hw0.size)
  have hzw13 := hb13.size
  clear q00 q0f q10 q1f
  have q00 := (B1).cell 0
  simp at q00
  have q0f := fun o => (B1).frozen o
  go_wp2_with fail
  refine (rplain_calls p A ca w13 ok hp).mono ?_
  rintro e w14 ⟨rfl, hb14⟩
  replace hp := hp.below hb14
  replace B1 := B1.below hb14
  replace r3 := r3.below hb14
  replace B3 := B3.below hb14
  replace r4 := r4.below hb14
  replace B4 := B4.below hb14
  replace r5 := r5.below hb14
  replace B5 := B5.below hb14
  replace r9 := r9.below hb14
  replace ra := ra.below hb14
  replace Ba := Ba.below hb14
  replace hw0 := hw0.trans (hb14.mono hw0.size)
  have hzw14 := hb14.size
  clear q00 q0f
  have q00 := (B1).cell 0
  simp at q00
  have q0f := fun o => (B1).frozen o
  go_wp2_with fail
  refine ((copied_all 300000 (by omega)).2 p A ca w14 ok hp (by omega)).mono ?_
  rintro e w15 ⟨Ab, c15, rfl, rb, hb15⟩
  replace hp := hp.below hb15
  replace B1 := B1.below hb15
  replace r3 := r3.below hb15
  replace B3 := B3.below hb15
  replace r4 := r4.below hb15
  replace B4 := B4.below hb15
  replace r5 := r5.below hb15
  replace B5 := B5.below hb15
  replace r9 := r9.below hb15
  replace ra := ra.below hb15
  replace Ba := Ba.below hb15
  replace hw0 := hw0.trans (hb15.mono hw0.size)
  have hzw15 := hb15.size
  clear q00 q0f
  go_wp2_with fail
  have hN := rempty_calls 262144 (by omega) p Ab c15 w15 _ rb hsh hgt2
  rw [emptyR_eq, hnn] at hN
  refine (hN).mono ?_
  rintro e w16 ⟨rfl, hb16⟩
  clear hN
  replace hp := hp.below hb16
  replace B1 := B1.below hb16
  replace r3 := r3.below hb16
  replace B3 := B3.below hb16
  replace r4 := r4.below hb16
  replace B4 := B4.below hb16
  replace r5 := r5.below hb16
  replace B5 := B5.below hb16
  replace r9 := r9.below hb16
  replace ra := ra.below hb16
  replace Ba := Ba.below hb16
  replace rb := rb.below hb16
  replace hw0 := hw0.trans (hb16.mono hw0.size)
  have hzw16 := hb16.size
  have q00 := (B4).cell 0
  simp at q00
  have q0f := fun o => (B4).frozen o
  go_wp2_with fail
  have hN := (sp_all (ndP n)).2 n A4 c4 w16 _ r4 (fun k hk => by have := hk.2; omega) (Nat.le_refl _)
  refine (hN).mono ?_
  rintro e w17 ⟨rfl, T⟩
  clear hN
  clear q00 q0f
  have hc := T.chg
  replace B1 := B1.chg hc (by intro h; have := h.1; omega)
  replace B3 := B3.chg hc (by intro h; have := h.1; omega)
  replace B5 := B5.chg hc (by intro h; have := h.2; omega)
  replace Ba := Ba.chg hc (by intro h; have := h.2; omega)
  replace hp := hp.chg hc (by intro k hk h; have := h.1; have := hok k hk; omega)
  replace r3 := r3.chg hc (by intro k hk h; have := h.1; have := hk.2; omega)
  replace r5 := r5.chg hc (by intro k hk h; have := h.2; omega)
  replace ra := ra.chg hc (by intro k hk h; have := h.2; omega)
  replace hw0 := hw0.trans (hc.below hw0.size (by intro k hk; have := hk.1; omega))
  clear r4 B4
  have q00 := (B5).cell 0
  simp at q00
  have q0f := fun o => (B5).frozen o
  have q10 := (Ba).cell 0
  simp at q10
  have q1f := fun o => (Ba).frozen o
  go_wp2_with fail
  have hS := same_calls n n A5 Aa c5 c10 w17 _ _ r5 ra
  rw [eqP_refl] at hS
  refine (hS).mono ?_
  rintro e w18 ⟨rfl, hb18⟩
  clear hS
  replace B1 := B1.below hb18
  replace B3 := B3.below hb18
  replace B5 := B5.below hb18
  replace Ba := Ba.below hb18
  replace hp := hp.below hb18
  replace r3 := r3.below hb18
  replace r5 := r5.below hb18
  replace ra := ra.below hb18
  replace hw0 := hw0.trans (hb18.mono hw0.size)
  have hzw18 := hb18.size
  clear q00 q0f q10 q1f
  have q00 := (B3).cell 0
  simp at q00
  have q0f := fun o => (B3).frozen o
  have q10 := (B1).cell 0
  simp at q10
  have q1f := fun o => (B1).frozen o
  go_wp2_with fail
  have hS := same_calls p p A3 A c3 ca w18 _ _ r3 hp
  rw [eqP_refl] at hS
  refine (hS).mono ?_
  rintro e w19 ⟨rfl, hb19⟩
  go_wp2_with fail
  go_ret
  exact ⟨rfl, hw0.trans (hb19.mono hw0.size)⟩
end Go.Proofs.YtbbmmeaicilabaaGreatDoor

/- The statement on gimletlaw13.FragPaths: its row and its card. -/
namespace Go.Proofs.YtbbmmeaicilabaaGreatDoor.paths
open Go.ChangeShapes Go.WideShapes Go.ChangeAt Go.RowKit

theorem own : ownKnob Tryz.prog.godebug = none := by kernel_rfl
theorem laidOut : laidOutB Tryz.prog = true := by kernel_rfl

set_option maxRecDepth 100000 in
/-- one path that came in: what it reads as, where it lies -/
theorem open_path {H : Type} {enc : TypeId × Value → H} {W : World} {base : Nat} {v : Value} {d : DataW H} {p : List MemPlace} (hok : Value.okWide Tryz.prog W .any base 27 v) (h : DataW.Trod enc Tryz.prog W 0 (fun _ => true) true 27 v d p) (hf : W.noneFrozen p) (hz : Sz Tryz.prog 27 d) :
    ∃ A c xs, v = .agg #[.slice A xs.length c] ∧ RowK kS W (okW W) A xs ∧ smP xs := by
  obtain ⟨cs, rfl, -⟩ := okWide_struct Tryz.underlying27 hok
  obtain ⟨fuel, hf'⟩ := h
  obtain ⟨A, c, xs, h1, h2, h3⟩ := (rd_all fuel).2.2 _ _ hf' hf hz
  refine ⟨A, c, xs, ?_, h2, h3⟩
  have h4 : cs.toList = [.slice A xs.length c] := h1
  rw [← Array.toArray_toList (xs := cs), h4]

theorem laid_plain : laidMetH Tryz.prog Rows.fragPathsRow.laid = laidMet Tryz.prog Rows.fragPathsRow.laid := by
  funext w
  exact MakeChecks.laidMetH_plain _ _ _ (by kernel_rfl)

set_option maxRecDepth 100000 in
theorem contract (H : Type) (enc : TypeId × Value → H) (F : Stop.Interp) (W : World) (base : Nat) (args : Array Value) (ds gs : List (DataW H)) (before : List MemPlace)
    (hval : ∀ (j : Nat) t v, Tryz.f4.params[j]? = some t → args[j]? = some v → Value.okWide Tryz.prog W .any base t v)
    (hW : DataW.Whole enc Tryz.prog Tryz.f4.params.toList Rows.fragPathsSpec.vars false W args.toList ds gs before)
    (hsz : (DataW.weightsEach Tryz.prog (Tryz.f4.params.toList ++ (OpenSpec.ofChange Rows.fragPathsSpec).bare.plain.varTypes Tryz.prog) (ds ++ gs)).all (· ≤ reachBytes) = true)
    (hL : laidMetH Tryz.prog Rows.fragPathsRow.laid W) (hsh : W.ShapedOpen Tryz.prog) :
    Calls Tryz.prog 4 args W fun e W' => ∃ v, e = .returned v ∧ ((OpenSpec.ofChange Rows.fragPathsSpec).at F).post enc Tryz.prog Tryz.f4 false true false false W args v W' := by
  have hW' := hW
  obtain ⟨p, q, hA0, hV, rfl, hfz, hnd⟩ := hW
  have hA : DataW.TrodAll enc Tryz.prog W 0 (fun _ => true) true Tryz.f4.params.toList args.toList ds p := hA0
  rw [Tryz.params4] at hA hval hsz
  obtain ⟨v0, d0, rfl, rfl, h0⟩ := trodAll_one hA
  obtain ⟨rfl, rfl⟩ := trodVars_none hV
  clear hA0
  simp only [List.append_nil] at hW' hfz hsz
  have hz : Sz Tryz.prog 27 d0 := fun z hz => by
    have := List.all_eq_true.1 hsz z (DataW.weights_mem_each (j := 0) (t := 27) rfl rfl z hz)
    simpa using this
  obtain ⟨A, c, xs, rfl, hrow, hsm⟩ := open_path (hval 0 27 v0 rfl rfl) h0 hfz hz
  rw [laid_plain] at hL
  have hT : WOX W := wox_of hL hsh (by simp [Rows.fragPathsRow]) (by simp [Rows.fragPathsRow]) (by simp [Rows.fragPathsRow]) (by simp [Rows.fragPathsRow]) (by simp [Rows.fragPathsRow])
  have hlt : ∀ x ∈ p, x.block < W.heap.size := fun x hx => by simpa using hW'.lt x hx
  refine (fragPaths_any xs A c W (okW W) hrow (fun k h => h) hsm hT).mono ?_
  rintro e W' ⟨rfl, bel⟩
  have e1 : ((OpenSpec.ofChange Rows.fragPathsSpec).at F).fn H ([d0] ++ []) = { results := [.lit (.bool true)], args := [d0] } := rfl
  refine ⟨_, rfl, _, _, _, [], p, [], hW', ?_, ?_, ?_, bel.frame _, fun h => by cases h⟩
  · rw [e1]; exact trodAll_mk1 (shut_bool Tryz.underlying4 _)
  · rw [e1]; exact trodAll_mk1 (Below.trod laidOut (by kernel_rfl) (of_decide_eq_true (by kernel_rfl)) h0 bel hlt)
  · rw [e1]; rfl

/-- a world for the witness -/
noncomputable def w0 (os : Os) : World := World.laidAll Tryz.prog os Rows.fragPathsRow.laid
theorem laid_met (os : Os) (args : Array Value) : laidMetH Tryz.prog Rows.fragPathsRow.laid ((w0 os).forCall (fun _ _ => 0) ⟨#[], args, []⟩).memory := by
  rw [laid_plain]
  exact laidMet_laidAll _ (by kernel_rfl) (by kernel_rfl)

set_option maxRecDepth 100000 in
theorem lifted (os : Os) (started : os.Started) (H : Type) (enc : TypeId × Value → H) (F : Stop.Interp) :
    ReturnsInHanded {} Tryz.checked os 4 .any ((OpenSpec.ofChange Rows.fragPathsSpec).preRow enc Tryz.prog Tryz.f4 Rows.fragPathsRow.domain false Rows.fragPathsRow.laid) (((OpenSpec.ofChange Rows.fragPathsSpec).at F).post enc Tryz.prog Tryz.f4 false true false false) := by
  have hx : DataW.whole enc Tryz.prog ((w0 os).forCall (fun _ _ => 0) ⟨#[], #[.agg #[.slice none 0 0]], []⟩).memory Tryz.f4.params.toList Rows.fragPathsSpec.vars false #[Value.agg #[.slice none 0 0]].toList 8 = some ([.agg [.nil]], [], []) := by kernel_rfl
  have hok : Input.okWideB Tryz.prog ((w0 os).forCall (fun _ _ => 0) ⟨#[], #[.agg #[.slice none 0 0]], []⟩) 4 ⟨#[], #[.agg #[.slice none 0 0]], []⟩ = true := by kernel_rfl
  refine returnsInHanded_of_row (C := Tryz.checked) (s := OpenSpec.ofChange Rows.fragPathsSpec) own started (by kernel_rfl) Tryz.func4 ?_ ?_
  · refine ⟨w0 os, fun _ _ => 0, ⟨#[], #[.agg #[.slice none 0 0]], []⟩, World.laidAll_os _ _ _, World.shaped_of_ZipB (by kernel_rfl) (by kernel_rfl), rfl, (Input.okWide_of_okWideB hok).2, ?_, ?_⟩
    · exact OpenSpec.preRow_of_cond 8 hx (by kernel_rfl) (fun k hk => by cases hk) (by kernel_rfl) (laid_met os _)
    · simp only [Assume.holds]
      exact ⟨by simp, by simp, fun _ => Modest.zero, by simp, by simp⟩
  intro W base args ds gs before hval hW _ _ hsz hL hsh _
  exact contract H enc F W base args ds gs before hval hW hsz hL hsh

theorem said : Rows.FragPathsSaid :=
  OpenClaim.holds_of_cond 4 Tryz.f4 rfl rfl rfl rfl rfl rfl rfl ⟨rfl, rfl, rfl, rfl, rfl⟩ rfl rfl rfl rfl rfl (by kernel_rfl) Tryz.func4 (by kernel_rfl)
    (of_decide_eq_true (by kernel_rfl)) (by unfold Func.isWrapper; first | (rw [if_pos (by decide +kernel)]; kernel_rfl) | (rw [if_neg (by decide +kernel)]; exact ⟨rfl, rfl⟩))
    (fun os started H enc _ F => by rw [OpenClaim.pre_eq_preRow]; exact lifted os started H enc F)

theorem plain (f : FuncId) (fn : Func) (hf : Tryz.pinned.checked.prog.funcNamed "gimlet/gimletlaw13.FragPaths" = some f) (hfn : Tryz.pinned.checked.prog.funcs[f]? = some fn) :
    true = Tryz.pinned.checked.prog.looks [] ∧ ∀ (j : Nat) t, fn.params[j]? = some t → Tryz.pinned.checked.prog.wantsStandIn t = false := by
  obtain rfl : f = 4 := Option.some.inj ((show Tryz.prog.funcNamed "gimlet/gimletlaw13.FragPaths" = some 4 by kernel_rfl).symm.trans hf) |>.symm
  obtain rfl : fn = Tryz.f4 := (Option.some.inj (Tryz.func4.symm.trans hfn)).symm
  refine ⟨by kernel_rfl, fun j t ht => ?_⟩
  rw [Tryz.params4] at ht
  obtain rfl : t = 27 := by simpa using Array.mem_of_getElem? ht
  exact (show Tryz.prog.wantsStandIn 27 = false by kernel_rfl)

/-- THE CARD -/
theorem card : Rows.FragPathsCardSaid :=
  Claim7.holds_tied_plain_at .later [] _ _ _ _ said (fun _ h => by cases h) (by kernel_rfl) (fun _ h => by cases h) fragPaths_row_tie rfl ⟨rfl, rfl⟩ (by kernel_rfl) rfl plain (by kernel_rfl)
end Go.Proofs.YtbbmmeaicilabaaGreatDoor.paths
namespace Go.Proofs.YtbbmmeaicilabaaGreatDoor
/-- THE CARD on gimletlaw13.FragPaths: true for every path; each path reads behind the call as it read before. -/
theorem fragPaths_card : Rows.FragPathsCardSaid := paths.card
end Go.Proofs.YtbbmmeaicilabaaGreatDoor
