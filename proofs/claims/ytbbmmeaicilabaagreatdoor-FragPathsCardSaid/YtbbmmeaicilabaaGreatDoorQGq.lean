/- frag.Empty: does a query select nothing, by the rules? Conditions: the path lies in memory as a tree, of weight a million at most; the tables lie as the text lays them. -/
import Derived.Test.YtbbmmeaicilabaaGreatDoorQGp
set_option linter.unusedVariables false
set_option linter.unusedSimpArgs false
namespace Go.Proofs.YtbbmmeaicilabaaGreatDoor
open Go.RowKit

def badS (pv : Option Step) (x : Step) : Bool :=
  ((decide (x.wh.length = 1) && eqE (x.wh.headD default) eFalse) || (pv.isSome && decide (x.axis = 3))) || ((match pv with | some q => decide (q.test = 2) | none => false) && (decide (x.axis = 0) || decide (x.axis = 1)))
def emptyGo : Option Step → List Step → Bool
  | _, [] => false
  | pv, x :: r => badS pv x || emptyGo (some x) r
def firstB (f : Step) (n : Nat) : Bool := (f.axis == 3 && (!(f.test == 3) || n == 1)) || (f.axis == 0 && f.test == 2)
def emptyB (l : List Step) : Bool := firstB (l.headD default) l.length || emptyGo none l
theorem pathF_pos (f : Expr → Expr) (p : List Step) : 0 < (pathF f p).length := by
  unfold pathF
  split
  · simp
  · rename_i h
    cases hs : stepsF f p
    · rw [hs] at h; simp at h
    · simp
def pvAt (l : List Step) (k : Nat) : Option Step := if k = 0 then none else l[k - 1]?
theorem emptyGo_drop (l : List Step) (k : Nat) (h : k < l.length) : emptyGo (pvAt l k) (l.drop k) = (badS (pvAt l k) l[k] || emptyGo (pvAt l (k + 1)) (l.drop (k + 1))) := by
  rw [List.drop_eq_getElem_cons h, emptyGo]
  congr 2
  unfold pvAt
  simp [h]

theorem headD_get {l : List Expr} (h : 0 < l.length) : l.headD default = l[0] := by
  cases l
  · simp at h
  · rfl
set_option maxRecDepth 100000 in
set_option maxHeartbeats 4000000 in
/-- frag.Empty -/
theorem empty_calls (N : Nat) (hN : N ≤ 1000000) (p : List Step) (A : Option Addr) (ca : Nat) (w : World) (ok : Nat → Prop) (hx : RowK kS w ok A p) (hM : wtP p ≤ N) (hT : WOK w) :
    Calls Tryz.prog 14 #[.agg #[.slice A p.length ca]] w fun e w' => e = .returned (.tuple #[.bool (isQ p && emptyB (nrm N p)), .int .i64 (shapeE (isQ p))]) ∧ Below w.heap.size w w' := by
  have HT := Lib.hid hT
  clear hT
  have hlx := hx.len
  cases hq : isQ p
  · have hc := normal_calls N hN p A ca
    rw [hq] at hc
    have e6 : shapeE false = 6 := rfl
    rw [e6] at hc ⊢
    rw [Bool.false_and]
    generalize nrm N p = r at hc
    have HC := Lib.hid hc
    clear hc hq e6
    go_enter Tryz.func14, Tryz.ntmps14
    go_wp2_with fail
    refine (HC.out _ ok (hx.below (bl1 (Nat.le_refl _))) hM HT.out.al).mono ?_
    rintro e w2 ⟨A2, c2, rfl, hr2, hb2⟩
    go_wp2_with fail
    go_ret2
    exact ⟨rfl, (al1 (Nat.le_refl _) hb2).trans (bl1 (by have := hb2.size; simp at this; omega))⟩
  · have hc := normal_calls N hN p A ca
    have hpos : 0 < (nrm N p).length := by unfold nrm; rw [if_pos hq]; exact pathF_pos _ _
    rw [hq] at hc
    have e6 : shapeE true = 0 := rfl
    rw [e6] at hc ⊢
    rw [Bool.true_and]
    generalize nrm N p = r at hc hpos ⊢
    have hem : Hid (emptyB r = (firstB (r.headD default) r.length || emptyGo none r)) := rfl
    generalize emptyB r = ans at hem ⊢
    have HC := Lib.hid hc
    clear hc hq e6
    go_enter Tryz.func14, Tryz.ntmps14
    go_wp2_with fail
    refine (HC.out _ ok (hx.below (bl1 (Nat.le_refl _))) hM HT.out.al).mono ?_
    rintro e w2 ⟨A2, c2, rfl, hr2, hb2⟩
    have hB := al1 (Nat.le_refl _) hb2
    obtain ⟨f, b, off, Aw, cw, HF, rfl, hbw, hR, x0, x1, x2, x3⟩ := hr2.atS 0 hpos
    have HF2 : Hid (r.headD default = f) := by
      unfold Hid
      rw [← HF.out]
      cases r
      · simp at hpos
      · rfl
    simp only [Nat.zero_mul, Nat.add_zero] at x0 x1 x2 x3
    have hbb : b ≠ w2.heap.size := by omega
    have hbb1 : b ≠ w2.heap.size + 1 := by omega
    have hlr := hr2.len
    have hem2 : Hid (ans = (firstB f r.length || emptyGo none r)) := by unfold Hid; rw [hem.out, HF2.out]
    clear hem
    have hW0 : ∀ o o2, Below w.heap.size w ((w2.alloc o).alloc o2) := fun o o2 => hB.trans ((bl2 (Nat.le_refl _)).mono hB.size)
    have hrl : ((r.length : Int) == 1) = (r.length == 1) := by rw [Bool.eq_iff_iff]; simp; omega
    go_upto_region 5 with fail
    go_cut [44] (fun v wx => v = .bool (firstB f r.length) ∧ Below w2.heap.size w2 wx ∧ Blk wx w2.heap.size #[.slice (some ⟨b, off, none⟩) r.length c2] 27)
    case first =>
      go_wp2_with fail
      all_goals
        go_meet
        case rel => exact ⟨by first | (simp [firstB, *]; done) | (simp [firstB, *]; omega) | (unfold firstB; rw [hrl]; simp [*]; done), bl2 (Nat.le_refl _), by first | exact (Blk.new _ _ _).al _ | (have hl1 : r.length = 1 := (by omega); rw [hl1]; exact (Blk.new _ _ _).al _)⟩
    case rest =>
    obtain ⟨rfl, hbx, BX⟩ := hcut
    have hbX := hB.trans (hbx.mono hB.size)
    clear x0 x1 x2 x3
    cases hfb : firstB f r.length
    · have hfe : Hid (ans = emptyGo none r) := by unfold Hid; rw [hem2.out, hfb]; rfl
      clear hem2 hfb
      have hp0 := BX.cell 0
      simp at hp0
      have HNX := Lib.hid (fun (k : Nat) (h : k < r.length) => emptyGo_drop r k h)
      go_wp2_with fail
      go_loopw [48] (fun i wr => ∃ k : Nat, k ≤ r.length ∧ i = .int .i64 k ∧ Hid (ans = emptyGo (pvAt r k) (r.drop k)) ∧ Below w2.heap.size w2 wr ∧ Blk wr w2.heap.size #[.slice (some ⟨b, off, none⟩) r.length c2] 27) (fun i _ => r.length - (intOf i).toNat)
      case atStart => exact ⟨0, Nat.zero_le _, rfl, hfe, hbx, BX⟩
      case round =>
        clear hp0
        obtain ⟨k, hk, rfl, HE, hbr, BR⟩ := hrel
        have hbR := hB.trans (hbr.mono hB.size)
        have hp4 := BR.cell 0
        simp at hp4
        have hszr := BR.lt
        by_cases hlt : k < r.length
        · obtain ⟨x, b8, off8, Ax, cx, HX, e8, hbw8, hRx, x0, x1, x2, x3⟩ := (hr2.below hbr).atS k hlt
          obtain ⟨rfl, rfl⟩ : b = b8 ∧ off = off8 := by simpa using e8
          clear e8
          have hbb2 : b ≠ wr.heap.size := by omega
          have hstep := HNX.out k hlt
          rw [HX.out] at hstep
          have HS := Lib.hid hstep
          clear hstep
          go_upto_region 10 with fail
          go_cut [73] (fun v wx => v = .bool ((decide (x.wh.length = 1) && eqE (x.wh.headD default) eFalse) || (decide (0 < k) && decide (x.axis = 3))) ∧ Below wr.heap.size wr wx ∧ Blk wx wr.heap.size #[.int .i64 x.axis, .int .i64 x.test, .string x.name, .slice Ax x.wh.length cx] 55)
          case first =>
            have hk3 : (x.axis == 3) = decide (x.axis = 3) := by cases h : decide (x.axis = 3) <;> simp_all
            obtain ⟨W, hW⟩ : ∃ W, W = wr.alloc (Obj.cells #[.int .i64 x.axis, .int .i64 x.test, .string x.name, .slice Ax x.wh.length cx] 55) := ⟨_, rfl⟩
            have hbW : Below wr.heap.size wr W := by rw [hW]; exact bl1 (Nat.le_refl _)
            have BXS : Blk W wr.heap.size #[.int .i64 x.axis, .int .i64 x.test, .string x.name, .slice Ax x.wh.length cx] 55 := by rw [hW]; exact Blk.new _ _ _
            have hRW := hRx.bel hbW
            rw [← hW]
            have k0 := (BXS).cell 0
            have k1 := (BXS).cell 1
            have k2 := (BXS).cell 2
            have k3 := (BXS).cell 3
            simp at k0 k1 k2 k3
            have kf := fun o => (BXS).frozen o
            clear hW kf x0 x1 x2 x3
            have hkb : decide ((0 : Int) < (k : Int)) = decide (0 < k) := by simp
            generalize hkk : decide (0 < k) = kk at *
            by_cases hl : x.wh.length = 1
            · have hone : ((x.wh.length : Int) == 1) = true := by simp [hl]
              have hlp : (0 : Int) < x.wh.length := by omega
              obtain ⟨Ax2, cx2, e7, hrow⟩ := hRW.rows
              simp at e7
              obtain ⟨rfl, rfl⟩ := e7
              obtain ⟨y, b2, off2, Ay, cy, Sy, dy, HY, rfl, hbw2, hRy, y0, y1, y2, y3, y4, y5, y6⟩ := hrow.atE 0 (by omega)
              simp only [Nat.zero_mul, Nat.add_zero] at y0 y1 y2 y3 y4 y5 y6
              have hyy : x.wh.headD default = y := by rw [← HY.out]; exact headD_get _
              refine wp_region_held_drew (S := fun w' => (w'.cell? ⟨wr.heap.size, 0, none⟩ = some (.int .i64 x.axis) ∧ w'.cell? ⟨wr.heap.size, 1, none⟩ = some (.int .i64 x.test) ∧ w'.cell? ⟨wr.heap.size, 2, none⟩ = some (.string x.name) ∧ w'.cell? ⟨wr.heap.size, 3, none⟩ = some (.slice (some ⟨b2, off2, none⟩) x.wh.length cx)) ∧ w'.cell? ⟨b2, off2, none⟩ = some (.int .i64 y.op) ∧ w'.cell? ⟨b2, off2 + 1, none⟩ = some (.slice Ay y.args.length cy) ∧ w'.cell? ⟨b2, off2 + 2, none⟩ = some (.slice Sy y.path.length dy) ∧ w'.cell? ⟨b2, off2 + 3, none⟩ = some (.string y.attr) ∧ w'.cell? ⟨b2, off2 + 4, none⟩ = some (.int .i64 y.cmp) ∧ w'.cell? ⟨b2, off2 + 5, none⟩ = some (.string y.text) ∧ w'.cell? ⟨b2, off2 + 6, none⟩ = some (.int .i64 y.num)) (by kernel_rfl) ⟨⟨k0, k1, k2, k3⟩, y0, y1, y2, y3, y4, y5, y6⟩ (fun hHeld => ?_)
              have hz3 := BXS.lt
              clear hone
              have hone1 : (x.wh.length : Int) = 1 := by omega
              clear y0 y1 y2 y3 y4 y5 y6 k0 k1 k2 k3
              (refine wpAnyH_take (i := 0) (oi := { dst := some 53, op := _, type := _, pos := _, after := _, guard := _ }) (v := ?_) rfl (by kernel_rfl) (by kernel_rfl) (by kernel_rfl) (fun _ _ _ h => h) (Or.inl ⟨by rfl, ?_⟩) (by assumption) ?_; rotate_left; (intro w hSw; (try dsimp only at hSw); go_simp; try with_reducible rfl); simp only [Act.put, List.setIfInBounds_toArray, List.set_cons_zero, List.set_cons_succ])
              (refine wpAnyH_take (i := 1) (oi := { dst := some 54, op := _, type := _, pos := _, after := _, guard := _ }) (v := ?_) rfl (by kernel_rfl) (by kernel_rfl) (by kernel_rfl) (fun _ _ _ h => h) (Or.inl ⟨by rfl, ?_⟩) (by assumption) ?_; rotate_left; (intro w hSw; (try dsimp only at hSw); go_simp; try with_reducible rfl); simp only [Act.put, List.setIfInBounds_toArray, List.set_cons_zero, List.set_cons_succ])
              (refine wpAnyH_take (i := 2) (oi := { dst := some 55, op := _, type := _, pos := _, after := _, guard := _ }) (v := ?_) rfl (by kernel_rfl) (by kernel_rfl) (by kernel_rfl) (fun _ _ _ h => h) (Or.inl ⟨by rfl, ?_⟩) (by assumption) ?_; rotate_left; (intro w hSw; (try dsimp only at hSw); go_simp; try with_reducible rfl); simp only [Act.put, List.setIfInBounds_toArray, List.set_cons_zero, List.set_cons_succ])
              (refine wpAnyH_take (i := 3) (oi := { dst := some 56, op := _, type := _, pos := _, after := _, guard := _ }) (v := ?_) rfl (by kernel_rfl) (by kernel_rfl) (by kernel_rfl) (fun _ _ _ h => h) (Or.inl ⟨by rfl, ?_⟩) (by assumption) ?_; rotate_left; (intro w hSw; (try dsimp only at hSw); go_simp; try with_reducible rfl); simp only [Act.put, List.setIfInBounds_toArray, List.set_cons_zero, List.set_cons_succ])
              (refine wpAnyH_take (i := 4) (oi := { dst := some 57, op := _, type := _, pos := _, after := _, guard := _ }) (v := ?_) rfl (by kernel_rfl) (by kernel_rfl) (by kernel_rfl) (fun _ _ _ h => h) (Or.inl ⟨by rfl, ?_⟩) (by assumption) ?_; rotate_left; (intro w hSw; (try dsimp only at hSw); go_simp; try with_reducible rfl); simp only [Act.put, List.setIfInBounds_toArray, List.set_cons_zero, List.set_cons_succ])
              (refine wpAnyH_take (i := 5) (oi := { dst := some 58, op := _, type := _, pos := _, after := _, guard := _ }) (v := ?_) rfl (by kernel_rfl) (by kernel_rfl) (by kernel_rfl) (fun _ _ _ h => h) (Or.inl ⟨by rfl, ?_⟩) (by assumption) ?_; rotate_left; (intro w hSw; (try dsimp only at hSw); go_simp; try with_reducible rfl); simp only [Act.put, List.setIfInBounds_toArray, List.set_cons_zero, List.set_cons_succ])
              (refine wpAnyH_take (i := 6) (oi := { dst := some 59, op := _, type := _, pos := _, after := _, guard := _ }) (v := ?_) rfl (by kernel_rfl) (by kernel_rfl) (by kernel_rfl) (fun _ _ _ h => h) (Or.inl ⟨by rfl, ?_⟩) (by assumption) ?_; rotate_left; (intro w hSw; (try dsimp only at hSw); go_simp; try with_reducible rfl); simp only [Act.put, List.setIfInBounds_toArray, List.set_cons_zero, List.set_cons_succ])
              (refine wpAnyH_take (i := 7) (oi := { dst := some 60, op := _, type := _, pos := _, after := _, guard := _ }) (v := ?_) rfl (by kernel_rfl) (by kernel_rfl) (by kernel_rfl) (fun _ _ _ h => h) (Or.inl ⟨by rfl, ?_⟩) (by assumption) ?_; rotate_left; (intro w hSw; (try dsimp only at hSw); go_simp; try with_reducible rfl); simp only [Act.put, List.setIfInBounds_toArray, List.set_cons_zero, List.set_cons_succ])
              (refine wpAnyH_take (i := 8) (oi := { dst := some 61, op := _, type := _, pos := _, after := _, guard := _ }) (v := ?_) rfl (by kernel_rfl) (by kernel_rfl) (by kernel_rfl) (fun _ _ _ h => h) (Or.inl ⟨by rfl, ?_⟩) (by assumption) ?_; rotate_left; (intro w hSw; (try dsimp only at hSw); go_simp; try with_reducible rfl); simp only [Act.put, List.setIfInBounds_toArray, List.set_cons_zero, List.set_cons_succ])
              refine wpAnyH_ready (rs := [9]) (by kernel_rfl) (by simp) ?_
              refine AllReadyH.cons (o := { dst := some 62, op := _, type := _, pos := _, after := _, guard := _ }) rfl (fun K hK => ?_) AllReadyH.nil
              go_simp
              refine (lie_any _).mono ?_
              rintro e w3 ⟨cs3, rfl, hR3, hb3⟩
              have hb3' : Below W.heap.size W w3 := Below.trans (by repeat' (first | with_reducible exact Below.refl _ _ | with_reducible assumption | with_reducible refine Below.alloc ?_ ?_ _ | with_reducible refine Below.setCell ?_ ?_ _ | with_reducible refine Below.drew ?_ | with_reducible refine below_dn ?_ | omega | (simp; done) | (simp; omega))) (hb3.mono (by simp))
              obtain ⟨hq3, -⟩ := bcell hb3'
              refine hK.out _ _ ?_ (fun hHeld3 => ?_)
              · exact ⟨⟨(hq3 _ _ hz3).trans hHeld.1.1, (hq3 _ _ hz3).trans hHeld.1.2.1, (hq3 _ _ hz3).trans hHeld.1.2.2.1, (hq3 _ _ hz3).trans hHeld.1.2.2.2⟩, (hq3 _ _ hbw2).trans hHeld.2.1, (hq3 _ _ hbw2).trans hHeld.2.2.1, (hq3 _ _ hbw2).trans hHeld.2.2.2.1, (hq3 _ _ hbw2).trans hHeld.2.2.2.2.1, (hq3 _ _ hbw2).trans hHeld.2.2.2.2.2.1, (hq3 _ _ hbw2).trans hHeld.2.2.2.2.2.2.1, (hq3 _ _ hbw2).trans hHeld.2.2.2.2.2.2.2⟩
              clear hK K hq3 hHeld
              try simp only [Act.put, List.setIfInBounds_toArray, List.set_cons_zero, List.set_cons_succ]
              obtain ⟨A3, c3, S3, d3, rfl, -, -⟩ := hR3.rows
              refine wpAnyH_ready (rs := [10]) (by kernel_rfl) (by simp) ?_
              refine AllReadyH.cons (o := { dst := some 63, op := _, type := _, pos := _, after := _, guard := _ }) rfl (fun K hK => ?_) AllReadyH.nil
              go_simp
              refine (alike_any y eFalse [.int .i64 y.op, .slice Ay y.args.length cy, .slice Sy y.path.length dy, .string y.attr, .int .i64 y.cmp, .string y.text, .int .i64 y.num] _ _ _ _ (hRy.bel hb3') hR3).mono ?_
              rintro e w4 ⟨rfl, hb4⟩
              have hb4' : Below W.heap.size W w4 := Below.trans hb3' (hb4.mono hb3'.size)
              obtain ⟨hq4, -⟩ := bcell hb4
              refine hK.out _ _ ?_ (fun hHeld4 => ?_)
              · exact ⟨⟨(hq4 _ _ (Nat.lt_of_lt_of_le hz3 hb3'.size)).trans hHeld3.1.1, (hq4 _ _ (Nat.lt_of_lt_of_le hz3 hb3'.size)).trans hHeld3.1.2.1, (hq4 _ _ (Nat.lt_of_lt_of_le hz3 hb3'.size)).trans hHeld3.1.2.2.1, (hq4 _ _ (Nat.lt_of_lt_of_le hz3 hb3'.size)).trans hHeld3.1.2.2.2⟩, (hq4 _ _ (Nat.lt_of_lt_of_le hbw2 hb3'.size)).trans hHeld3.2.1, (hq4 _ _ (Nat.lt_of_lt_of_le hbw2 hb3'.size)).trans hHeld3.2.2.1, (hq4 _ _ (Nat.lt_of_lt_of_le hbw2 hb3'.size)).trans hHeld3.2.2.2.1, (hq4 _ _ (Nat.lt_of_lt_of_le hbw2 hb3'.size)).trans hHeld3.2.2.2.2.1, (hq4 _ _ (Nat.lt_of_lt_of_le hbw2 hb3'.size)).trans hHeld3.2.2.2.2.2.1, (hq4 _ _ (Nat.lt_of_lt_of_le hbw2 hb3'.size)).trans hHeld3.2.2.2.2.2.2.1, (hq4 _ _ (Nat.lt_of_lt_of_le hbw2 hb3'.size)).trans hHeld3.2.2.2.2.2.2.2⟩
              clear hK K hq4 hHeld3
              try simp only [Act.put, List.setIfInBounds_toArray, List.set_cons_zero, List.set_cons_succ]
              have BXE := BXS.below hb4'
              cases hq : eqE y eFalse
              · cases kk
                ·
                  (refine wpAnyH_take (i := 11) (oi := { dst := some 64, op := _, type := _, pos := _, after := _, guard := _ }) (v := ?_) rfl (by kernel_rfl) (by kernel_rfl) (by kernel_rfl) (fun _ _ _ h => h) (Or.inl ⟨by rfl, ?_⟩) (by assumption) ?_; rotate_left; (intro w hSw; (try dsimp only at hSw); go_simp; try with_reducible rfl); simp only [Act.put, List.setIfInBounds_toArray, List.set_cons_zero, List.set_cons_succ])
                  (refine wpAnyH_take (i := 12) (oi := { dst := some 65, op := _, type := _, pos := _, after := _, guard := _ }) (v := ?_) rfl (by kernel_rfl) (by kernel_rfl) (by kernel_rfl) (fun _ _ _ h => h) (Or.inl ⟨by rfl, ?_⟩) (by assumption) ?_; rotate_left; (intro w hSw; (try dsimp only at hSw); go_simp; try with_reducible rfl); simp only [Act.put, List.setIfInBounds_toArray, List.set_cons_zero, List.set_cons_succ])
                  (refine wpAnyH_take (i := 13) (oi := { dst := some 66, op := _, type := _, pos := _, after := _, guard := _ }) (v := ?_) rfl (by kernel_rfl) (by kernel_rfl) (by kernel_rfl) (fun _ _ _ h => h) (Or.inl ⟨by rfl, ?_⟩) (by assumption) ?_; rotate_left; (intro w hSw; (try dsimp only at hSw); go_simp; try with_reducible rfl); simp only [Act.put, List.setIfInBounds_toArray, List.set_cons_zero, List.set_cons_succ])
                  (refine wpAnyH_take (i := 14) (oi := { dst := some 67, op := _, type := _, pos := _, after := _, guard := _ }) (v := ?_) rfl (by kernel_rfl) (by kernel_rfl) (by kernel_rfl) (fun _ _ _ h => h) (Or.inl ⟨by rfl, ?_⟩) (by assumption) ?_; rotate_left; (intro w hSw; (try dsimp only at hSw); go_simp; try with_reducible rfl); simp only [Act.put, List.setIfInBounds_toArray, List.set_cons_zero, List.set_cons_succ])
                  (refine wpAnyH_take (i := 15) (oi := { dst := some 68, op := _, type := _, pos := _, after := _, guard := _ }) (v := ?_) rfl (by kernel_rfl) (by kernel_rfl) (by kernel_rfl) (fun _ _ _ h => h) (Or.inl ⟨by rfl, ?_⟩) (by assumption) ?_; rotate_left; (intro w hSw; (try dsimp only at hSw); go_simp; try with_reducible rfl); simp only [Act.put, List.setIfInBounds_toArray, List.set_cons_zero, List.set_cons_succ])
                  (refine wpAnyH_take (i := 16) (oi := { dst := some 69, op := _, type := _, pos := _, after := _, guard := _ }) (v := undef) rfl (by kernel_rfl) (by kernel_rfl) (by kernel_rfl) (fun _ _ _ h => h) (Or.inr ⟨by rfl, rfl⟩) (by assumption) ?_; simp only [Act.put, List.setIfInBounds_toArray, List.set_cons_zero, List.set_cons_succ])
                  (refine wpAnyH_take (i := 17) (oi := { dst := some 70, op := _, type := _, pos := _, after := _, guard := _ }) (v := undef) rfl (by kernel_rfl) (by kernel_rfl) (by kernel_rfl) (fun _ _ _ h => h) (Or.inr ⟨by rfl, rfl⟩) (by assumption) ?_; simp only [Act.put, List.setIfInBounds_toArray, List.set_cons_zero, List.set_cons_succ])
                  (refine wpAnyH_take (i := 18) (oi := { dst := some 71, op := _, type := _, pos := _, after := _, guard := _ }) (v := undef) rfl (by kernel_rfl) (by kernel_rfl) (by kernel_rfl) (fun _ _ _ h => h) (Or.inr ⟨by rfl, rfl⟩) (by assumption) ?_; simp only [Act.put, List.setIfInBounds_toArray, List.set_cons_zero, List.set_cons_succ])
                  (refine wpAnyH_take (i := 19) (oi := { dst := some 72, op := _, type := _, pos := _, after := _, guard := _ }) (v := ?_) rfl (by kernel_rfl) (by kernel_rfl) (by kernel_rfl) (fun _ _ _ h => h) (Or.inl ⟨by rfl, ?_⟩) (by assumption) ?_; rotate_left; (intro w hSw; (try dsimp only at hSw); go_simp; try with_reducible rfl); simp only [Act.put, List.setIfInBounds_toArray, List.set_cons_zero, List.set_cons_succ])
                  (refine wpAnyH_take (i := 20) (oi := { dst := some 73, op := _, type := _, pos := _, after := _, guard := _ }) (v := ?_) rfl (by kernel_rfl) (by kernel_rfl) (by kernel_rfl) (fun _ _ _ h => h) (Or.inl ⟨by rfl, ?_⟩) (by assumption) ?_; rotate_left; (intro w hSw; (try dsimp only at hSw); go_simp; try with_reducible rfl); simp only [Act.put, List.setIfInBounds_toArray, List.set_cons_zero, List.set_cons_succ])
                  refine wpAnyH_done (by kernel_rfl) ?_ _
                  go_wp2_with fail
                  go_meet
                  case rel => exact ⟨by rw [hyy, hq]; simp [*], hbW.trans (hb4'.mono hbW.size), BXE⟩
                ·
                  (refine wpAnyH_take (i := 11) (oi := { dst := some 64, op := _, type := _, pos := _, after := _, guard := _ }) (v := ?_) rfl (by kernel_rfl) (by kernel_rfl) (by kernel_rfl) (fun _ _ _ h => h) (Or.inl ⟨by rfl, ?_⟩) (by assumption) ?_; rotate_left; (intro w hSw; (try dsimp only at hSw); go_simp; try with_reducible rfl); simp only [Act.put, List.setIfInBounds_toArray, List.set_cons_zero, List.set_cons_succ])
                  (refine wpAnyH_take (i := 12) (oi := { dst := some 65, op := _, type := _, pos := _, after := _, guard := _ }) (v := ?_) rfl (by kernel_rfl) (by kernel_rfl) (by kernel_rfl) (fun _ _ _ h => h) (Or.inl ⟨by rfl, ?_⟩) (by assumption) ?_; rotate_left; (intro w hSw; (try dsimp only at hSw); go_simp; try with_reducible rfl); simp only [Act.put, List.setIfInBounds_toArray, List.set_cons_zero, List.set_cons_succ])
                  (refine wpAnyH_take (i := 13) (oi := { dst := some 66, op := _, type := _, pos := _, after := _, guard := _ }) (v := ?_) rfl (by kernel_rfl) (by kernel_rfl) (by kernel_rfl) (fun _ _ _ h => h) (Or.inl ⟨by rfl, ?_⟩) (by assumption) ?_; rotate_left; (intro w hSw; (try dsimp only at hSw); go_simp; try with_reducible rfl); simp only [Act.put, List.setIfInBounds_toArray, List.set_cons_zero, List.set_cons_succ])
                  (refine wpAnyH_take (i := 14) (oi := { dst := some 67, op := _, type := _, pos := _, after := _, guard := _ }) (v := ?_) rfl (by kernel_rfl) (by kernel_rfl) (by kernel_rfl) (fun _ _ _ h => h) (Or.inl ⟨by rfl, ?_⟩) (by assumption) ?_; rotate_left; (intro w hSw; (try dsimp only at hSw); go_simp; try with_reducible rfl); simp only [Act.put, List.setIfInBounds_toArray, List.set_cons_zero, List.set_cons_succ])
                  (refine wpAnyH_take (i := 15) (oi := { dst := some 68, op := _, type := _, pos := _, after := _, guard := _ }) (v := ?_) rfl (by kernel_rfl) (by kernel_rfl) (by kernel_rfl) (fun _ _ _ h => h) (Or.inl ⟨by rfl, ?_⟩) (by assumption) ?_; rotate_left; (intro w hSw; (try dsimp only at hSw); go_simp; try with_reducible rfl); simp only [Act.put, List.setIfInBounds_toArray, List.set_cons_zero, List.set_cons_succ])
                  (refine wpAnyH_take (i := 16) (oi := { dst := some 69, op := _, type := _, pos := _, after := _, guard := _ }) (v := ?_) rfl (by kernel_rfl) (by kernel_rfl) (by kernel_rfl) (fun _ _ _ h => h) (Or.inl ⟨by rfl, ?_⟩) (by assumption) ?_; rotate_left; (intro w hSw; (try dsimp only at hSw); go_simp; try with_reducible rfl); simp only [Act.put, List.setIfInBounds_toArray, List.set_cons_zero, List.set_cons_succ])
                  (refine wpAnyH_take (i := 17) (oi := { dst := some 70, op := _, type := _, pos := _, after := _, guard := _ }) (v := ?_) rfl (by kernel_rfl) (by kernel_rfl) (by kernel_rfl) (fun _ _ _ h => h) (Or.inl ⟨by rfl, ?_⟩) (by assumption) ?_; rotate_left; (intro w hSw; (try dsimp only at hSw); go_simp; try with_reducible rfl); simp only [Act.put, List.setIfInBounds_toArray, List.set_cons_zero, List.set_cons_succ])
                  (refine wpAnyH_take (i := 18) (oi := { dst := some 71, op := _, type := _, pos := _, after := _, guard := _ }) (v := ?_) rfl (by kernel_rfl) (by kernel_rfl) (by kernel_rfl) (fun _ _ _ h => h) (Or.inl ⟨by rfl, ?_⟩) (by assumption) ?_; rotate_left; (intro w hSw; (try dsimp only at hSw); go_simp; try with_reducible rfl); simp only [Act.put, List.setIfInBounds_toArray, List.set_cons_zero, List.set_cons_succ])
                  (refine wpAnyH_take (i := 19) (oi := { dst := some 72, op := _, type := _, pos := _, after := _, guard := _ }) (v := ?_) rfl (by kernel_rfl) (by kernel_rfl) (by kernel_rfl) (fun _ _ _ h => h) (Or.inl ⟨by rfl, ?_⟩) (by assumption) ?_; rotate_left; (intro w hSw; (try dsimp only at hSw); go_simp; try with_reducible rfl); simp only [Act.put, List.setIfInBounds_toArray, List.set_cons_zero, List.set_cons_succ])
                  (refine wpAnyH_take (i := 20) (oi := { dst := some 73, op := _, type := _, pos := _, after := _, guard := _ }) (v := ?_) rfl (by kernel_rfl) (by kernel_rfl) (by kernel_rfl) (fun _ _ _ h => h) (Or.inl ⟨by rfl, ?_⟩) (by assumption) ?_; rotate_left; (intro w hSw; (try dsimp only at hSw); go_simp; try with_reducible rfl); simp only [Act.put, List.setIfInBounds_toArray, List.set_cons_zero, List.set_cons_succ])
                  refine wpAnyH_done (by kernel_rfl) ?_ _
                  go_wp2_with fail
                  go_meet
                  case rel => exact ⟨by rw [hyy, hq]; simp [*], hbW.trans (hb4'.mono hbW.size), BXE⟩
              ·
                (refine wpAnyH_take (i := 11) (oi := { dst := some 64, op := _, type := _, pos := _, after := _, guard := _ }) (v := ?_) rfl (by kernel_rfl) (by kernel_rfl) (by kernel_rfl) (fun _ _ _ h => h) (Or.inl ⟨by rfl, ?_⟩) (by assumption) ?_; rotate_left; (intro w hSw; (try dsimp only at hSw); go_simp; try with_reducible rfl); simp only [Act.put, List.setIfInBounds_toArray, List.set_cons_zero, List.set_cons_succ])
                (refine wpAnyH_take (i := 12) (oi := { dst := some 65, op := _, type := _, pos := _, after := _, guard := _ }) (v := ?_) rfl (by kernel_rfl) (by kernel_rfl) (by kernel_rfl) (fun _ _ _ h => h) (Or.inl ⟨by rfl, ?_⟩) (by assumption) ?_; rotate_left; (intro w hSw; (try dsimp only at hSw); go_simp; try with_reducible rfl); simp only [Act.put, List.setIfInBounds_toArray, List.set_cons_zero, List.set_cons_succ])
                (refine wpAnyH_take (i := 13) (oi := { dst := some 66, op := _, type := _, pos := _, after := _, guard := _ }) (v := undef) rfl (by kernel_rfl) (by kernel_rfl) (by kernel_rfl) (fun _ _ _ h => h) (Or.inr ⟨by rfl, rfl⟩) (by assumption) ?_; simp only [Act.put, List.setIfInBounds_toArray, List.set_cons_zero, List.set_cons_succ])
                (refine wpAnyH_take (i := 14) (oi := { dst := some 67, op := _, type := _, pos := _, after := _, guard := _ }) (v := undef) rfl (by kernel_rfl) (by kernel_rfl) (by kernel_rfl) (fun _ _ _ h => h) (Or.inr ⟨by rfl, rfl⟩) (by assumption) ?_; simp only [Act.put, List.setIfInBounds_toArray, List.set_cons_zero, List.set_cons_succ])
                (refine wpAnyH_take (i := 15) (oi := { dst := some 68, op := _, type := _, pos := _, after := _, guard := _ }) (v := undef) rfl (by kernel_rfl) (by kernel_rfl) (by kernel_rfl) (fun _ _ _ h => h) (Or.inr ⟨by rfl, rfl⟩) (by assumption) ?_; simp only [Act.put, List.setIfInBounds_toArray, List.set_cons_zero, List.set_cons_succ])
                (refine wpAnyH_take (i := 16) (oi := { dst := some 69, op := _, type := _, pos := _, after := _, guard := _ }) (v := undef) rfl (by kernel_rfl) (by kernel_rfl) (by kernel_rfl) (fun _ _ _ h => h) (Or.inr ⟨by rfl, rfl⟩) (by assumption) ?_; simp only [Act.put, List.setIfInBounds_toArray, List.set_cons_zero, List.set_cons_succ])
                (refine wpAnyH_take (i := 17) (oi := { dst := some 70, op := _, type := _, pos := _, after := _, guard := _ }) (v := undef) rfl (by kernel_rfl) (by kernel_rfl) (by kernel_rfl) (fun _ _ _ h => h) (Or.inr ⟨by rfl, rfl⟩) (by assumption) ?_; simp only [Act.put, List.setIfInBounds_toArray, List.set_cons_zero, List.set_cons_succ])
                (refine wpAnyH_take (i := 18) (oi := { dst := some 71, op := _, type := _, pos := _, after := _, guard := _ }) (v := undef) rfl (by kernel_rfl) (by kernel_rfl) (by kernel_rfl) (fun _ _ _ h => h) (Or.inr ⟨by rfl, rfl⟩) (by assumption) ?_; simp only [Act.put, List.setIfInBounds_toArray, List.set_cons_zero, List.set_cons_succ])
                (refine wpAnyH_take (i := 19) (oi := { dst := some 72, op := _, type := _, pos := _, after := _, guard := _ }) (v := undef) rfl (by kernel_rfl) (by kernel_rfl) (by kernel_rfl) (fun _ _ _ h => h) (Or.inr ⟨by rfl, rfl⟩) (by assumption) ?_; simp only [Act.put, List.setIfInBounds_toArray, List.set_cons_zero, List.set_cons_succ])
                (refine wpAnyH_take (i := 20) (oi := { dst := some 73, op := _, type := _, pos := _, after := _, guard := _ }) (v := ?_) rfl (by kernel_rfl) (by kernel_rfl) (by kernel_rfl) (fun _ _ _ h => h) (Or.inl ⟨by rfl, ?_⟩) (by assumption) ?_; rotate_left; (intro w hSw; (try dsimp only at hSw); go_simp; try with_reducible rfl); simp only [Act.put, List.setIfInBounds_toArray, List.set_cons_zero, List.set_cons_succ])
                refine wpAnyH_done (by kernel_rfl) ?_ _
                go_wp2_with fail
                go_meet
                case rel => exact ⟨by rw [hyy, hq]; simp [*], hbW.trans (hb4'.mono hbW.size), BXE⟩
            · have hone : ((x.wh.length : Int) == 1) = false := by rw [beq_eq_false_iff_ne]; omega
              have hBd : Below wr.heap.size wr W.drew := hbW.drew
              refine wp_region_held_drew (S := fun w' => w'.cell? ⟨wr.heap.size, 0, none⟩ = some (.int .i64 x.axis) ∧ w'.cell? ⟨wr.heap.size, 1, none⟩ = some (.int .i64 x.test) ∧ w'.cell? ⟨wr.heap.size, 2, none⟩ = some (.string x.name) ∧ w'.cell? ⟨wr.heap.size, 3, none⟩ = some (.slice Ax x.wh.length cx)) (by kernel_rfl) ⟨k0, k1, k2, k3⟩ (fun hHeld => ?_)
              have BXE : Blk W.drew wr.heap.size #[.int .i64 x.axis, .int .i64 x.test, .string x.name, .slice Ax x.wh.length cx] 55 := BXS
              cases kk
              ·
                (refine wpAnyH_take (i := 0) (oi := { dst := some 53, op := _, type := _, pos := _, after := _, guard := _ }) (v := ?_) rfl (by kernel_rfl) (by kernel_rfl) (by kernel_rfl) (fun _ _ _ h => h) (Or.inl ⟨by rfl, ?_⟩) (by assumption) ?_; rotate_left; (intro w hSw; (try dsimp only at hSw); go_simp; try with_reducible rfl); simp only [Act.put, List.setIfInBounds_toArray, List.set_cons_zero, List.set_cons_succ])
                (refine wpAnyH_take (i := 1) (oi := { dst := some 54, op := _, type := _, pos := _, after := _, guard := _ }) (v := ?_) rfl (by kernel_rfl) (by kernel_rfl) (by kernel_rfl) (fun _ _ _ h => h) (Or.inl ⟨by rfl, ?_⟩) (by assumption) ?_; rotate_left; (intro w hSw; (try dsimp only at hSw); go_simp; try with_reducible rfl); simp only [Act.put, List.setIfInBounds_toArray, List.set_cons_zero, List.set_cons_succ])
                (refine wpAnyH_take (i := 2) (oi := { dst := some 55, op := _, type := _, pos := _, after := _, guard := _ }) (v := ?_) rfl (by kernel_rfl) (by kernel_rfl) (by kernel_rfl) (fun _ _ _ h => h) (Or.inl ⟨by rfl, ?_⟩) (by assumption) ?_; rotate_left; (intro w hSw; (try dsimp only at hSw); go_simp; try with_reducible rfl); simp only [Act.put, List.setIfInBounds_toArray, List.set_cons_zero, List.set_cons_succ])
                (refine wpAnyH_take (i := 3) (oi := { dst := some 56, op := _, type := _, pos := _, after := _, guard := _ }) (v := ?_) rfl (by kernel_rfl) (by kernel_rfl) (by kernel_rfl) (fun _ _ _ h => h) (Or.inl ⟨by rfl, ?_⟩) (by assumption) ?_; rotate_left; (intro w hSw; (try dsimp only at hSw); go_simp; try with_reducible rfl); simp only [Act.put, List.setIfInBounds_toArray, List.set_cons_zero, List.set_cons_succ])
                (refine wpAnyH_take (i := 4) (oi := { dst := some 57, op := _, type := _, pos := _, after := _, guard := _ }) (v := ?_) rfl (by kernel_rfl) (by kernel_rfl) (by kernel_rfl) (fun _ _ _ h => h) (Or.inl ⟨by rfl, ?_⟩) (by assumption) ?_; rotate_left; (intro w hSw; (try dsimp only at hSw); go_simp; try with_reducible rfl); simp only [Act.put, List.setIfInBounds_toArray, List.set_cons_zero, List.set_cons_succ])
                (refine wpAnyH_take (i := 5) (oi := { dst := some 58, op := _, type := _, pos := _, after := _, guard := _ }) (v := undef) rfl (by kernel_rfl) (by kernel_rfl) (by kernel_rfl) (fun _ _ _ h => h) (Or.inr ⟨by rfl, rfl⟩) (by assumption) ?_; simp only [Act.put, List.setIfInBounds_toArray, List.set_cons_zero, List.set_cons_succ])
                (refine wpAnyH_take (i := 6) (oi := { dst := some 59, op := _, type := _, pos := _, after := _, guard := _ }) (v := undef) rfl (by kernel_rfl) (by kernel_rfl) (by kernel_rfl) (fun _ _ _ h => h) (Or.inr ⟨by rfl, rfl⟩) (by assumption) ?_; simp only [Act.put, List.setIfInBounds_toArray, List.set_cons_zero, List.set_cons_succ])
                (refine wpAnyH_take (i := 7) (oi := { dst := some 60, op := _, type := _, pos := _, after := _, guard := _ }) (v := undef) rfl (by kernel_rfl) (by kernel_rfl) (by kernel_rfl) (fun _ _ _ h => h) (Or.inr ⟨by rfl, rfl⟩) (by assumption) ?_; simp only [Act.put, List.setIfInBounds_toArray, List.set_cons_zero, List.set_cons_succ])
                (refine wpAnyH_take (i := 8) (oi := { dst := some 61, op := _, type := _, pos := _, after := _, guard := _ }) (v := undef) rfl (by kernel_rfl) (by kernel_rfl) (by kernel_rfl) (fun _ _ _ h => h) (Or.inr ⟨by rfl, rfl⟩) (by assumption) ?_; simp only [Act.put, List.setIfInBounds_toArray, List.set_cons_zero, List.set_cons_succ])
                (refine wpAnyH_take (i := 9) (oi := { dst := some 62, op := _, type := _, pos := _, after := _, guard := _ }) (v := undef) rfl (by kernel_rfl) (by kernel_rfl) (by kernel_rfl) (fun _ _ _ h => h) (Or.inr ⟨by rfl, rfl⟩) (by assumption) ?_; simp only [Act.put, List.setIfInBounds_toArray, List.set_cons_zero, List.set_cons_succ])
                (refine wpAnyH_take (i := 10) (oi := { dst := some 63, op := _, type := _, pos := _, after := _, guard := _ }) (v := undef) rfl (by kernel_rfl) (by kernel_rfl) (by kernel_rfl) (fun _ _ _ h => h) (Or.inr ⟨by rfl, rfl⟩) (by assumption) ?_; simp only [Act.put, List.setIfInBounds_toArray, List.set_cons_zero, List.set_cons_succ])
                (refine wpAnyH_take (i := 11) (oi := { dst := some 64, op := _, type := _, pos := _, after := _, guard := _ }) (v := ?_) rfl (by kernel_rfl) (by kernel_rfl) (by kernel_rfl) (fun _ _ _ h => h) (Or.inl ⟨by rfl, ?_⟩) (by assumption) ?_; rotate_left; (intro w hSw; (try dsimp only at hSw); go_simp; try with_reducible rfl); simp only [Act.put, List.setIfInBounds_toArray, List.set_cons_zero, List.set_cons_succ])
                (refine wpAnyH_take (i := 12) (oi := { dst := some 65, op := _, type := _, pos := _, after := _, guard := _ }) (v := ?_) rfl (by kernel_rfl) (by kernel_rfl) (by kernel_rfl) (fun _ _ _ h => h) (Or.inl ⟨by rfl, ?_⟩) (by assumption) ?_; rotate_left; (intro w hSw; (try dsimp only at hSw); go_simp; try with_reducible rfl); simp only [Act.put, List.setIfInBounds_toArray, List.set_cons_zero, List.set_cons_succ])
                (refine wpAnyH_take (i := 13) (oi := { dst := some 66, op := _, type := _, pos := _, after := _, guard := _ }) (v := ?_) rfl (by kernel_rfl) (by kernel_rfl) (by kernel_rfl) (fun _ _ _ h => h) (Or.inl ⟨by rfl, ?_⟩) (by assumption) ?_; rotate_left; (intro w hSw; (try dsimp only at hSw); go_simp; try with_reducible rfl); simp only [Act.put, List.setIfInBounds_toArray, List.set_cons_zero, List.set_cons_succ])
                (refine wpAnyH_take (i := 14) (oi := { dst := some 67, op := _, type := _, pos := _, after := _, guard := _ }) (v := ?_) rfl (by kernel_rfl) (by kernel_rfl) (by kernel_rfl) (fun _ _ _ h => h) (Or.inl ⟨by rfl, ?_⟩) (by assumption) ?_; rotate_left; (intro w hSw; (try dsimp only at hSw); go_simp; try with_reducible rfl); simp only [Act.put, List.setIfInBounds_toArray, List.set_cons_zero, List.set_cons_succ])
                (refine wpAnyH_take (i := 15) (oi := { dst := some 68, op := _, type := _, pos := _, after := _, guard := _ }) (v := ?_) rfl (by kernel_rfl) (by kernel_rfl) (by kernel_rfl) (fun _ _ _ h => h) (Or.inl ⟨by rfl, ?_⟩) (by assumption) ?_; rotate_left; (intro w hSw; (try dsimp only at hSw); go_simp; try with_reducible rfl); simp only [Act.put, List.setIfInBounds_toArray, List.set_cons_zero, List.set_cons_succ])
                (refine wpAnyH_take (i := 16) (oi := { dst := some 69, op := _, type := _, pos := _, after := _, guard := _ }) (v := undef) rfl (by kernel_rfl) (by kernel_rfl) (by kernel_rfl) (fun _ _ _ h => h) (Or.inr ⟨by rfl, rfl⟩) (by assumption) ?_; simp only [Act.put, List.setIfInBounds_toArray, List.set_cons_zero, List.set_cons_succ])
                (refine wpAnyH_take (i := 17) (oi := { dst := some 70, op := _, type := _, pos := _, after := _, guard := _ }) (v := undef) rfl (by kernel_rfl) (by kernel_rfl) (by kernel_rfl) (fun _ _ _ h => h) (Or.inr ⟨by rfl, rfl⟩) (by assumption) ?_; simp only [Act.put, List.setIfInBounds_toArray, List.set_cons_zero, List.set_cons_succ])
                (refine wpAnyH_take (i := 18) (oi := { dst := some 71, op := _, type := _, pos := _, after := _, guard := _ }) (v := undef) rfl (by kernel_rfl) (by kernel_rfl) (by kernel_rfl) (fun _ _ _ h => h) (Or.inr ⟨by rfl, rfl⟩) (by assumption) ?_; simp only [Act.put, List.setIfInBounds_toArray, List.set_cons_zero, List.set_cons_succ])
                (refine wpAnyH_take (i := 19) (oi := { dst := some 72, op := _, type := _, pos := _, after := _, guard := _ }) (v := ?_) rfl (by kernel_rfl) (by kernel_rfl) (by kernel_rfl) (fun _ _ _ h => h) (Or.inl ⟨by rfl, ?_⟩) (by assumption) ?_; rotate_left; (intro w hSw; (try dsimp only at hSw); go_simp; try with_reducible rfl); simp only [Act.put, List.setIfInBounds_toArray, List.set_cons_zero, List.set_cons_succ])
                (refine wpAnyH_take (i := 20) (oi := { dst := some 73, op := _, type := _, pos := _, after := _, guard := _ }) (v := ?_) rfl (by kernel_rfl) (by kernel_rfl) (by kernel_rfl) (fun _ _ _ h => h) (Or.inl ⟨by rfl, ?_⟩) (by assumption) ?_; rotate_left; (intro w hSw; (try dsimp only at hSw); go_simp; try with_reducible rfl); simp only [Act.put, List.setIfInBounds_toArray, List.set_cons_zero, List.set_cons_succ])
                refine wpAnyH_done (by kernel_rfl) ?_ _
                go_wp2_with fail
                go_meet
                case rel => exact ⟨by simp [*], (by repeat' (first | with_reducible exact Below.refl _ _ | with_reducible assumption | with_reducible refine Below.alloc ?_ ?_ _ | with_reducible refine Below.setCell ?_ ?_ _ | with_reducible refine Below.drew ?_ | with_reducible refine below_dn ?_ | omega | (simp; done) | (simp; omega))), BXE⟩
              ·
                (refine wpAnyH_take (i := 0) (oi := { dst := some 53, op := _, type := _, pos := _, after := _, guard := _ }) (v := ?_) rfl (by kernel_rfl) (by kernel_rfl) (by kernel_rfl) (fun _ _ _ h => h) (Or.inl ⟨by rfl, ?_⟩) (by assumption) ?_; rotate_left; (intro w hSw; (try dsimp only at hSw); go_simp; try with_reducible rfl); simp only [Act.put, List.setIfInBounds_toArray, List.set_cons_zero, List.set_cons_succ])
                (refine wpAnyH_take (i := 1) (oi := { dst := some 54, op := _, type := _, pos := _, after := _, guard := _ }) (v := ?_) rfl (by kernel_rfl) (by kernel_rfl) (by kernel_rfl) (fun _ _ _ h => h) (Or.inl ⟨by rfl, ?_⟩) (by assumption) ?_; rotate_left; (intro w hSw; (try dsimp only at hSw); go_simp; try with_reducible rfl); simp only [Act.put, List.setIfInBounds_toArray, List.set_cons_zero, List.set_cons_succ])
                (refine wpAnyH_take (i := 2) (oi := { dst := some 55, op := _, type := _, pos := _, after := _, guard := _ }) (v := ?_) rfl (by kernel_rfl) (by kernel_rfl) (by kernel_rfl) (fun _ _ _ h => h) (Or.inl ⟨by rfl, ?_⟩) (by assumption) ?_; rotate_left; (intro w hSw; (try dsimp only at hSw); go_simp; try with_reducible rfl); simp only [Act.put, List.setIfInBounds_toArray, List.set_cons_zero, List.set_cons_succ])
                (refine wpAnyH_take (i := 3) (oi := { dst := some 56, op := _, type := _, pos := _, after := _, guard := _ }) (v := ?_) rfl (by kernel_rfl) (by kernel_rfl) (by kernel_rfl) (fun _ _ _ h => h) (Or.inl ⟨by rfl, ?_⟩) (by assumption) ?_; rotate_left; (intro w hSw; (try dsimp only at hSw); go_simp; try with_reducible rfl); simp only [Act.put, List.setIfInBounds_toArray, List.set_cons_zero, List.set_cons_succ])
                (refine wpAnyH_take (i := 4) (oi := { dst := some 57, op := _, type := _, pos := _, after := _, guard := _ }) (v := ?_) rfl (by kernel_rfl) (by kernel_rfl) (by kernel_rfl) (fun _ _ _ h => h) (Or.inl ⟨by rfl, ?_⟩) (by assumption) ?_; rotate_left; (intro w hSw; (try dsimp only at hSw); go_simp; try with_reducible rfl); simp only [Act.put, List.setIfInBounds_toArray, List.set_cons_zero, List.set_cons_succ])
                (refine wpAnyH_take (i := 5) (oi := { dst := some 58, op := _, type := _, pos := _, after := _, guard := _ }) (v := undef) rfl (by kernel_rfl) (by kernel_rfl) (by kernel_rfl) (fun _ _ _ h => h) (Or.inr ⟨by rfl, rfl⟩) (by assumption) ?_; simp only [Act.put, List.setIfInBounds_toArray, List.set_cons_zero, List.set_cons_succ])
                (refine wpAnyH_take (i := 6) (oi := { dst := some 59, op := _, type := _, pos := _, after := _, guard := _ }) (v := undef) rfl (by kernel_rfl) (by kernel_rfl) (by kernel_rfl) (fun _ _ _ h => h) (Or.inr ⟨by rfl, rfl⟩) (by assumption) ?_; simp only [Act.put, List.setIfInBounds_toArray, List.set_cons_zero, List.set_cons_succ])
                (refine wpAnyH_take (i := 7) (oi := { dst := some 60, op := _, type := _, pos := _, after := _, guard := _ }) (v := undef) rfl (by kernel_rfl) (by kernel_rfl) (by kernel_rfl) (fun _ _ _ h => h) (Or.inr ⟨by rfl, rfl⟩) (by assumption) ?_; simp only [Act.put, List.setIfInBounds_toArray, List.set_cons_zero, List.set_cons_succ])
                (refine wpAnyH_take (i := 8) (oi := { dst := some 61, op := _, type := _, pos := _, after := _, guard := _ }) (v := undef) rfl (by kernel_rfl) (by kernel_rfl) (by kernel_rfl) (fun _ _ _ h => h) (Or.inr ⟨by rfl, rfl⟩) (by assumption) ?_; simp only [Act.put, List.setIfInBounds_toArray, List.set_cons_zero, List.set_cons_succ])
                (refine wpAnyH_take (i := 9) (oi := { dst := some 62, op := _, type := _, pos := _, after := _, guard := _ }) (v := undef) rfl (by kernel_rfl) (by kernel_rfl) (by kernel_rfl) (fun _ _ _ h => h) (Or.inr ⟨by rfl, rfl⟩) (by assumption) ?_; simp only [Act.put, List.setIfInBounds_toArray, List.set_cons_zero, List.set_cons_succ])
                (refine wpAnyH_take (i := 10) (oi := { dst := some 63, op := _, type := _, pos := _, after := _, guard := _ }) (v := undef) rfl (by kernel_rfl) (by kernel_rfl) (by kernel_rfl) (fun _ _ _ h => h) (Or.inr ⟨by rfl, rfl⟩) (by assumption) ?_; simp only [Act.put, List.setIfInBounds_toArray, List.set_cons_zero, List.set_cons_succ])
                (refine wpAnyH_take (i := 11) (oi := { dst := some 64, op := _, type := _, pos := _, after := _, guard := _ }) (v := ?_) rfl (by kernel_rfl) (by kernel_rfl) (by kernel_rfl) (fun _ _ _ h => h) (Or.inl ⟨by rfl, ?_⟩) (by assumption) ?_; rotate_left; (intro w hSw; (try dsimp only at hSw); go_simp; try with_reducible rfl); simp only [Act.put, List.setIfInBounds_toArray, List.set_cons_zero, List.set_cons_succ])
                (refine wpAnyH_take (i := 12) (oi := { dst := some 65, op := _, type := _, pos := _, after := _, guard := _ }) (v := ?_) rfl (by kernel_rfl) (by kernel_rfl) (by kernel_rfl) (fun _ _ _ h => h) (Or.inl ⟨by rfl, ?_⟩) (by assumption) ?_; rotate_left; (intro w hSw; (try dsimp only at hSw); go_simp; try with_reducible rfl); simp only [Act.put, List.setIfInBounds_toArray, List.set_cons_zero, List.set_cons_succ])
                (refine wpAnyH_take (i := 13) (oi := { dst := some 66, op := _, type := _, pos := _, after := _, guard := _ }) (v := ?_) rfl (by kernel_rfl) (by kernel_rfl) (by kernel_rfl) (fun _ _ _ h => h) (Or.inl ⟨by rfl, ?_⟩) (by assumption) ?_; rotate_left; (intro w hSw; (try dsimp only at hSw); go_simp; try with_reducible rfl); simp only [Act.put, List.setIfInBounds_toArray, List.set_cons_zero, List.set_cons_succ])
                (refine wpAnyH_take (i := 14) (oi := { dst := some 67, op := _, type := _, pos := _, after := _, guard := _ }) (v := ?_) rfl (by kernel_rfl) (by kernel_rfl) (by kernel_rfl) (fun _ _ _ h => h) (Or.inl ⟨by rfl, ?_⟩) (by assumption) ?_; rotate_left; (intro w hSw; (try dsimp only at hSw); go_simp; try with_reducible rfl); simp only [Act.put, List.setIfInBounds_toArray, List.set_cons_zero, List.set_cons_succ])
                (refine wpAnyH_take (i := 15) (oi := { dst := some 68, op := _, type := _, pos := _, after := _, guard := _ }) (v := ?_) rfl (by kernel_rfl) (by kernel_rfl) (by kernel_rfl) (fun _ _ _ h => h) (Or.inl ⟨by rfl, ?_⟩) (by assumption) ?_; rotate_left; (intro w hSw; (try dsimp only at hSw); go_simp; try with_reducible rfl); simp only [Act.put, List.setIfInBounds_toArray, List.set_cons_zero, List.set_cons_succ])
                (refine wpAnyH_take (i := 16) (oi := { dst := some 69, op := _, type := _, pos := _, after := _, guard := _ }) (v := ?_) rfl (by kernel_rfl) (by kernel_rfl) (by kernel_rfl) (fun _ _ _ h => h) (Or.inl ⟨by rfl, ?_⟩) (by assumption) ?_; rotate_left; (intro w hSw; (try dsimp only at hSw); go_simp; try with_reducible rfl); simp only [Act.put, List.setIfInBounds_toArray, List.set_cons_zero, List.set_cons_succ])
                (refine wpAnyH_take (i := 17) (oi := { dst := some 70, op := _, type := _, pos := _, after := _, guard := _ }) (v := ?_) rfl (by kernel_rfl) (by kernel_rfl) (by kernel_rfl) (fun _ _ _ h => h) (Or.inl ⟨by rfl, ?_⟩) (by assumption) ?_; rotate_left; (intro w hSw; (try dsimp only at hSw); go_simp; try with_reducible rfl); simp only [Act.put, List.setIfInBounds_toArray, List.set_cons_zero, List.set_cons_succ])
                (refine wpAnyH_take (i := 18) (oi := { dst := some 71, op := _, type := _, pos := _, after := _, guard := _ }) (v := ?_) rfl (by kernel_rfl) (by kernel_rfl) (by kernel_rfl) (fun _ _ _ h => h) (Or.inl ⟨by rfl, ?_⟩) (by assumption) ?_; rotate_left; (intro w hSw; (try dsimp only at hSw); go_simp; try with_reducible rfl); simp only [Act.put, List.setIfInBounds_toArray, List.set_cons_zero, List.set_cons_succ])
                (refine wpAnyH_take (i := 19) (oi := { dst := some 72, op := _, type := _, pos := _, after := _, guard := _ }) (v := ?_) rfl (by kernel_rfl) (by kernel_rfl) (by kernel_rfl) (fun _ _ _ h => h) (Or.inl ⟨by rfl, ?_⟩) (by assumption) ?_; rotate_left; (intro w hSw; (try dsimp only at hSw); go_simp; try with_reducible rfl); simp only [Act.put, List.setIfInBounds_toArray, List.set_cons_zero, List.set_cons_succ])
                (refine wpAnyH_take (i := 20) (oi := { dst := some 73, op := _, type := _, pos := _, after := _, guard := _ }) (v := ?_) rfl (by kernel_rfl) (by kernel_rfl) (by kernel_rfl) (fun _ _ _ h => h) (Or.inl ⟨by rfl, ?_⟩) (by assumption) ?_; rotate_left; (intro w hSw; (try dsimp only at hSw); go_simp; try with_reducible rfl); simp only [Act.put, List.setIfInBounds_toArray, List.set_cons_zero, List.set_cons_succ])
                refine wpAnyH_done (by kernel_rfl) ?_ _
                go_wp2_with fail
                go_meet
                case rel => exact ⟨by simp [*], (by repeat' (first | with_reducible exact Below.refl _ _ | with_reducible assumption | with_reducible refine Below.alloc ?_ ?_ _ | with_reducible refine Below.setCell ?_ ?_ _ | with_reducible refine Below.drew ?_ | with_reducible refine below_dn ?_ | omega | (simp; done) | (simp; omega))), BXE⟩
          case rest =>
          obtain ⟨rfl, hbc, BXc⟩ := hcut
          have hbRc := hbr.trans (hbc.mono hbr.size)
          have BRc := BR.below hbc
          clear x0 x1 x2 x3 hp4
          cases hc1 : ((decide (x.wh.length = 1) && eqE (x.wh.headD default) eFalse) || (decide (0 < k) && decide (x.axis = 3)))
          · have hpi : (pvAt r k).isSome = decide (0 < k) := by
              unfold pvAt; rcases k with _ | k
              · rfl
              · simp; omega
            obtain ⟨c2, hc2⟩ : ∃ c2, c2 = ((match pvAt r k with | some q => decide (q.test = 2) | none => false) && (decide (x.axis = 0) || decide (x.axis = 1))) := ⟨_, rfl⟩
            have hbs : badS (pvAt r k) x = c2 := by unfold badS; rw [hpi, hc1, Bool.false_or, hc2]
            have HBS := Lib.hid hbs
            have k0 := (BXc).cell 0
            have k1 := (BXc).cell 1
            have k2 := (BXc).cell 2
            have k3 := (BXc).cell 3
            simp at k0 k1 k2 k3
            have kf := fun o => (BXc).frozen o
            have hp9 := BRc.cell 0
            simp at hp9
            clear hc1 hbs kf
            go_upto_region 12 with fail
            go_cut [95] (fun v wx => v = .bool c2 ∧ wx = wc)
            case first =>
              rcases k with _ | j
              · have hc3 : c2 = false := by rw [hc2]; rfl
                clear hc2 hpi
                go_wp2_with fail
                go_meet
                case rel => exact ⟨by rw [hc3], rfl⟩
              · obtain ⟨q, b9, off9, Aq, cq, HQ, e9, -, -, -, q1, -, -⟩ := (hr2.below hbRc).atS j (by omega)
                obtain ⟨rfl, rfl⟩ : b = b9 ∧ off = off9 := by simpa using e9
                clear e9
                have hpv : pvAt r (j + 1) = some q := by unfold pvAt; rw [if_neg (by omega), ← HQ.out]; simp
                rw [hpv] at hc2
                simp only at hc2
                clear hpi hpv
                go_wp2_with fail
                all_goals
                  go_meet
                  case rel => exact ⟨by rw [hc2]; first | (simp [*]; done) | (congr 1; rw [Bool.eq_iff_iff]; simp [*]), rfl⟩
            case rest =>
            obtain ⟨rfl, rfl⟩ := hcut
            clear hc2 hpi
            cases c2
            · have HE2 : Hid (ans = emptyGo (pvAt r (k + 1)) (r.drop (k + 1))) := by unfold Hid; rw [HE.out, HS.out, HBS.out]; rfl
              go_wp2_with fail
              go_roundw
              case rel => exact ⟨k + 1, by omega, by go_num, HE2, hbRc, BRc⟩
              case measure => simp [intOf]; omega
            · have HA : Hid (ans = true) := by unfold Hid; rw [HE.out, HS.out, HBS.out]; rfl
              go_wp2_with fail
              go_ret2
              exact ⟨by rw [HA.out]; rfl, hB.trans (hbRc.mono hB.size)⟩
          · have HA : Hid (ans = true) := by
              unfold Hid; rw [HE.out, HS.out]; unfold badS
              have : (pvAt r k).isSome = decide (0 < k) := by
                unfold pvAt; rcases k with _ | k
                · rfl
                · simp; omega
              rw [this, hc1]; rfl
            clear hc1
            go_wp2_with fail
            go_ret2
            exact ⟨by rw [HA.out]; rfl, hB.trans (hbRc.mono hB.size)⟩
        · have hkk : r.drop k = [] := List.drop_of_length_le (by omega)
          have HA : Hid (ans = false) := by unfold Hid; rw [HE.out, hkk]; rfl
          clear hkk
          go_wp2_with fail
          go_ret2
          exact ⟨by rw [HA.out]; rfl, hbR⟩
    · have HA : Hid (ans = true) := by unfold Hid; rw [hem2.out, hfb]; rfl
      clear hem2 hfb
      go_wp2_with fail
      go_ret2
      exact ⟨by rw [HA.out]; rfl, hbX⟩
end Go.Proofs.YtbbmmeaicilabaaGreatDoor
