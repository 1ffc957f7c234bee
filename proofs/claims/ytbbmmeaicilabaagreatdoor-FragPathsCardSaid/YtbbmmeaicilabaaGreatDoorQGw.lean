/- gimletref13: Normal, Plain; Expr and Path on all of a query's shape. Conditions: the path lies in memory as a tree of a query's shape. -/
import Derived.Test.YtbbmmeaicilabaaGreatDoorQGv
import Derived.Test.YtbbmmeaicilabaaGreatDoorQGp
import Derived.Test.YtbbmmeaicilabaaGreatDoorQGq
set_option linter.unusedVariables false
set_option linter.unusedSimpArgs false
namespace Go.Proofs.YtbbmmeaicilabaaGreatDoor
open Go.RowKit

theorem ref_all (N : Nat) (hN : N ≤ 1000000) : ∀ n, n ≤ N → ∀ x, shE x = true → wtE x ≤ n → RefAt (normE n) x := by
  intro n
  induction n with
  | zero => intro _ x hx hw; have := wtE_pos x; omega
  | succ n ih =>
    intro hn x hx hw
    have ih := ih (by omega)
    have hE : ∀ y, shE y = true → wtE y ≤ n → Light (normE n) y ∧ RefAt (normE n) y := fun y h1 h2 => ⟨norm_light n y h1 h2, ih y h1 h2⟩
    show RefAt (exprF (normE n) (pathF (normE n))) x
    have hargs : ∀ y ∈ x.args, Light (normE n) y ∧ RefAt (normE n) y := by
      intro y hy
      obtain ⟨op, xs, ps, a, c, t, m⟩ := x
      simp only [Expr.args] at hy
      simp only [shE] at hx
      simp only [wtE] at hw
      refine hE y ?_ (by have := wtEs_mem hy; omega)
      split at hx
      · simp at hx; exact (shEs_iff xs).1 hx.1.2 y hy
      · split at hx
        · simp at hx; exact (shEs_iff xs).1 hx.1.2 y hy
        · simp at hx; rw [hx.1.1.2] at hy; cases hy
    obtain ⟨op, xs, ps, a, c, t, m⟩ := x
    by_cases h0 : op = 0
    · exact rexpr_ands _ _ h0 (by omega) (fun y hy => (hargs y hy).1) (fun y hy => (hargs y hy).2)
    by_cases h1 : op = 1
    · exact rexpr_ors _ _ h1 (by omega) (fun y hy => (hargs y hy).1) (fun y hy => (hargs y hy).2)
    by_cases h2 : op = 2
    · refine rexpr_not _ _ h2 ?_ (fun y hy => (hargs y hy).1) (fun y hy => (hargs y hy).2)
      subst h2; simp [shE] at hx; exact hx.1.1
    · have h01 : ¬ (op = 0 ∨ op = 1) := by omega
      simp only [shE, h01, h2, if_false, Bool.and_eq_true, decide_eq_true_eq, List.isEmpty_iff] at hx
      obtain ⟨⟨⟨h3, h4⟩, hl⟩, hp⟩ := hx
      exact rexpr_some _ _ h3 h4 (rpath_any (normE n) n (by omega) hE ps hp (by simp only [wtE] at hw; omega))
/-- gimletref13.Path on a path of a query's shape: its normal form -/
theorem ref_path (N : Nat) (hN : N ≤ 1000000) (p : List Step) (hp : shP p = true) (hw : wtP p ≤ N) : RPathAt (normE N) p :=
  rpath_any (normE N) N hN (fun y h1 h2 => ⟨norm_light N y h1 h2, ref_all N hN N (Nat.le_refl _) y h1 h2⟩) p hp hw

set_option maxHeartbeats 1000000 in
theorem rnormal_calls (N : Nat) (hN : N ≤ 1000000) (p : List Step) (A : Option Addr) (ca : Nat) (w : World) (ok : Nat → Prop) (hx : RowK kS w ok A p) (hp : shP p = true) (hw : wtP p ≤ N) :
    Calls Tryz.prog 16 #[.agg #[.slice A p.length ca]] w fun e w' => ∃ A' c', e = .returned (.agg #[.slice A' (normP N p).length c']) ∧ RowK kS w' (fun k => w.heap.size ≤ k) A' (normP N p) ∧ Below w.heap.size w w' := by
  have HP := Lib.hid (ref_path N hN p hp hw)
  unfold normP
  unfold RPathAt at HP
  generalize pathF (normE N) p = r at *
  go_enter Tryz.func16, Tryz.ntmps16
  go_wp2_with fail
  refine (HP.out A ca _ ok hx.al.al).mono ?_
  rintro e w3 ⟨A3, c3, rfl, hrow, hb3⟩
  have hB3 := al2 (Nat.le_refl _) hb3
  have BR := (Blk.new (w.alloc (.cells #[.slice A p.length ca] 27)) #[.slice none 0 0] 27).below hb3
  simp only [World.size_alloc] at BR
  have hcell := fun o => BR.cell o
  have hf := fun o => BR.frozen o
  have hlt := BR.lt
  have BR4 := BR.set 0 (.slice A3 r.length c3)
  have h0 := BR4.cell 0
  simp at h0
  go_wp2_with fail
  refine bodyPost_ret (v := .agg #[.slice A3 r.length c3]) ?h1 rfl ⟨A3, c3, rfl, ?h2, ?h3⟩
  case h1 => simp [results, Tryz.results16, go_sem, h0]
  case h3 => exact (by repeat' (first | with_reducible exact Below.refl _ _ | with_reducible assumption | with_reducible refine Below.alloc ?_ ?_ _ | with_reducible refine Below.setCell ?_ ?_ _ | with_reducible refine Below.drew ?_ | with_reducible refine below_dn ?_ | omega | (simp; done) | (simp; omega)))
  case h2 => exact ((hrow.mono (ok' := fun k => w.heap.size + 2 ≤ k) (by simp)).chg (p := fun k => k = w.heap.size + 1) (by repeat' (first | with_reducible exact Chg.refl _ _ | with_reducible assumption | with_reducible refine Chg.al ?_ | with_reducible refine Chg.set ?_ ?_ | with_reducible refine Chg.dr ?_ | with_reducible refine Chg.dn ?_ | with_reducible rfl | omega | (simp; done) | (simp; omega))) (by intro k hk; omega)).mono (by intro k hk; omega)

set_option maxHeartbeats 1000000 in
theorem rplain_calls (p : List Step) (A : Option Addr) (ca : Nat) (w : World) (ok : Nat → Prop) (hx : RowK kS w ok A p) :
    Calls Tryz.prog 17 #[.agg #[.slice A p.length ca]] w fun e w' => e = .returned (.bool (plainB p)) ∧ Below w.heap.size w w' := by
  have hlen := hx.len
  go_enter Tryz.func17, Tryz.ntmps17
  go_wp2_with fail
  go_loopw [3] (fun i wr => ∃ k : Nat, k ≤ p.length ∧ i = .int .i64 k ∧ Hid (∀ j, j < k → ∀ (h : j < p.length), p[j].wh.length = 0) ∧ Below w.heap.size w wr ∧ w.heap.size < wr.heap.size ∧ wr.cell? ⟨w.heap.size, 0, none⟩ = some (.slice A p.length ca)) (fun i _ => p.length - (intOf i).toNat)
  case atStart => exact ⟨0, Nat.zero_le _, rfl, fun j h => absurd h (by omega), bl1 (Nat.le_refl _), by simp, by simp [go_sem]⟩
  case round =>
    obtain ⟨k, hk, rfl, HE, hbr, hz, hc0⟩ := hrel
    by_cases hlt : k < p.length
    · obtain ⟨x, b, off, Aw, cw, HX, rfl, hbw, hR, x0, x1, x2, x3⟩ := (hx.below hbr).atS k hlt
      by_cases hl : x.wh.length = 0
      · have HQ : Hid (∀ j, j < k + 1 → ∀ (h : j < p.length), p[j].wh.length = 0) := by
          intro j hj h
          rcases Nat.lt_or_ge j k with hjk | hjk
          · exact HE.out j hjk h
          · obtain rfl : j = k := by omega
            rw [HX.out]; exact hl
        have hg : decide ((0 : Int) < (x.wh.length : Int)) = false := by rw [decide_eq_false_iff_not]; omega
        go_wp2_with fail
        go_roundw
        case rel => exact ⟨k + 1, by omega, by go_num, HQ, hbr, hz, hc0⟩
        case measure => simp [intOf]; omega
      · have HF : Hid (plainB p = false) := plainB_false k hlt (by rw [HX.out]; omega)
        have hg : decide ((0 : Int) < (x.wh.length : Int)) = true := by rw [decide_eq_true_eq]; omega
        go_wp2_with fail
        go_ret
        exact ⟨by rw [HF.out]; rfl, hbr⟩
    · have HF : Hid (plainB p = true) := plainB_all (fun j hj h => HE.out j (by omega) h)
      go_wp2_with fail
      go_ret
      exact ⟨by rw [HF.out]; rfl, hbr⟩
end Go.Proofs.YtbbmmeaicilabaaGreatDoor

/- gimletref13.Empty: does a query select nothing, by the document's rules? And: on normal forms it is what frag.Empty answers. Conditions: the path lies in memory as a tree of a query's shape, of weight a million at most. -/
namespace Go.Proofs.YtbbmmeaicilabaaGreatDoor
open Go.RowKit

def badR (pv : Option Step) (x : Step) : Bool :=
  ((decide (0 < x.wh.length) && eqE (x.wh.headD default) eFalse) || (pv.isSome && decide (x.axis = 3))) || ((match pv with | some q => decide (q.test = 2) | none => false) && (decide (x.axis = 0) || decide (x.axis = 1)))
def emptyRGo : Option Step → List Step → Bool
  | _, [] => false
  | pv, x :: r => badR pv x || emptyRGo (some x) r
def emptyR (l : List Step) : Bool := firstB (l.headD default) l.length || emptyRGo none l
theorem emptyRGo_drop (l : List Step) (k : Nat) (h : k < l.length) : emptyRGo (pvAt l k) (l.drop k) = (badR (pvAt l k) l[k] || emptyRGo (pvAt l (k + 1)) (l.drop (k + 1))) := by
  rw [List.drop_eq_getElem_cons h, emptyRGo]
  congr 2
  unfold pvAt
  simp [h]

set_option maxRecDepth 100000 in
set_option maxHeartbeats 8000000 in
theorem rempty_calls (N : Nat) (hN : N ≤ 1000000) (p : List Step) (A : Option Addr) (ca : Nat) (w : World) (ok : Nat → Prop) (hx : RowK kS w ok A p) (hp : shP p = true) (hM : wtP p ≤ N) :
    Calls Tryz.prog 18 #[.agg #[.slice A p.length ca]] w fun e w' => e = .returned (.bool (emptyR (normP N p))) ∧ Below w.heap.size w w' := by
  have hlx := hx.len
  have hc := ref_path N hN p hp hM A ca
  have hpos : 0 < (normP N p).length := pathF_pos _ _
  unfold normP at hpos ⊢
  generalize pathF (normE N) p = r at hc hpos ⊢
  have hem : Hid (emptyR r = (firstB (r.headD default) r.length || emptyRGo none r)) := rfl
  generalize emptyR r = ans at hem ⊢
  have HC := Lib.hid hc
  clear hc
  have hfd : ∀ (A : Option Addr) (n c : Nat) (w : World), (Instr.field 27 (.agg #[.slice A n c]) 0).run Tryz.prog w = .ok (.slice A n c) w := fun _ _ _ _ => by kernel_rfl
  go_enter Tryz.func18, Tryz.ntmps18
  go_wp2_with fail
  refine (HC.out _ ok (hx.below (bl1 (Nat.le_refl _)))).mono ?_
  rintro e w2 ⟨A2, c2, rfl, hr2, hb2⟩
  have hB := al1 (Nat.le_refl _) hb2
  obtain ⟨f, b, off, Aw, cw, HF, rfl, hbw, hR, x0, x1, x2, x3⟩ := hr2.atS 0 hpos
  have HF2 : Hid (r.headD default = f) := by
    unfold Hid
    rw [← HF.out]
    cases r
    · simp at hpos
    · rfl
  simp only [Nat.zero_mul, Nat.add_zero] at x0 x1 x2 x3
  have hbb : b ≠ w2.heap.size := by omega
  have hlr := hr2.len
  have hem2 : Hid (ans = (firstB f r.length || emptyRGo none r)) := by unfold Hid; rw [hem.out, HF2.out]
  clear hem
  have hrl : ((r.length : Int) == 1) = (r.length == 1) := by rw [Bool.eq_iff_iff]; simp; omega
  go_upto_region 3 with fail
  go_cut [34] (fun v wx => v = .bool (firstB f r.length) ∧ Below w2.heap.size w2 wx)
  case first =>
    have HRL := Lib.hid hrl
    clear hrl
    cases hb1 : ((r.length : Int) == 1)
    all_goals
      have hb2 : (r.length == 1) = _ := HRL.out.symm.trans hb1
      have HB2 := Lib.hid hb2
      clear hb2
      go_wp2_with fail
      all_goals
        go_meet
        case rel => exact ⟨by unfold firstB; rw [HB2.out]; simp [*], bl1 (Nat.le_refl _)⟩
  case rest =>
  obtain ⟨rfl, hbx⟩ := hcut
  have hbX := hB.trans (hbx.mono hB.size)
  clear x0 x1 x2 x3
  cases hfb : firstB f r.length
  · have hfe : Hid (ans = emptyRGo none r) := by unfold Hid; rw [hem2.out, hfb]; rfl
    clear hem2 hfb
    have HNX := Lib.hid (fun (k : Nat) (h : k < r.length) => emptyRGo_drop r k h)
    go_wp2_with fail
    go_loopw [5] (fun i wr => ∃ k : Nat, k ≤ r.length ∧ i = .int .i64 k ∧ Hid (ans = emptyRGo (pvAt r k) (r.drop k)) ∧ Below w2.heap.size w2 wr) (fun i _ => r.length - (intOf i).toNat)
    case atStart => exact ⟨0, Nat.zero_le _, rfl, hfe, hbx⟩
    case round =>
      obtain ⟨k, hk, rfl, HE, hbr⟩ := hrel
      have hbR := hB.trans (hbr.mono hB.size)
      by_cases hlt : k < r.length
      · obtain ⟨x, b8, off8, Ax, cx, HX, e8, hbw8, hRx, x0, x1, x2, x3⟩ := (hr2.below hbr).atS k hlt
        obtain ⟨rfl, rfl⟩ : b = b8 ∧ off = off8 := by simpa using e8
        clear e8
        have hstep := HNX.out k hlt
        rw [HX.out] at hstep
        have HS := Lib.hid hstep
        clear hstep
        have hki0 : (0 : Int) ≤ k := by omega
        have hki1 : (k : Int) < r.length := by omega
        go_upto_region 8 with fail
        go_cut [70] (fun v wx => v = .bool ((decide (0 < x.wh.length) && eqE (x.wh.headD default) eFalse) || (decide (0 < k) && decide (x.axis = 3))) ∧ Below wr.heap.size wr wx)
        case first =>
          have hk3 : (x.axis == 3) = decide (x.axis = 3) := by rw [Bool.eq_iff_iff]; simp
          have hkb : decide ((0 : Int) < (k : Int)) = decide (0 < k) := by simp
          generalize hkk : decide (0 < k) = kk at *
          by_cases hl : 0 < x.wh.length
          · have hlp : (0 : Int) < x.wh.length := by omega
            have hlb : decide ((0 : Int) < x.wh.length) = true := by rw [decide_eq_true_eq]; exact hlp
            have hlc : decide (0 < x.wh.length) = true := by rw [decide_eq_true_eq]; exact hl
            obtain ⟨Ax2, cx2, e7, hrow⟩ := hRx.rows
            simp at e7
            obtain ⟨rfl, rfl⟩ := e7
            obtain ⟨y, b2, off2, Ay, cy, Sy, dy, HY, rfl, hbw2, hRy, y0, y1, y2, y3, y4, y5, y6⟩ := hrow.atE 0 hl
            simp only [Nat.zero_mul, Nat.add_zero] at y0 y1 y2 y3 y4 y5 y6
            have hyy : x.wh.headD default = y := by rw [← HY.out]; exact headD_get _
            refine wp_region_held_drew (S := fun w' => (w'.cell? ⟨b, off + k * 4, none⟩ = some (.int .i64 x.axis) ∧ w'.cell? ⟨b, off + k * 4 + 1, none⟩ = some (.int .i64 x.test) ∧ w'.cell? ⟨b, off + k * 4 + 2, none⟩ = some (.string x.name) ∧ w'.cell? ⟨b, off + k * 4 + 3, none⟩ = some (.slice (some ⟨b2, off2, none⟩) x.wh.length cx)) ∧ w'.cell? ⟨b2, off2, none⟩ = some (.int .i64 y.op) ∧ w'.cell? ⟨b2, off2 + 1, none⟩ = some (.slice Ay y.args.length cy) ∧ w'.cell? ⟨b2, off2 + 2, none⟩ = some (.slice Sy y.path.length dy) ∧ w'.cell? ⟨b2, off2 + 3, none⟩ = some (.string y.attr) ∧ w'.cell? ⟨b2, off2 + 4, none⟩ = some (.int .i64 y.cmp) ∧ w'.cell? ⟨b2, off2 + 5, none⟩ = some (.string y.text) ∧ w'.cell? ⟨b2, off2 + 6, none⟩ = some (.int .i64 y.num)) (by kernel_rfl) ⟨⟨x0, x1, x2, x3⟩, y0, y1, y2, y3, y4, y5, y6⟩ (fun hHeld => ?_)
            clear y0 y1 y2 y3 y4 y5 y6 x0 x1 x2 x3
            (refine wpAnyH_take (i := 0) (oi := { dst := some 41, op := _, type := _, pos := _, after := _, guard := _ }) (v := ?_) rfl (by kernel_rfl) (by kernel_rfl) (by kernel_rfl) (fun _ _ _ h => h) (Or.inl ⟨by rfl, ?_⟩) (by assumption) ?_; rotate_left; (intro w hSw; (try dsimp only at hSw); go_simp; try with_reducible rfl); simp only [Act.put, List.setIfInBounds_toArray, List.set_cons_zero, List.set_cons_succ])
            (refine wpAnyH_take (i := 1) (oi := { dst := some 42, op := _, type := _, pos := _, after := _, guard := _ }) (v := ?_) rfl (by kernel_rfl) (by kernel_rfl) (by kernel_rfl) (fun _ _ _ h => h) (Or.inl ⟨by rfl, ?_⟩) (by assumption) ?_; rotate_left; (intro w hSw; (try dsimp only at hSw); go_simp; try with_reducible rfl); simp only [Act.put, List.setIfInBounds_toArray, List.set_cons_zero, List.set_cons_succ])
            (refine wpAnyH_take (i := 2) (oi := { dst := some 43, op := _, type := _, pos := _, after := _, guard := _ }) (v := ?_) rfl (by kernel_rfl) (by kernel_rfl) (by kernel_rfl) (fun _ _ _ h => h) (Or.inl ⟨by rfl, ?_⟩) (by assumption) ?_; rotate_left; (intro w hSw; (try dsimp only at hSw); go_simp; try with_reducible rfl); simp only [Act.put, List.setIfInBounds_toArray, List.set_cons_zero, List.set_cons_succ])
            (refine wpAnyH_take (i := 3) (oi := { dst := some 44, op := _, type := _, pos := _, after := _, guard := _ }) (v := ?_) rfl (by kernel_rfl) (by kernel_rfl) (by kernel_rfl) (fun _ _ _ h => h) (Or.inl ⟨by rfl, ?_⟩) (by assumption) ?_; rotate_left; (intro w hSw; (try dsimp only at hSw); go_simp; try with_reducible rfl); simp only [Act.put, List.setIfInBounds_toArray, List.set_cons_zero, List.set_cons_succ])
            (refine wpAnyH_take (i := 4) (oi := { dst := some 45, op := _, type := _, pos := _, after := _, guard := _ }) (v := ?_) rfl (by kernel_rfl) (by kernel_rfl) (by kernel_rfl) (fun _ _ _ h => h) (Or.inl ⟨by rfl, ?_⟩) (by assumption) ?_; rotate_left; (intro w hSw; (try dsimp only at hSw); go_simp; try with_reducible rfl); simp only [Act.put, List.setIfInBounds_toArray, List.set_cons_zero, List.set_cons_succ])
            (refine wpAnyH_take (i := 5) (oi := { dst := some 46, op := _, type := _, pos := _, after := _, guard := _ }) (v := ?_) rfl (by kernel_rfl) (by kernel_rfl) (by kernel_rfl) (fun _ _ _ h => h) (Or.inl ⟨by rfl, ?_⟩) (by assumption) ?_; rotate_left; (intro w hSw; (try dsimp only at hSw); go_simp; try with_reducible rfl); simp only [Act.put, List.setIfInBounds_toArray, List.set_cons_zero, List.set_cons_succ])
            (refine wpAnyH_take (i := 6) (oi := { dst := some 47, op := _, type := _, pos := _, after := _, guard := _ }) (v := ?_) rfl (by kernel_rfl) (by kernel_rfl) (by kernel_rfl) (fun _ _ _ h => h) (Or.inl ⟨by rfl, ?_⟩) (by assumption) ?_; rotate_left; (intro w hSw; (try dsimp only at hSw); go_simp; try with_reducible rfl); simp only [Act.put, List.setIfInBounds_toArray, List.set_cons_zero, List.set_cons_succ])
            (refine wpAnyH_take (i := 7) (oi := { dst := some 48, op := _, type := _, pos := _, after := _, guard := _ }) (v := ?_) rfl (by kernel_rfl) (by kernel_rfl) (by kernel_rfl) (fun _ _ _ h => h) (Or.inl ⟨by rfl, ?_⟩) (by assumption) ?_; rotate_left; (intro w hSw; (try dsimp only at hSw); go_simp; try with_reducible rfl); simp only [Act.put, List.setIfInBounds_toArray, List.set_cons_zero, List.set_cons_succ])
            (refine wpAnyH_take (i := 8) (oi := { dst := some 49, op := _, type := _, pos := _, after := _, guard := _ }) (v := ?_) rfl (by kernel_rfl) (by kernel_rfl) (by kernel_rfl) (fun _ _ _ h => h) (Or.inl ⟨by rfl, ?_⟩) (by assumption) ?_; rotate_left; (intro w hSw; (try dsimp only at hSw); go_simp; try with_reducible rfl); simp only [Act.put, List.setIfInBounds_toArray, List.set_cons_zero, List.set_cons_succ])
            (refine wpAnyH_take (i := 9) (oi := { dst := some 50, op := _, type := _, pos := _, after := _, guard := _ }) (v := ?_) rfl (by kernel_rfl) (by kernel_rfl) (by kernel_rfl) (fun _ _ _ h => h) (Or.inl ⟨by rfl, ?_⟩) (by assumption) ?_; rotate_left; (intro w hSw; (try dsimp only at hSw); go_simp; try with_reducible rfl); simp only [Act.put, List.setIfInBounds_toArray, List.set_cons_zero, List.set_cons_succ])
            (refine wpAnyH_take (i := 10) (oi := { dst := some 51, op := _, type := _, pos := _, after := _, guard := _ }) (v := ?_) rfl (by kernel_rfl) (by kernel_rfl) (by kernel_rfl) (fun _ _ _ h => h) (Or.inl ⟨by rfl, ?_⟩) (by assumption) ?_; rotate_left; (intro w hSw; (try dsimp only at hSw); go_simp; try with_reducible rfl); simp only [Act.put, List.setIfInBounds_toArray, List.set_cons_zero, List.set_cons_succ])
            (refine wpAnyH_take (i := 11) (oi := { dst := some 52, op := _, type := _, pos := _, after := _, guard := _ }) (v := ?_) rfl (by kernel_rfl) (by kernel_rfl) (by kernel_rfl) (fun _ _ _ h => h) (Or.inl ⟨by rfl, ?_⟩) (by assumption) ?_; rotate_left; (intro w hSw; (try dsimp only at hSw); go_simp; try with_reducible rfl); simp only [Act.put, List.setIfInBounds_toArray, List.set_cons_zero, List.set_cons_succ])
            (refine wpAnyH_take (i := 12) (oi := { dst := some 53, op := _, type := _, pos := _, after := _, guard := _ }) (v := ?_) rfl (by kernel_rfl) (by kernel_rfl) (by kernel_rfl) (fun _ _ _ h => h) (Or.inl ⟨by rfl, ?_⟩) (by assumption) ?_; rotate_left; (intro w hSw; (try dsimp only at hSw); go_simp; try with_reducible rfl); simp only [Act.put, List.setIfInBounds_toArray, List.set_cons_zero, List.set_cons_succ])
            (refine wpAnyH_take (i := 13) (oi := { dst := some 54, op := _, type := _, pos := _, after := _, guard := _ }) (v := ?_) rfl (by kernel_rfl) (by kernel_rfl) (by kernel_rfl) (fun _ _ _ h => h) (Or.inl ⟨by rfl, ?_⟩) (by assumption) ?_; rotate_left; (intro w hSw; (try dsimp only at hSw); go_simp; try with_reducible rfl); simp only [Act.put, List.setIfInBounds_toArray, List.set_cons_zero, List.set_cons_succ])
            (refine wpAnyH_take (i := 14) (oi := { dst := some 55, op := _, type := _, pos := _, after := _, guard := _ }) (v := ?_) rfl (by kernel_rfl) (by kernel_rfl) (by kernel_rfl) (fun _ _ _ h => h) (Or.inl ⟨by rfl, ?_⟩) (by assumption) ?_; rotate_left; (intro w hSw; (try dsimp only at hSw); go_simp; try with_reducible rfl); simp only [Act.put, List.setIfInBounds_toArray, List.set_cons_zero, List.set_cons_succ])
            refine wpAnyH_ready (rs := [15]) (by kernel_rfl) (by simp) ?_
            refine AllReadyH.cons (o := { dst := some 56, op := _, type := _, pos := _, after := _, guard := _ }) rfl (fun K hK => ?_) AllReadyH.nil
            go_simp
            refine (rfalse_any _).mono ?_
            rintro e w3 ⟨cs3, rfl, hR3, hb3⟩
            have hb3' : Below wr.heap.size wr w3 := Below.trans (by repeat' (first | with_reducible exact Below.refl _ _ | with_reducible assumption | with_reducible refine Below.alloc ?_ ?_ _ | with_reducible refine Below.setCell ?_ ?_ _ | with_reducible refine Below.drew ?_ | with_reducible refine below_dn ?_ | omega | (simp; done) | (simp; omega))) (hb3.mono (by simp))
            obtain ⟨hq3, -⟩ := bcell hb3'
            refine hK.out _ _ ?_ (fun hHeld3 => ?_)
            · exact ⟨⟨(hq3 _ _ hbw8).trans hHeld.1.1, (hq3 _ _ hbw8).trans hHeld.1.2.1, (hq3 _ _ hbw8).trans hHeld.1.2.2.1, (hq3 _ _ hbw8).trans hHeld.1.2.2.2⟩, (hq3 _ _ hbw2).trans hHeld.2.1, (hq3 _ _ hbw2).trans hHeld.2.2.1, (hq3 _ _ hbw2).trans hHeld.2.2.2.1, (hq3 _ _ hbw2).trans hHeld.2.2.2.2.1, (hq3 _ _ hbw2).trans hHeld.2.2.2.2.2.1, (hq3 _ _ hbw2).trans hHeld.2.2.2.2.2.2.1, (hq3 _ _ hbw2).trans hHeld.2.2.2.2.2.2.2⟩
            clear hK K hq3 hHeld
            try simp only [Act.put, List.setIfInBounds_toArray, List.set_cons_zero, List.set_cons_succ]
            obtain ⟨A3, c3, S3, d3, rfl, -, -⟩ := hR3.rows
            refine wpAnyH_ready (rs := [16]) (by kernel_rfl) (by simp) ?_
            refine AllReadyH.cons (o := { dst := some 57, op := _, type := _, pos := _, after := _, guard := _ }) rfl (fun K hK => ?_) AllReadyH.nil
            go_simp
            refine (refAlike y eFalse [.int .i64 y.op, .slice Ay y.args.length cy, .slice Sy y.path.length dy, .string y.attr, .int .i64 y.cmp, .string y.text, .int .i64 y.num] _ _ _ _ (hRy.bel hb3') hR3).mono ?_
            rintro e w4 ⟨rfl, hb4⟩
            have hb4' : Below wr.heap.size wr w4 := Below.trans hb3' (hb4.mono hb3'.size)
            obtain ⟨hq4, -⟩ := bcell hb4
            refine hK.out _ _ ?_ (fun hHeld4 => ?_)
            · exact ⟨⟨(hq4 _ _ (Nat.lt_of_lt_of_le hbw8 hb3'.size)).trans hHeld3.1.1, (hq4 _ _ (Nat.lt_of_lt_of_le hbw8 hb3'.size)).trans hHeld3.1.2.1, (hq4 _ _ (Nat.lt_of_lt_of_le hbw8 hb3'.size)).trans hHeld3.1.2.2.1, (hq4 _ _ (Nat.lt_of_lt_of_le hbw8 hb3'.size)).trans hHeld3.1.2.2.2⟩, (hq4 _ _ (Nat.lt_of_lt_of_le hbw2 hb3'.size)).trans hHeld3.2.1, (hq4 _ _ (Nat.lt_of_lt_of_le hbw2 hb3'.size)).trans hHeld3.2.2.1, (hq4 _ _ (Nat.lt_of_lt_of_le hbw2 hb3'.size)).trans hHeld3.2.2.2.1, (hq4 _ _ (Nat.lt_of_lt_of_le hbw2 hb3'.size)).trans hHeld3.2.2.2.2.1, (hq4 _ _ (Nat.lt_of_lt_of_le hbw2 hb3'.size)).trans hHeld3.2.2.2.2.2.1, (hq4 _ _ (Nat.lt_of_lt_of_le hbw2 hb3'.size)).trans hHeld3.2.2.2.2.2.2.1, (hq4 _ _ (Nat.lt_of_lt_of_le hbw2 hb3'.size)).trans hHeld3.2.2.2.2.2.2.2⟩
            clear hK K hq4 hHeld3
            try simp only [Act.put, List.setIfInBounds_toArray, List.set_cons_zero, List.set_cons_succ]
            cases hq : eqE y eFalse
            · cases kk
              ·
                (refine wpAnyH_take (i := 17) (oi := { dst := some 58, op := _, type := _, pos := _, after := _, guard := _ }) (v := ?_) rfl (by kernel_rfl) (by kernel_rfl) (by kernel_rfl) (fun _ _ _ h => h) (Or.inl ⟨by rfl, ?_⟩) (by assumption) ?_; rotate_left; (intro w hSw; (try dsimp only at hSw); go_simp; try with_reducible rfl); simp only [Act.put, List.setIfInBounds_toArray, List.set_cons_zero, List.set_cons_succ])
                (refine wpAnyH_take (i := 18) (oi := { dst := some 59, op := _, type := _, pos := _, after := _, guard := _ }) (v := ?_) rfl (by kernel_rfl) (by kernel_rfl) (by kernel_rfl) (fun _ _ _ h => h) (Or.inl ⟨by rfl, ?_⟩) (by assumption) ?_; rotate_left; (intro w hSw; (try dsimp only at hSw); go_simp; try with_reducible rfl); simp only [Act.put, List.setIfInBounds_toArray, List.set_cons_zero, List.set_cons_succ])
                (refine wpAnyH_take (i := 19) (oi := { dst := some 60, op := _, type := _, pos := _, after := _, guard := _ }) (v := ?_) rfl (by kernel_rfl) (by kernel_rfl) (by kernel_rfl) (fun _ _ _ h => h) (Or.inl ⟨by rfl, ?_⟩) (by assumption) ?_; rotate_left; (intro w hSw; (try dsimp only at hSw); go_simp; try with_reducible rfl); simp only [Act.put, List.setIfInBounds_toArray, List.set_cons_zero, List.set_cons_succ])
                (refine wpAnyH_take (i := 20) (oi := { dst := some 61, op := _, type := _, pos := _, after := _, guard := _ }) (v := ?_) rfl (by kernel_rfl) (by kernel_rfl) (by kernel_rfl) (fun _ _ _ h => h) (Or.inl ⟨by rfl, ?_⟩) (by assumption) ?_; rotate_left; (intro w hSw; (try dsimp only at hSw); go_simp; try with_reducible rfl); simp only [Act.put, List.setIfInBounds_toArray, List.set_cons_zero, List.set_cons_succ])
                (refine wpAnyH_take (i := 21) (oi := { dst := some 62, op := _, type := _, pos := _, after := _, guard := _ }) (v := ?_) rfl (by kernel_rfl) (by kernel_rfl) (by kernel_rfl) (fun _ _ _ h => h) (Or.inl ⟨by rfl, ?_⟩) (by assumption) ?_; rotate_left; (intro w hSw; (try dsimp only at hSw); go_simp; try with_reducible rfl); simp only [Act.put, List.setIfInBounds_toArray, List.set_cons_zero, List.set_cons_succ])
                (refine wpAnyH_take (i := 22) (oi := { dst := some 63, op := _, type := _, pos := _, after := _, guard := _ }) (v := undef) rfl (by kernel_rfl) (by kernel_rfl) (by kernel_rfl) (fun _ _ _ h => h) (Or.inr ⟨by rfl, rfl⟩) (by assumption) ?_; simp only [Act.put, List.setIfInBounds_toArray, List.set_cons_zero, List.set_cons_succ])
                (refine wpAnyH_take (i := 23) (oi := { dst := some 64, op := _, type := _, pos := _, after := _, guard := _ }) (v := undef) rfl (by kernel_rfl) (by kernel_rfl) (by kernel_rfl) (fun _ _ _ h => h) (Or.inr ⟨by rfl, rfl⟩) (by assumption) ?_; simp only [Act.put, List.setIfInBounds_toArray, List.set_cons_zero, List.set_cons_succ])
                (refine wpAnyH_take (i := 24) (oi := { dst := some 65, op := _, type := _, pos := _, after := _, guard := _ }) (v := undef) rfl (by kernel_rfl) (by kernel_rfl) (by kernel_rfl) (fun _ _ _ h => h) (Or.inr ⟨by rfl, rfl⟩) (by assumption) ?_; simp only [Act.put, List.setIfInBounds_toArray, List.set_cons_zero, List.set_cons_succ])
                (refine wpAnyH_take (i := 25) (oi := { dst := some 66, op := _, type := _, pos := _, after := _, guard := _ }) (v := undef) rfl (by kernel_rfl) (by kernel_rfl) (by kernel_rfl) (fun _ _ _ h => h) (Or.inr ⟨by rfl, rfl⟩) (by assumption) ?_; simp only [Act.put, List.setIfInBounds_toArray, List.set_cons_zero, List.set_cons_succ])
                (refine wpAnyH_take (i := 26) (oi := { dst := some 67, op := _, type := _, pos := _, after := _, guard := _ }) (v := undef) rfl (by kernel_rfl) (by kernel_rfl) (by kernel_rfl) (fun _ _ _ h => h) (Or.inr ⟨by rfl, rfl⟩) (by assumption) ?_; simp only [Act.put, List.setIfInBounds_toArray, List.set_cons_zero, List.set_cons_succ])
                (refine wpAnyH_take (i := 27) (oi := { dst := some 68, op := _, type := _, pos := _, after := _, guard := _ }) (v := undef) rfl (by kernel_rfl) (by kernel_rfl) (by kernel_rfl) (fun _ _ _ h => h) (Or.inr ⟨by rfl, rfl⟩) (by assumption) ?_; simp only [Act.put, List.setIfInBounds_toArray, List.set_cons_zero, List.set_cons_succ])
                (refine wpAnyH_take (i := 28) (oi := { dst := some 69, op := _, type := _, pos := _, after := _, guard := _ }) (v := ?_) rfl (by kernel_rfl) (by kernel_rfl) (by kernel_rfl) (fun _ _ _ h => h) (Or.inl ⟨by rfl, ?_⟩) (by assumption) ?_; rotate_left; (intro w hSw; (try dsimp only at hSw); go_simp; try with_reducible rfl); simp only [Act.put, List.setIfInBounds_toArray, List.set_cons_zero, List.set_cons_succ])
                (refine wpAnyH_take (i := 29) (oi := { dst := some 70, op := _, type := _, pos := _, after := _, guard := _ }) (v := ?_) rfl (by kernel_rfl) (by kernel_rfl) (by kernel_rfl) (fun _ _ _ h => h) (Or.inl ⟨by rfl, ?_⟩) (by assumption) ?_; rotate_left; (intro w hSw; (try dsimp only at hSw); go_simp; try with_reducible rfl); simp only [Act.put, List.setIfInBounds_toArray, List.set_cons_zero, List.set_cons_succ])
                refine wpAnyH_done (by kernel_rfl) ?_ _
                go_wp2_with fail
                go_meet
                case rel => exact ⟨by rw [hyy, hq]; simp [*], hb4'⟩
              ·
                (refine wpAnyH_take (i := 17) (oi := { dst := some 58, op := _, type := _, pos := _, after := _, guard := _ }) (v := ?_) rfl (by kernel_rfl) (by kernel_rfl) (by kernel_rfl) (fun _ _ _ h => h) (Or.inl ⟨by rfl, ?_⟩) (by assumption) ?_; rotate_left; (intro w hSw; (try dsimp only at hSw); go_simp; try with_reducible rfl); simp only [Act.put, List.setIfInBounds_toArray, List.set_cons_zero, List.set_cons_succ])
                (refine wpAnyH_take (i := 18) (oi := { dst := some 59, op := _, type := _, pos := _, after := _, guard := _ }) (v := ?_) rfl (by kernel_rfl) (by kernel_rfl) (by kernel_rfl) (fun _ _ _ h => h) (Or.inl ⟨by rfl, ?_⟩) (by assumption) ?_; rotate_left; (intro w hSw; (try dsimp only at hSw); go_simp; try with_reducible rfl); simp only [Act.put, List.setIfInBounds_toArray, List.set_cons_zero, List.set_cons_succ])
                (refine wpAnyH_take (i := 19) (oi := { dst := some 60, op := _, type := _, pos := _, after := _, guard := _ }) (v := ?_) rfl (by kernel_rfl) (by kernel_rfl) (by kernel_rfl) (fun _ _ _ h => h) (Or.inl ⟨by rfl, ?_⟩) (by assumption) ?_; rotate_left; (intro w hSw; (try dsimp only at hSw); go_simp; try with_reducible rfl); simp only [Act.put, List.setIfInBounds_toArray, List.set_cons_zero, List.set_cons_succ])
                (refine wpAnyH_take (i := 20) (oi := { dst := some 61, op := _, type := _, pos := _, after := _, guard := _ }) (v := ?_) rfl (by kernel_rfl) (by kernel_rfl) (by kernel_rfl) (fun _ _ _ h => h) (Or.inl ⟨by rfl, ?_⟩) (by assumption) ?_; rotate_left; (intro w hSw; (try dsimp only at hSw); go_simp; try with_reducible rfl); simp only [Act.put, List.setIfInBounds_toArray, List.set_cons_zero, List.set_cons_succ])
                (refine wpAnyH_take (i := 21) (oi := { dst := some 62, op := _, type := _, pos := _, after := _, guard := _ }) (v := ?_) rfl (by kernel_rfl) (by kernel_rfl) (by kernel_rfl) (fun _ _ _ h => h) (Or.inl ⟨by rfl, ?_⟩) (by assumption) ?_; rotate_left; (intro w hSw; (try dsimp only at hSw); go_simp; try with_reducible rfl); simp only [Act.put, List.setIfInBounds_toArray, List.set_cons_zero, List.set_cons_succ])
                (refine wpAnyH_take (i := 22) (oi := { dst := some 63, op := _, type := _, pos := _, after := _, guard := _ }) (v := ?_) rfl (by kernel_rfl) (by kernel_rfl) (by kernel_rfl) (fun _ _ _ h => h) (Or.inl ⟨by rfl, ?_⟩) (by assumption) ?_; rotate_left; (intro w hSw; (try dsimp only at hSw); go_simp; try with_reducible rfl); simp only [Act.put, List.setIfInBounds_toArray, List.set_cons_zero, List.set_cons_succ])
                (refine wpAnyH_take (i := 23) (oi := { dst := some 64, op := _, type := _, pos := _, after := _, guard := _ }) (v := ?_) rfl (by kernel_rfl) (by kernel_rfl) (by kernel_rfl) (fun _ _ _ h => h) (Or.inl ⟨by rfl, ?_⟩) (by assumption) ?_; rotate_left; (intro w hSw; (try dsimp only at hSw); go_simp; try with_reducible rfl); simp only [Act.put, List.setIfInBounds_toArray, List.set_cons_zero, List.set_cons_succ])
                (refine wpAnyH_take (i := 24) (oi := { dst := some 65, op := _, type := _, pos := _, after := _, guard := _ }) (v := ?_) rfl (by kernel_rfl) (by kernel_rfl) (by kernel_rfl) (fun _ _ _ h => h) (Or.inl ⟨by rfl, ?_⟩) (by assumption) ?_; rotate_left; (intro w hSw; (try dsimp only at hSw); go_simp; try with_reducible rfl); simp only [Act.put, List.setIfInBounds_toArray, List.set_cons_zero, List.set_cons_succ])
                (refine wpAnyH_take (i := 25) (oi := { dst := some 66, op := _, type := _, pos := _, after := _, guard := _ }) (v := ?_) rfl (by kernel_rfl) (by kernel_rfl) (by kernel_rfl) (fun _ _ _ h => h) (Or.inl ⟨by rfl, ?_⟩) (by assumption) ?_; rotate_left; (intro w hSw; (try dsimp only at hSw); go_simp; try with_reducible rfl); simp only [Act.put, List.setIfInBounds_toArray, List.set_cons_zero, List.set_cons_succ])
                (refine wpAnyH_take (i := 26) (oi := { dst := some 67, op := _, type := _, pos := _, after := _, guard := _ }) (v := ?_) rfl (by kernel_rfl) (by kernel_rfl) (by kernel_rfl) (fun _ _ _ h => h) (Or.inl ⟨by rfl, ?_⟩) (by assumption) ?_; rotate_left; (intro w hSw; (try dsimp only at hSw); go_simp; try with_reducible rfl); simp only [Act.put, List.setIfInBounds_toArray, List.set_cons_zero, List.set_cons_succ])
                (refine wpAnyH_take (i := 27) (oi := { dst := some 68, op := _, type := _, pos := _, after := _, guard := _ }) (v := ?_) rfl (by kernel_rfl) (by kernel_rfl) (by kernel_rfl) (fun _ _ _ h => h) (Or.inl ⟨by rfl, ?_⟩) (by assumption) ?_; rotate_left; (intro w hSw; (try dsimp only at hSw); go_simp; try with_reducible rfl); simp only [Act.put, List.setIfInBounds_toArray, List.set_cons_zero, List.set_cons_succ])
                (refine wpAnyH_take (i := 28) (oi := { dst := some 69, op := _, type := _, pos := _, after := _, guard := _ }) (v := ?_) rfl (by kernel_rfl) (by kernel_rfl) (by kernel_rfl) (fun _ _ _ h => h) (Or.inl ⟨by rfl, ?_⟩) (by assumption) ?_; rotate_left; (intro w hSw; (try dsimp only at hSw); go_simp; try with_reducible rfl); simp only [Act.put, List.setIfInBounds_toArray, List.set_cons_zero, List.set_cons_succ])
                (refine wpAnyH_take (i := 29) (oi := { dst := some 70, op := _, type := _, pos := _, after := _, guard := _ }) (v := ?_) rfl (by kernel_rfl) (by kernel_rfl) (by kernel_rfl) (fun _ _ _ h => h) (Or.inl ⟨by rfl, ?_⟩) (by assumption) ?_; rotate_left; (intro w hSw; (try dsimp only at hSw); go_simp; try with_reducible rfl); simp only [Act.put, List.setIfInBounds_toArray, List.set_cons_zero, List.set_cons_succ])
                refine wpAnyH_done (by kernel_rfl) ?_ _
                go_wp2_with fail
                go_meet
                case rel => exact ⟨by rw [hyy, hq]; simp [*], hb4'⟩
            ·
              (refine wpAnyH_take (i := 17) (oi := { dst := some 58, op := _, type := _, pos := _, after := _, guard := _ }) (v := ?_) rfl (by kernel_rfl) (by kernel_rfl) (by kernel_rfl) (fun _ _ _ h => h) (Or.inl ⟨by rfl, ?_⟩) (by assumption) ?_; rotate_left; (intro w hSw; (try dsimp only at hSw); go_simp; try with_reducible rfl); simp only [Act.put, List.setIfInBounds_toArray, List.set_cons_zero, List.set_cons_succ])
              (refine wpAnyH_take (i := 18) (oi := { dst := some 59, op := _, type := _, pos := _, after := _, guard := _ }) (v := ?_) rfl (by kernel_rfl) (by kernel_rfl) (by kernel_rfl) (fun _ _ _ h => h) (Or.inl ⟨by rfl, ?_⟩) (by assumption) ?_; rotate_left; (intro w hSw; (try dsimp only at hSw); go_simp; try with_reducible rfl); simp only [Act.put, List.setIfInBounds_toArray, List.set_cons_zero, List.set_cons_succ])
              (refine wpAnyH_take (i := 19) (oi := { dst := some 60, op := _, type := _, pos := _, after := _, guard := _ }) (v := undef) rfl (by kernel_rfl) (by kernel_rfl) (by kernel_rfl) (fun _ _ _ h => h) (Or.inr ⟨by rfl, rfl⟩) (by assumption) ?_; simp only [Act.put, List.setIfInBounds_toArray, List.set_cons_zero, List.set_cons_succ])
              (refine wpAnyH_take (i := 20) (oi := { dst := some 61, op := _, type := _, pos := _, after := _, guard := _ }) (v := undef) rfl (by kernel_rfl) (by kernel_rfl) (by kernel_rfl) (fun _ _ _ h => h) (Or.inr ⟨by rfl, rfl⟩) (by assumption) ?_; simp only [Act.put, List.setIfInBounds_toArray, List.set_cons_zero, List.set_cons_succ])
              (refine wpAnyH_take (i := 21) (oi := { dst := some 62, op := _, type := _, pos := _, after := _, guard := _ }) (v := undef) rfl (by kernel_rfl) (by kernel_rfl) (by kernel_rfl) (fun _ _ _ h => h) (Or.inr ⟨by rfl, rfl⟩) (by assumption) ?_; simp only [Act.put, List.setIfInBounds_toArray, List.set_cons_zero, List.set_cons_succ])
              (refine wpAnyH_take (i := 22) (oi := { dst := some 63, op := _, type := _, pos := _, after := _, guard := _ }) (v := undef) rfl (by kernel_rfl) (by kernel_rfl) (by kernel_rfl) (fun _ _ _ h => h) (Or.inr ⟨by rfl, rfl⟩) (by assumption) ?_; simp only [Act.put, List.setIfInBounds_toArray, List.set_cons_zero, List.set_cons_succ])
              (refine wpAnyH_take (i := 23) (oi := { dst := some 64, op := _, type := _, pos := _, after := _, guard := _ }) (v := undef) rfl (by kernel_rfl) (by kernel_rfl) (by kernel_rfl) (fun _ _ _ h => h) (Or.inr ⟨by rfl, rfl⟩) (by assumption) ?_; simp only [Act.put, List.setIfInBounds_toArray, List.set_cons_zero, List.set_cons_succ])
              (refine wpAnyH_take (i := 24) (oi := { dst := some 65, op := _, type := _, pos := _, after := _, guard := _ }) (v := undef) rfl (by kernel_rfl) (by kernel_rfl) (by kernel_rfl) (fun _ _ _ h => h) (Or.inr ⟨by rfl, rfl⟩) (by assumption) ?_; simp only [Act.put, List.setIfInBounds_toArray, List.set_cons_zero, List.set_cons_succ])
              (refine wpAnyH_take (i := 25) (oi := { dst := some 66, op := _, type := _, pos := _, after := _, guard := _ }) (v := undef) rfl (by kernel_rfl) (by kernel_rfl) (by kernel_rfl) (fun _ _ _ h => h) (Or.inr ⟨by rfl, rfl⟩) (by assumption) ?_; simp only [Act.put, List.setIfInBounds_toArray, List.set_cons_zero, List.set_cons_succ])
              (refine wpAnyH_take (i := 26) (oi := { dst := some 67, op := _, type := _, pos := _, after := _, guard := _ }) (v := undef) rfl (by kernel_rfl) (by kernel_rfl) (by kernel_rfl) (fun _ _ _ h => h) (Or.inr ⟨by rfl, rfl⟩) (by assumption) ?_; simp only [Act.put, List.setIfInBounds_toArray, List.set_cons_zero, List.set_cons_succ])
              (refine wpAnyH_take (i := 27) (oi := { dst := some 68, op := _, type := _, pos := _, after := _, guard := _ }) (v := undef) rfl (by kernel_rfl) (by kernel_rfl) (by kernel_rfl) (fun _ _ _ h => h) (Or.inr ⟨by rfl, rfl⟩) (by assumption) ?_; simp only [Act.put, List.setIfInBounds_toArray, List.set_cons_zero, List.set_cons_succ])
              (refine wpAnyH_take (i := 28) (oi := { dst := some 69, op := _, type := _, pos := _, after := _, guard := _ }) (v := undef) rfl (by kernel_rfl) (by kernel_rfl) (by kernel_rfl) (fun _ _ _ h => h) (Or.inr ⟨by rfl, rfl⟩) (by assumption) ?_; simp only [Act.put, List.setIfInBounds_toArray, List.set_cons_zero, List.set_cons_succ])
              (refine wpAnyH_take (i := 29) (oi := { dst := some 70, op := _, type := _, pos := _, after := _, guard := _ }) (v := ?_) rfl (by kernel_rfl) (by kernel_rfl) (by kernel_rfl) (fun _ _ _ h => h) (Or.inl ⟨by rfl, ?_⟩) (by assumption) ?_; rotate_left; (intro w hSw; (try dsimp only at hSw); go_simp; try with_reducible rfl); simp only [Act.put, List.setIfInBounds_toArray, List.set_cons_zero, List.set_cons_succ])
              refine wpAnyH_done (by kernel_rfl) ?_ _
              go_wp2_with fail
              go_meet
              case rel => exact ⟨by rw [hyy, hq]; simp [*], hb4'⟩
          · have hlb : decide ((0 : Int) < x.wh.length) = false := by rw [decide_eq_false_iff_not]; omega
            have hlc : decide (0 < x.wh.length) = false := by rw [decide_eq_false_iff_not]; omega
            refine wp_region_held_drew (S := fun w' => w'.cell? ⟨b, off + k * 4, none⟩ = some (.int .i64 x.axis) ∧ w'.cell? ⟨b, off + k * 4 + 1, none⟩ = some (.int .i64 x.test) ∧ w'.cell? ⟨b, off + k * 4 + 2, none⟩ = some (.string x.name) ∧ w'.cell? ⟨b, off + k * 4 + 3, none⟩ = some (.slice Ax x.wh.length cx)) (by kernel_rfl) ⟨x0, x1, x2, x3⟩ (fun hHeld => ?_)
            cases kk
            ·
              (refine wpAnyH_take (i := 0) (oi := { dst := some 41, op := _, type := _, pos := _, after := _, guard := _ }) (v := ?_) rfl (by kernel_rfl) (by kernel_rfl) (by kernel_rfl) (fun _ _ _ h => h) (Or.inl ⟨by rfl, ?_⟩) (by assumption) ?_; rotate_left; (intro w hSw; (try dsimp only at hSw); go_simp; try with_reducible rfl); simp only [Act.put, List.setIfInBounds_toArray, List.set_cons_zero, List.set_cons_succ])
              (refine wpAnyH_take (i := 1) (oi := { dst := some 42, op := _, type := _, pos := _, after := _, guard := _ }) (v := ?_) rfl (by kernel_rfl) (by kernel_rfl) (by kernel_rfl) (fun _ _ _ h => h) (Or.inl ⟨by rfl, ?_⟩) (by assumption) ?_; rotate_left; (intro w hSw; (try dsimp only at hSw); go_simp; try with_reducible rfl); simp only [Act.put, List.setIfInBounds_toArray, List.set_cons_zero, List.set_cons_succ])
              (refine wpAnyH_take (i := 2) (oi := { dst := some 43, op := _, type := _, pos := _, after := _, guard := _ }) (v := ?_) rfl (by kernel_rfl) (by kernel_rfl) (by kernel_rfl) (fun _ _ _ h => h) (Or.inl ⟨by rfl, ?_⟩) (by assumption) ?_; rotate_left; (intro w hSw; (try dsimp only at hSw); go_simp; try with_reducible rfl); simp only [Act.put, List.setIfInBounds_toArray, List.set_cons_zero, List.set_cons_succ])
              (refine wpAnyH_take (i := 3) (oi := { dst := some 44, op := _, type := _, pos := _, after := _, guard := _ }) (v := ?_) rfl (by kernel_rfl) (by kernel_rfl) (by kernel_rfl) (fun _ _ _ h => h) (Or.inl ⟨by rfl, ?_⟩) (by assumption) ?_; rotate_left; (intro w hSw; (try dsimp only at hSw); go_simp; try with_reducible rfl); simp only [Act.put, List.setIfInBounds_toArray, List.set_cons_zero, List.set_cons_succ])
              (refine wpAnyH_take (i := 4) (oi := { dst := some 45, op := _, type := _, pos := _, after := _, guard := _ }) (v := ?_) rfl (by kernel_rfl) (by kernel_rfl) (by kernel_rfl) (fun _ _ _ h => h) (Or.inl ⟨by rfl, ?_⟩) (by assumption) ?_; rotate_left; (intro w hSw; (try dsimp only at hSw); go_simp; try with_reducible rfl); simp only [Act.put, List.setIfInBounds_toArray, List.set_cons_zero, List.set_cons_succ])
              (refine wpAnyH_take (i := 5) (oi := { dst := some 46, op := _, type := _, pos := _, after := _, guard := _ }) (v := ?_) rfl (by kernel_rfl) (by kernel_rfl) (by kernel_rfl) (fun _ _ _ h => h) (Or.inl ⟨by rfl, ?_⟩) (by assumption) ?_; rotate_left; (intro w hSw; (try dsimp only at hSw); go_simp; try with_reducible rfl); simp only [Act.put, List.setIfInBounds_toArray, List.set_cons_zero, List.set_cons_succ])
              (refine wpAnyH_take (i := 6) (oi := { dst := some 47, op := _, type := _, pos := _, after := _, guard := _ }) (v := ?_) rfl (by kernel_rfl) (by kernel_rfl) (by kernel_rfl) (fun _ _ _ h => h) (Or.inl ⟨by rfl, ?_⟩) (by assumption) ?_; rotate_left; (intro w hSw; (try dsimp only at hSw); go_simp; try with_reducible rfl); simp only [Act.put, List.setIfInBounds_toArray, List.set_cons_zero, List.set_cons_succ])
              (refine wpAnyH_take (i := 7) (oi := { dst := some 48, op := _, type := _, pos := _, after := _, guard := _ }) (v := ?_) rfl (by kernel_rfl) (by kernel_rfl) (by kernel_rfl) (fun _ _ _ h => h) (Or.inl ⟨by rfl, ?_⟩) (by assumption) ?_; rotate_left; (intro w hSw; (try dsimp only at hSw); go_simp; try with_reducible rfl); simp only [Act.put, List.setIfInBounds_toArray, List.set_cons_zero, List.set_cons_succ])
              (refine wpAnyH_take (i := 8) (oi := { dst := some 49, op := _, type := _, pos := _, after := _, guard := _ }) (v := undef) rfl (by kernel_rfl) (by kernel_rfl) (by kernel_rfl) (fun _ _ _ h => h) (Or.inr ⟨by rfl, rfl⟩) (by assumption) ?_; simp only [Act.put, List.setIfInBounds_toArray, List.set_cons_zero, List.set_cons_succ])
              (refine wpAnyH_take (i := 9) (oi := { dst := some 50, op := _, type := _, pos := _, after := _, guard := _ }) (v := undef) rfl (by kernel_rfl) (by kernel_rfl) (by kernel_rfl) (fun _ _ _ h => h) (Or.inr ⟨by rfl, rfl⟩) (by assumption) ?_; simp only [Act.put, List.setIfInBounds_toArray, List.set_cons_zero, List.set_cons_succ])
              (refine wpAnyH_take (i := 10) (oi := { dst := some 51, op := _, type := _, pos := _, after := _, guard := _ }) (v := undef) rfl (by kernel_rfl) (by kernel_rfl) (by kernel_rfl) (fun _ _ _ h => h) (Or.inr ⟨by rfl, rfl⟩) (by assumption) ?_; simp only [Act.put, List.setIfInBounds_toArray, List.set_cons_zero, List.set_cons_succ])
              (refine wpAnyH_take (i := 11) (oi := { dst := some 52, op := _, type := _, pos := _, after := _, guard := _ }) (v := undef) rfl (by kernel_rfl) (by kernel_rfl) (by kernel_rfl) (fun _ _ _ h => h) (Or.inr ⟨by rfl, rfl⟩) (by assumption) ?_; simp only [Act.put, List.setIfInBounds_toArray, List.set_cons_zero, List.set_cons_succ])
              (refine wpAnyH_take (i := 12) (oi := { dst := some 53, op := _, type := _, pos := _, after := _, guard := _ }) (v := undef) rfl (by kernel_rfl) (by kernel_rfl) (by kernel_rfl) (fun _ _ _ h => h) (Or.inr ⟨by rfl, rfl⟩) (by assumption) ?_; simp only [Act.put, List.setIfInBounds_toArray, List.set_cons_zero, List.set_cons_succ])
              (refine wpAnyH_take (i := 13) (oi := { dst := some 54, op := _, type := _, pos := _, after := _, guard := _ }) (v := undef) rfl (by kernel_rfl) (by kernel_rfl) (by kernel_rfl) (fun _ _ _ h => h) (Or.inr ⟨by rfl, rfl⟩) (by assumption) ?_; simp only [Act.put, List.setIfInBounds_toArray, List.set_cons_zero, List.set_cons_succ])
              (refine wpAnyH_take (i := 14) (oi := { dst := some 55, op := _, type := _, pos := _, after := _, guard := _ }) (v := undef) rfl (by kernel_rfl) (by kernel_rfl) (by kernel_rfl) (fun _ _ _ h => h) (Or.inr ⟨by rfl, rfl⟩) (by assumption) ?_; simp only [Act.put, List.setIfInBounds_toArray, List.set_cons_zero, List.set_cons_succ])
              (refine wpAnyH_take (i := 15) (oi := { dst := some 56, op := _, type := _, pos := _, after := _, guard := _ }) (v := undef) rfl (by kernel_rfl) (by kernel_rfl) (by kernel_rfl) (fun _ _ _ h => h) (Or.inr ⟨by rfl, rfl⟩) (by assumption) ?_; simp only [Act.put, List.setIfInBounds_toArray, List.set_cons_zero, List.set_cons_succ])
              (refine wpAnyH_take (i := 16) (oi := { dst := some 57, op := _, type := _, pos := _, after := _, guard := _ }) (v := undef) rfl (by kernel_rfl) (by kernel_rfl) (by kernel_rfl) (fun _ _ _ h => h) (Or.inr ⟨by rfl, rfl⟩) (by assumption) ?_; simp only [Act.put, List.setIfInBounds_toArray, List.set_cons_zero, List.set_cons_succ])
              (refine wpAnyH_take (i := 17) (oi := { dst := some 58, op := _, type := _, pos := _, after := _, guard := _ }) (v := ?_) rfl (by kernel_rfl) (by kernel_rfl) (by kernel_rfl) (fun _ _ _ h => h) (Or.inl ⟨by rfl, ?_⟩) (by assumption) ?_; rotate_left; (intro w hSw; (try dsimp only at hSw); go_simp; try with_reducible rfl); simp only [Act.put, List.setIfInBounds_toArray, List.set_cons_zero, List.set_cons_succ])
              (refine wpAnyH_take (i := 18) (oi := { dst := some 59, op := _, type := _, pos := _, after := _, guard := _ }) (v := ?_) rfl (by kernel_rfl) (by kernel_rfl) (by kernel_rfl) (fun _ _ _ h => h) (Or.inl ⟨by rfl, ?_⟩) (by assumption) ?_; rotate_left; (intro w hSw; (try dsimp only at hSw); go_simp; try with_reducible rfl); simp only [Act.put, List.setIfInBounds_toArray, List.set_cons_zero, List.set_cons_succ])
              (refine wpAnyH_take (i := 19) (oi := { dst := some 60, op := _, type := _, pos := _, after := _, guard := _ }) (v := ?_) rfl (by kernel_rfl) (by kernel_rfl) (by kernel_rfl) (fun _ _ _ h => h) (Or.inl ⟨by rfl, ?_⟩) (by assumption) ?_; rotate_left; (intro w hSw; (try dsimp only at hSw); go_simp; try with_reducible rfl); simp only [Act.put, List.setIfInBounds_toArray, List.set_cons_zero, List.set_cons_succ])
              (refine wpAnyH_take (i := 20) (oi := { dst := some 61, op := _, type := _, pos := _, after := _, guard := _ }) (v := ?_) rfl (by kernel_rfl) (by kernel_rfl) (by kernel_rfl) (fun _ _ _ h => h) (Or.inl ⟨by rfl, ?_⟩) (by assumption) ?_; rotate_left; (intro w hSw; (try dsimp only at hSw); go_simp; try with_reducible rfl); simp only [Act.put, List.setIfInBounds_toArray, List.set_cons_zero, List.set_cons_succ])
              (refine wpAnyH_take (i := 21) (oi := { dst := some 62, op := _, type := _, pos := _, after := _, guard := _ }) (v := ?_) rfl (by kernel_rfl) (by kernel_rfl) (by kernel_rfl) (fun _ _ _ h => h) (Or.inl ⟨by rfl, ?_⟩) (by assumption) ?_; rotate_left; (intro w hSw; (try dsimp only at hSw); go_simp; try with_reducible rfl); simp only [Act.put, List.setIfInBounds_toArray, List.set_cons_zero, List.set_cons_succ])
              (refine wpAnyH_take (i := 22) (oi := { dst := some 63, op := _, type := _, pos := _, after := _, guard := _ }) (v := undef) rfl (by kernel_rfl) (by kernel_rfl) (by kernel_rfl) (fun _ _ _ h => h) (Or.inr ⟨by rfl, rfl⟩) (by assumption) ?_; simp only [Act.put, List.setIfInBounds_toArray, List.set_cons_zero, List.set_cons_succ])
              (refine wpAnyH_take (i := 23) (oi := { dst := some 64, op := _, type := _, pos := _, after := _, guard := _ }) (v := undef) rfl (by kernel_rfl) (by kernel_rfl) (by kernel_rfl) (fun _ _ _ h => h) (Or.inr ⟨by rfl, rfl⟩) (by assumption) ?_; simp only [Act.put, List.setIfInBounds_toArray, List.set_cons_zero, List.set_cons_succ])
              (refine wpAnyH_take (i := 24) (oi := { dst := some 65, op := _, type := _, pos := _, after := _, guard := _ }) (v := undef) rfl (by kernel_rfl) (by kernel_rfl) (by kernel_rfl) (fun _ _ _ h => h) (Or.inr ⟨by rfl, rfl⟩) (by assumption) ?_; simp only [Act.put, List.setIfInBounds_toArray, List.set_cons_zero, List.set_cons_succ])
              (refine wpAnyH_take (i := 25) (oi := { dst := some 66, op := _, type := _, pos := _, after := _, guard := _ }) (v := undef) rfl (by kernel_rfl) (by kernel_rfl) (by kernel_rfl) (fun _ _ _ h => h) (Or.inr ⟨by rfl, rfl⟩) (by assumption) ?_; simp only [Act.put, List.setIfInBounds_toArray, List.set_cons_zero, List.set_cons_succ])
              (refine wpAnyH_take (i := 26) (oi := { dst := some 67, op := _, type := _, pos := _, after := _, guard := _ }) (v := undef) rfl (by kernel_rfl) (by kernel_rfl) (by kernel_rfl) (fun _ _ _ h => h) (Or.inr ⟨by rfl, rfl⟩) (by assumption) ?_; simp only [Act.put, List.setIfInBounds_toArray, List.set_cons_zero, List.set_cons_succ])
              (refine wpAnyH_take (i := 27) (oi := { dst := some 68, op := _, type := _, pos := _, after := _, guard := _ }) (v := undef) rfl (by kernel_rfl) (by kernel_rfl) (by kernel_rfl) (fun _ _ _ h => h) (Or.inr ⟨by rfl, rfl⟩) (by assumption) ?_; simp only [Act.put, List.setIfInBounds_toArray, List.set_cons_zero, List.set_cons_succ])
              (refine wpAnyH_take (i := 28) (oi := { dst := some 69, op := _, type := _, pos := _, after := _, guard := _ }) (v := ?_) rfl (by kernel_rfl) (by kernel_rfl) (by kernel_rfl) (fun _ _ _ h => h) (Or.inl ⟨by rfl, ?_⟩) (by assumption) ?_; rotate_left; (intro w hSw; (try dsimp only at hSw); go_simp; try with_reducible rfl); simp only [Act.put, List.setIfInBounds_toArray, List.set_cons_zero, List.set_cons_succ])
              (refine wpAnyH_take (i := 29) (oi := { dst := some 70, op := _, type := _, pos := _, after := _, guard := _ }) (v := ?_) rfl (by kernel_rfl) (by kernel_rfl) (by kernel_rfl) (fun _ _ _ h => h) (Or.inl ⟨by rfl, ?_⟩) (by assumption) ?_; rotate_left; (intro w hSw; (try dsimp only at hSw); go_simp; try with_reducible rfl); simp only [Act.put, List.setIfInBounds_toArray, List.set_cons_zero, List.set_cons_succ])
              refine wpAnyH_done (by kernel_rfl) ?_ _
              go_wp2_with fail
              go_meet
              case rel => exact ⟨by rw [hlc]; simp [*], (by repeat' (first | with_reducible exact Below.refl _ _ | with_reducible assumption | with_reducible refine Below.alloc ?_ ?_ _ | with_reducible refine Below.setCell ?_ ?_ _ | with_reducible refine Below.drew ?_ | with_reducible refine below_dn ?_ | omega | (simp; done) | (simp; omega)))⟩
            ·
              (refine wpAnyH_take (i := 0) (oi := { dst := some 41, op := _, type := _, pos := _, after := _, guard := _ }) (v := ?_) rfl (by kernel_rfl) (by kernel_rfl) (by kernel_rfl) (fun _ _ _ h => h) (Or.inl ⟨by rfl, ?_⟩) (by assumption) ?_; rotate_left; (intro w hSw; (try dsimp only at hSw); go_simp; try with_reducible rfl); simp only [Act.put, List.setIfInBounds_toArray, List.set_cons_zero, List.set_cons_succ])
              (refine wpAnyH_take (i := 1) (oi := { dst := some 42, op := _, type := _, pos := _, after := _, guard := _ }) (v := ?_) rfl (by kernel_rfl) (by kernel_rfl) (by kernel_rfl) (fun _ _ _ h => h) (Or.inl ⟨by rfl, ?_⟩) (by assumption) ?_; rotate_left; (intro w hSw; (try dsimp only at hSw); go_simp; try with_reducible rfl); simp only [Act.put, List.setIfInBounds_toArray, List.set_cons_zero, List.set_cons_succ])
              (refine wpAnyH_take (i := 2) (oi := { dst := some 43, op := _, type := _, pos := _, after := _, guard := _ }) (v := ?_) rfl (by kernel_rfl) (by kernel_rfl) (by kernel_rfl) (fun _ _ _ h => h) (Or.inl ⟨by rfl, ?_⟩) (by assumption) ?_; rotate_left; (intro w hSw; (try dsimp only at hSw); go_simp; try with_reducible rfl); simp only [Act.put, List.setIfInBounds_toArray, List.set_cons_zero, List.set_cons_succ])
              (refine wpAnyH_take (i := 3) (oi := { dst := some 44, op := _, type := _, pos := _, after := _, guard := _ }) (v := ?_) rfl (by kernel_rfl) (by kernel_rfl) (by kernel_rfl) (fun _ _ _ h => h) (Or.inl ⟨by rfl, ?_⟩) (by assumption) ?_; rotate_left; (intro w hSw; (try dsimp only at hSw); go_simp; try with_reducible rfl); simp only [Act.put, List.setIfInBounds_toArray, List.set_cons_zero, List.set_cons_succ])
              (refine wpAnyH_take (i := 4) (oi := { dst := some 45, op := _, type := _, pos := _, after := _, guard := _ }) (v := ?_) rfl (by kernel_rfl) (by kernel_rfl) (by kernel_rfl) (fun _ _ _ h => h) (Or.inl ⟨by rfl, ?_⟩) (by assumption) ?_; rotate_left; (intro w hSw; (try dsimp only at hSw); go_simp; try with_reducible rfl); simp only [Act.put, List.setIfInBounds_toArray, List.set_cons_zero, List.set_cons_succ])
              (refine wpAnyH_take (i := 5) (oi := { dst := some 46, op := _, type := _, pos := _, after := _, guard := _ }) (v := ?_) rfl (by kernel_rfl) (by kernel_rfl) (by kernel_rfl) (fun _ _ _ h => h) (Or.inl ⟨by rfl, ?_⟩) (by assumption) ?_; rotate_left; (intro w hSw; (try dsimp only at hSw); go_simp; try with_reducible rfl); simp only [Act.put, List.setIfInBounds_toArray, List.set_cons_zero, List.set_cons_succ])
              (refine wpAnyH_take (i := 6) (oi := { dst := some 47, op := _, type := _, pos := _, after := _, guard := _ }) (v := ?_) rfl (by kernel_rfl) (by kernel_rfl) (by kernel_rfl) (fun _ _ _ h => h) (Or.inl ⟨by rfl, ?_⟩) (by assumption) ?_; rotate_left; (intro w hSw; (try dsimp only at hSw); go_simp; try with_reducible rfl); simp only [Act.put, List.setIfInBounds_toArray, List.set_cons_zero, List.set_cons_succ])
              (refine wpAnyH_take (i := 7) (oi := { dst := some 48, op := _, type := _, pos := _, after := _, guard := _ }) (v := ?_) rfl (by kernel_rfl) (by kernel_rfl) (by kernel_rfl) (fun _ _ _ h => h) (Or.inl ⟨by rfl, ?_⟩) (by assumption) ?_; rotate_left; (intro w hSw; (try dsimp only at hSw); go_simp; try with_reducible rfl); simp only [Act.put, List.setIfInBounds_toArray, List.set_cons_zero, List.set_cons_succ])
              (refine wpAnyH_take (i := 8) (oi := { dst := some 49, op := _, type := _, pos := _, after := _, guard := _ }) (v := undef) rfl (by kernel_rfl) (by kernel_rfl) (by kernel_rfl) (fun _ _ _ h => h) (Or.inr ⟨by rfl, rfl⟩) (by assumption) ?_; simp only [Act.put, List.setIfInBounds_toArray, List.set_cons_zero, List.set_cons_succ])
              (refine wpAnyH_take (i := 9) (oi := { dst := some 50, op := _, type := _, pos := _, after := _, guard := _ }) (v := undef) rfl (by kernel_rfl) (by kernel_rfl) (by kernel_rfl) (fun _ _ _ h => h) (Or.inr ⟨by rfl, rfl⟩) (by assumption) ?_; simp only [Act.put, List.setIfInBounds_toArray, List.set_cons_zero, List.set_cons_succ])
              (refine wpAnyH_take (i := 10) (oi := { dst := some 51, op := _, type := _, pos := _, after := _, guard := _ }) (v := undef) rfl (by kernel_rfl) (by kernel_rfl) (by kernel_rfl) (fun _ _ _ h => h) (Or.inr ⟨by rfl, rfl⟩) (by assumption) ?_; simp only [Act.put, List.setIfInBounds_toArray, List.set_cons_zero, List.set_cons_succ])
              (refine wpAnyH_take (i := 11) (oi := { dst := some 52, op := _, type := _, pos := _, after := _, guard := _ }) (v := undef) rfl (by kernel_rfl) (by kernel_rfl) (by kernel_rfl) (fun _ _ _ h => h) (Or.inr ⟨by rfl, rfl⟩) (by assumption) ?_; simp only [Act.put, List.setIfInBounds_toArray, List.set_cons_zero, List.set_cons_succ])
              (refine wpAnyH_take (i := 12) (oi := { dst := some 53, op := _, type := _, pos := _, after := _, guard := _ }) (v := undef) rfl (by kernel_rfl) (by kernel_rfl) (by kernel_rfl) (fun _ _ _ h => h) (Or.inr ⟨by rfl, rfl⟩) (by assumption) ?_; simp only [Act.put, List.setIfInBounds_toArray, List.set_cons_zero, List.set_cons_succ])
              (refine wpAnyH_take (i := 13) (oi := { dst := some 54, op := _, type := _, pos := _, after := _, guard := _ }) (v := undef) rfl (by kernel_rfl) (by kernel_rfl) (by kernel_rfl) (fun _ _ _ h => h) (Or.inr ⟨by rfl, rfl⟩) (by assumption) ?_; simp only [Act.put, List.setIfInBounds_toArray, List.set_cons_zero, List.set_cons_succ])
              (refine wpAnyH_take (i := 14) (oi := { dst := some 55, op := _, type := _, pos := _, after := _, guard := _ }) (v := undef) rfl (by kernel_rfl) (by kernel_rfl) (by kernel_rfl) (fun _ _ _ h => h) (Or.inr ⟨by rfl, rfl⟩) (by assumption) ?_; simp only [Act.put, List.setIfInBounds_toArray, List.set_cons_zero, List.set_cons_succ])
              (refine wpAnyH_take (i := 15) (oi := { dst := some 56, op := _, type := _, pos := _, after := _, guard := _ }) (v := undef) rfl (by kernel_rfl) (by kernel_rfl) (by kernel_rfl) (fun _ _ _ h => h) (Or.inr ⟨by rfl, rfl⟩) (by assumption) ?_; simp only [Act.put, List.setIfInBounds_toArray, List.set_cons_zero, List.set_cons_succ])
              (refine wpAnyH_take (i := 16) (oi := { dst := some 57, op := _, type := _, pos := _, after := _, guard := _ }) (v := undef) rfl (by kernel_rfl) (by kernel_rfl) (by kernel_rfl) (fun _ _ _ h => h) (Or.inr ⟨by rfl, rfl⟩) (by assumption) ?_; simp only [Act.put, List.setIfInBounds_toArray, List.set_cons_zero, List.set_cons_succ])
              (refine wpAnyH_take (i := 17) (oi := { dst := some 58, op := _, type := _, pos := _, after := _, guard := _ }) (v := ?_) rfl (by kernel_rfl) (by kernel_rfl) (by kernel_rfl) (fun _ _ _ h => h) (Or.inl ⟨by rfl, ?_⟩) (by assumption) ?_; rotate_left; (intro w hSw; (try dsimp only at hSw); go_simp; try with_reducible rfl); simp only [Act.put, List.setIfInBounds_toArray, List.set_cons_zero, List.set_cons_succ])
              (refine wpAnyH_take (i := 18) (oi := { dst := some 59, op := _, type := _, pos := _, after := _, guard := _ }) (v := ?_) rfl (by kernel_rfl) (by kernel_rfl) (by kernel_rfl) (fun _ _ _ h => h) (Or.inl ⟨by rfl, ?_⟩) (by assumption) ?_; rotate_left; (intro w hSw; (try dsimp only at hSw); go_simp; try with_reducible rfl); simp only [Act.put, List.setIfInBounds_toArray, List.set_cons_zero, List.set_cons_succ])
              (refine wpAnyH_take (i := 19) (oi := { dst := some 60, op := _, type := _, pos := _, after := _, guard := _ }) (v := ?_) rfl (by kernel_rfl) (by kernel_rfl) (by kernel_rfl) (fun _ _ _ h => h) (Or.inl ⟨by rfl, ?_⟩) (by assumption) ?_; rotate_left; (intro w hSw; (try dsimp only at hSw); go_simp; try with_reducible rfl); simp only [Act.put, List.setIfInBounds_toArray, List.set_cons_zero, List.set_cons_succ])
              (refine wpAnyH_take (i := 20) (oi := { dst := some 61, op := _, type := _, pos := _, after := _, guard := _ }) (v := ?_) rfl (by kernel_rfl) (by kernel_rfl) (by kernel_rfl) (fun _ _ _ h => h) (Or.inl ⟨by rfl, ?_⟩) (by assumption) ?_; rotate_left; (intro w hSw; (try dsimp only at hSw); go_simp; try with_reducible rfl); simp only [Act.put, List.setIfInBounds_toArray, List.set_cons_zero, List.set_cons_succ])
              (refine wpAnyH_take (i := 21) (oi := { dst := some 62, op := _, type := _, pos := _, after := _, guard := _ }) (v := ?_) rfl (by kernel_rfl) (by kernel_rfl) (by kernel_rfl) (fun _ _ _ h => h) (Or.inl ⟨by rfl, ?_⟩) (by assumption) ?_; rotate_left; (intro w hSw; (try dsimp only at hSw); go_simp; try with_reducible rfl); simp only [Act.put, List.setIfInBounds_toArray, List.set_cons_zero, List.set_cons_succ])
              (refine wpAnyH_take (i := 22) (oi := { dst := some 63, op := _, type := _, pos := _, after := _, guard := _ }) (v := ?_) rfl (by kernel_rfl) (by kernel_rfl) (by kernel_rfl) (fun _ _ _ h => h) (Or.inl ⟨by rfl, ?_⟩) (by assumption) ?_; rotate_left; (intro w hSw; (try dsimp only at hSw); go_simp; try with_reducible rfl); simp only [Act.put, List.setIfInBounds_toArray, List.set_cons_zero, List.set_cons_succ])
              (refine wpAnyH_take (i := 23) (oi := { dst := some 64, op := _, type := _, pos := _, after := _, guard := _ }) (v := ?_) rfl (by kernel_rfl) (by kernel_rfl) (by kernel_rfl) (fun _ _ _ h => h) (Or.inl ⟨by rfl, ?_⟩) (by assumption) ?_; rotate_left; (intro w hSw; (try dsimp only at hSw); go_simp; try with_reducible rfl); simp only [Act.put, List.setIfInBounds_toArray, List.set_cons_zero, List.set_cons_succ])
              (refine wpAnyH_take (i := 24) (oi := { dst := some 65, op := _, type := _, pos := _, after := _, guard := _ }) (v := ?_) rfl (by kernel_rfl) (by kernel_rfl) (by kernel_rfl) (fun _ _ _ h => h) (Or.inl ⟨by rfl, ?_⟩) (by assumption) ?_; rotate_left; (intro w hSw; (try dsimp only at hSw); go_simp; try with_reducible rfl); simp only [Act.put, List.setIfInBounds_toArray, List.set_cons_zero, List.set_cons_succ])
              (refine wpAnyH_take (i := 25) (oi := { dst := some 66, op := _, type := _, pos := _, after := _, guard := _ }) (v := ?_) rfl (by kernel_rfl) (by kernel_rfl) (by kernel_rfl) (fun _ _ _ h => h) (Or.inl ⟨by rfl, ?_⟩) (by assumption) ?_; rotate_left; (intro w hSw; (try dsimp only at hSw); go_simp; try with_reducible rfl); simp only [Act.put, List.setIfInBounds_toArray, List.set_cons_zero, List.set_cons_succ])
              (refine wpAnyH_take (i := 26) (oi := { dst := some 67, op := _, type := _, pos := _, after := _, guard := _ }) (v := ?_) rfl (by kernel_rfl) (by kernel_rfl) (by kernel_rfl) (fun _ _ _ h => h) (Or.inl ⟨by rfl, ?_⟩) (by assumption) ?_; rotate_left; (intro w hSw; (try dsimp only at hSw); go_simp; try with_reducible rfl); simp only [Act.put, List.setIfInBounds_toArray, List.set_cons_zero, List.set_cons_succ])
              (refine wpAnyH_take (i := 27) (oi := { dst := some 68, op := _, type := _, pos := _, after := _, guard := _ }) (v := ?_) rfl (by kernel_rfl) (by kernel_rfl) (by kernel_rfl) (fun _ _ _ h => h) (Or.inl ⟨by rfl, ?_⟩) (by assumption) ?_; rotate_left; (intro w hSw; (try dsimp only at hSw); go_simp; try with_reducible rfl); simp only [Act.put, List.setIfInBounds_toArray, List.set_cons_zero, List.set_cons_succ])
              (refine wpAnyH_take (i := 28) (oi := { dst := some 69, op := _, type := _, pos := _, after := _, guard := _ }) (v := ?_) rfl (by kernel_rfl) (by kernel_rfl) (by kernel_rfl) (fun _ _ _ h => h) (Or.inl ⟨by rfl, ?_⟩) (by assumption) ?_; rotate_left; (intro w hSw; (try dsimp only at hSw); go_simp; try with_reducible rfl); simp only [Act.put, List.setIfInBounds_toArray, List.set_cons_zero, List.set_cons_succ])
              (refine wpAnyH_take (i := 29) (oi := { dst := some 70, op := _, type := _, pos := _, after := _, guard := _ }) (v := ?_) rfl (by kernel_rfl) (by kernel_rfl) (by kernel_rfl) (fun _ _ _ h => h) (Or.inl ⟨by rfl, ?_⟩) (by assumption) ?_; rotate_left; (intro w hSw; (try dsimp only at hSw); go_simp; try with_reducible rfl); simp only [Act.put, List.setIfInBounds_toArray, List.set_cons_zero, List.set_cons_succ])
              refine wpAnyH_done (by kernel_rfl) ?_ _
              go_wp2_with fail
              go_meet
              case rel => exact ⟨by rw [hlc]; simp [*], (by repeat' (first | with_reducible exact Below.refl _ _ | with_reducible assumption | with_reducible refine Below.alloc ?_ ?_ _ | with_reducible refine Below.setCell ?_ ?_ _ | with_reducible refine Below.drew ?_ | with_reducible refine below_dn ?_ | omega | (simp; done) | (simp; omega)))⟩
        case rest =>
        obtain ⟨rfl, hbc⟩ := hcut
        have hbRc := hbr.trans (hbc.mono hbr.size)
        have hpi : (pvAt r k).isSome = decide (0 < k) := by
          unfold pvAt; rcases k with _ | k
          · rfl
          · simp; omega
        have hqc := (bcell hbc).1
        have xc := fun o => hqc b o hbw8
        rw [← xc] at x0 x1 x2 x3
        clear xc hqc
        cases hc1 : ((decide (0 < x.wh.length) && eqE (x.wh.headD default) eFalse) || (decide (0 < k) && decide (x.axis = 3)))
        · obtain ⟨c2, hc2⟩ : ∃ c2, c2 = ((match pvAt r k with | some q => decide (q.test = 2) | none => false) && (decide (x.axis = 0) || decide (x.axis = 1))) := ⟨_, rfl⟩
          have hbs : badR (pvAt r k) x = c2 := by unfold badR; rw [hpi, hc1, Bool.false_or, hc2]
          have HBS := Lib.hid hbs
          clear hc1 hbs
          go_upto_region 10 with fail
          go_cut [97] (fun v wx => v = .bool c2 ∧ wx = wc)
          case first =>
            rcases k with _ | j
            · have hc3 : c2 = false := by rw [hc2]; rfl
              clear hc2 hpi
              go_wp2_with fail
              go_meet
              case rel => exact ⟨by rw [hc3], rfl⟩
            · obtain ⟨q, b9, off9, Aq, cq, HQ, e9, -, -, -, q1, -, -⟩ := (hr2.below hbRc).atS j (by omega)
              obtain ⟨rfl, rfl⟩ : b = b9 ∧ off = off9 := by simpa using e9
              clear e9
              have hpv : pvAt r (j + 1) = some q := by unfold pvAt; rw [if_neg (by omega), ← HQ.out]; simp
              rw [hpv] at hc2
              simp only at hc2
              clear hpi hpv
              go_wp2_with fail
              all_goals
                go_meet
                case rel => exact ⟨by rw [hc2]; first | (simp [*]; done) | (congr 1; rw [Bool.eq_iff_iff]; simp [*]), rfl⟩
          case rest =>
          obtain ⟨rfl, rfl⟩ := hcut
          clear hc2 hpi
          cases c2
          · have HE2 : Hid (ans = emptyRGo (pvAt r (k + 1)) (r.drop (k + 1))) := by unfold Hid; rw [HE.out, HS.out, HBS.out]; rfl
            go_wp2_with fail
            go_roundw
            case rel => exact ⟨k + 1, by omega, by go_num, HE2, hbRc⟩
            case measure => simp [intOf]; omega
          · have HA : Hid (ans = true) := by unfold Hid; rw [HE.out, HS.out, HBS.out]; rfl
            go_wp2_with fail
            go_ret
            exact ⟨by rw [HA.out]; rfl, hB.trans (hbRc.mono hB.size)⟩
        · have HA : Hid (ans = true) := by unfold Hid; rw [HE.out, HS.out]; unfold badR; rw [hpi, hc1]; rfl
          clear hc1
          go_wp2_with fail
          go_ret
          exact ⟨by rw [HA.out]; rfl, hB.trans (hbRc.mono hB.size)⟩
      · have hkk : r.drop k = [] := List.drop_of_length_le (by omega)
        have HA : Hid (ans = false) := by unfold Hid; rw [HE.out, hkk]; rfl
        clear hkk
        go_wp2_with fail
        go_ret
        exact ⟨by rw [HA.out]; rfl, hbR⟩
  · have HA : Hid (ans = true) := by unfold Hid; rw [hem2.out, hfb]; rfl
    clear hem2 hfb
    go_wp2_with fail
    go_ret
    exact ⟨by rw [HA.out]; rfl, hbX⟩

/-! normal forms: the false one stands alone -/
def alone (s : Step) : Prop := s.wh.head? = some eFalse → s.wh = [eFalse]
theorem left_alone (l : List Expr) (h : (leftF eTrue eFalse l).head? = some eFalse) : leftF eTrue eFalse l = [eFalse] := by
  unfold leftF at h ⊢
  split
  · rfl
  · rename_i hn
    rw [if_neg hn] at h
    exfalso; apply hn
    have hm : eFalse ∈ l.filter (fun y => !eqE y eTrue) := List.mem_of_mem_head? (by rw [h]; rfl)
    exact List.any_eq_true.2 ⟨eFalse, (List.mem_filter.1 hm).1, eqE_refl _⟩
theorem ands_alone (f : Expr → Expr) (l : List Expr) (h : (andsF f l).head? = some eFalse) : andsF f l = [eFalse] := left_alone _ h
theorem put_alone (f : Expr → Expr) (acc : List Step) (s : Step) (hs : alone s) (h : ∀ x ∈ acc, alone x) : ∀ x ∈ putF f acc s, alone x := by
  have hd : ∀ x ∈ acc.dropLast, alone x := fun x hx => h x (List.dropLast_subset _ hx)
  unfold putF
  split
  · exact h
  · split
    · intro x hx; simp at hx; rcases hx with hx | rfl
      · exact h x hx
      · exact hs
    · split
      · split
        · intro x hx; simp at hx; rcases hx with hx | rfl
          · exact hd x hx
          · exact fun hh => ands_alone f _ hh
        · intro x hx; simp at hx; rcases hx with hx | rfl
          · exact h x hx
          · exact hs
      · split
        · intro x hx; simp at hx; rcases hx with hx | rfl
          · exact hd x hx
          · split
            · exact hs
            · exact hs
        · intro x hx; simp at hx; rcases hx with hx | rfl
          · exact h x hx
          · exact hs
theorem steps_alone (f : Expr → Expr) (p acc : List Step) (h : ∀ x ∈ acc, alone x) : ∀ x ∈ p.foldl (fun acc s => putF f acc (whF f s)) acc, alone x := by
  induction p generalizing acc with
  | nil => exact h
  | cons s r ih => exact ih _ (put_alone f acc _ (fun hh => ands_alone f _ hh) h)
theorem path_alone (f : Expr → Expr) (p : List Step) : ∀ x ∈ pathF f p, alone x := by
  unfold pathF
  split
  · intro x hx; simp at hx; subst hx; intro hh; simp [sPoint, Step.wh] at hh
  · exact steps_alone f p [] (by simp)
theorem bad_alone (pv : Option Step) (x : Step) (h : alone x) : badR pv x = badS pv x := by
  have e : (decide (0 < x.wh.length) && eqE (x.wh.headD default) eFalse) = (decide (x.wh.length = 1) && eqE (x.wh.headD default) eFalse) := by
    cases hw : x.wh with
    | nil => simp
    | cons y r =>
      cases hq : eqE y eFalse
      · simp [hq]
      · have hy := (eqE_iff _ _).1 hq
        have := h (by rw [hw, hy]; rfl)
        rw [hw] at this
        simp at this
        simp [this.2]
  unfold badR badS; rw [e]
  cases pv <;> rfl
theorem emptyR_go (l : List Step) (pv : Option Step) (h : ∀ x ∈ l, alone x) : emptyRGo pv l = emptyGo pv l := by
  induction l generalizing pv with
  | nil => rfl
  | cons x r ih => rw [emptyRGo, emptyGo, bad_alone pv x (h x List.mem_cons_self), ih _ (fun y hy => h y (List.mem_cons_of_mem _ hy))]
theorem emptyR_eq (N : Nat) (p : List Step) : emptyR (normP N p) = emptyB (normP N p) := by
  unfold emptyR emptyB
  rw [emptyR_go (normP N p) none (path_alone (normE N) p)]
end Go.Proofs.YtbbmmeaicilabaaGreatDoor
