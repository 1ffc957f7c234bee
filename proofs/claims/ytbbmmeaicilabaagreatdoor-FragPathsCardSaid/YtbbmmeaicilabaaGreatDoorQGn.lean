/- ask.Check: how deep a path's text is nested; OK or ErrShape. Conditions: the paths lie in memory as trees; the tables lie as the text lays them. -/
import Derived.Test.YtbbmmeaicilabaaGreatDoorQGm
set_option linter.unusedVariables false
set_option linter.unusedSimpArgs false
namespace Go.Proofs.YtbbmmeaicilabaaGreatDoor
open Go.RowKit

/-- does a part stand in brackets -/
def brB (a b : Int) : Bool := if b = 1 then !decide (a = 2) || (decide (a = 0) && decide (b = 0)) else decide (a = 0) && decide (b = 0)
theorem brk_any (a b : Int) (w : World) :
    Calls Tryz.prog 98 #[.int .i64 a, .int .i64 b] w fun e w' => e = .returned (.bool (brB a b)) ∧ w' = w := bracketed_any a b w
mutual
def dE : Expr → Nat
  | .mk op xs ps _ cm _ _ => if op = 3 then dP ps + (if 3 ≤ cm then 1 else 0) else if op = 2 then 1 + dEh xs else dEs op xs
def dEh : List Expr → Nat
  | [] => 0
  | x :: _ => dE x
def dEs (op : Int) : List Expr → Nat
  | [] => 0
  | x :: r => max (dE x + (if brB op x.op then 1 else 0)) (dEs op r)
def dW : List Expr → Nat
  | [] => 0
  | x :: r => max (1 + dE x) (dW r)
def dS : Step → Nat
  | .mk _ _ _ w => dW w
def dP : List Step → Nat
  | [] => 0
  | x :: r => max (dS x) (dP r)
end
mutual
theorem dE_le : ∀ x : Expr, dE x ≤ wtE x
  | .mk op xs ps a cm t n => by
    have h1 := dP_le ps; have h2 := dEs_le op xs; have h3 := dEh_le xs
    simp only [dE, wtE]
    split
    · split <;> omega
    · split <;> omega
theorem dEh_le : ∀ x : List Expr, dEh x ≤ wtEs x
  | [] => by simp [dEh]
  | x :: r => by have := dE_le x; simp only [dEh, wtEs]; omega
theorem dEs_le (op : Int) : ∀ x : List Expr, dEs op x ≤ wtEs x + 1
  | [] => by simp [dEs]
  | x :: r => by have h1 := dE_le x; have h2 := dEs_le op r; simp only [dEs, wtEs]; split <;> omega
theorem dW_le : ∀ x : List Expr, dW x ≤ wtEs x + 1
  | [] => by simp [dW]
  | x :: r => by have h1 := dE_le x; have h2 := dW_le r; simp only [dW, wtEs]; omega
theorem dS_le : ∀ x : Step, dS x ≤ wtS x
  | .mk a t n w => by have := dW_le w; simp only [dS, wtS]; omega
theorem dP_le : ∀ x : List Step, dP x ≤ wtP x
  | [] => by simp [dP]
  | x :: r => by have h1 := dS_le x; have h2 := dP_le r; simp only [dP, wtP]; omega
end
theorem dP_take (l : List Step) (k : Nat) (h : k < l.length) : dP (l.take (k + 1)) = max (dP (l.take k)) (dS l[k]) := by
  induction l generalizing k with
  | nil => simp at h
  | cons x r ih =>
    cases k with
    | zero => simp [dP]
    | succ k => have := ih k (by simpa using h); simp only [List.take_succ_cons, List.getElem_cons_succ, dP, this]; omega
theorem dW_take (l : List Expr) (k : Nat) (h : k < l.length) : dW (l.take (k + 1)) = max (dW (l.take k)) (1 + dE l[k]) := by
  induction l generalizing k with
  | nil => simp at h
  | cons x r ih =>
    cases k with
    | zero => simp [dW]
    | succ k => have := ih k (by simpa using h); simp only [List.take_succ_cons, List.getElem_cons_succ, dW, this]; omega
theorem dEs_take (op : Int) (l : List Expr) (k : Nat) (h : k < l.length) : dEs op (l.take (k + 1)) = max (dEs op (l.take k)) (dE l[k] + (if brB op l[k].op then 1 else 0)) := by
  induction l generalizing k with
  | nil => simp at h
  | cons x r ih =>
    cases k with
    | zero => simp [dEs]
    | succ k => have := ih k (by simpa using h); simp only [List.take_succ_cons, List.getElem_cons_succ, dEs, this]; omega

theorem gE_parts {x : Expr} (h : gE x = true) : (∀ y ∈ x.args, gE y = true) ∧ gP x.path = true ∧ (x.op = 2 → x.args.length = 1) := by
  obtain ⟨op, xs, ps, a, c, t, m⟩ := x
  simp only [gE] at h
  split at h
  · simp at h
    obtain ⟨⟨rfl, -, hp⟩, -⟩ := h
    refine ⟨by simp [Expr.args], hp, fun e => ?_⟩
    simp only [Expr.op] at e
    omega
  · simp at h
    obtain ⟨⟨⟨⟨⟨hp, -⟩, -⟩, -⟩, -⟩, ho, hx⟩ := h
    refine ⟨(gEs_iff xs).1 hx, by subst hp; simp [Expr.path, gP], fun e => ?_⟩
    simp only [Expr.op] at e
    subst e
    simp only [Expr.args]
    simpa using ho

def DeepE (N : Nat) : Prop := ∀ (x : Expr) cx (w : World) ok, RE w ok x cx → wtE x ≤ N → gE x = true → Calls Tryz.prog 75 #[.agg cx.toArray] w fun e w' => e = .returned (.int .i64 (dE x)) ∧ Below w.heap.size w w'

set_option maxHeartbeats 1000000 in
theorem deepPath_any {N : Nat} (H : DeepE N) (hM : N < 4294967281) (p : List Step) (A : Option Addr) (ca : Nat) (w : World) (ok : Nat → Prop) (hx : RowK kS w ok A p) (hN : wtP p ≤ N) (hg : gP p = true) :
    Calls Tryz.prog 42 #[.agg #[.slice A p.length ca]] w fun e w' => e = .returned (.int .i64 (dP p)) ∧ Below w.heap.size w w' := by
  have hlx := hx.len
  have HG := Lib.hid ((gP_iff p).1 hg)
  clear hg
  go_enter Tryz.func42, Tryz.ntmps42
  go_wp2_with fail
  go_loopw [3, 11] (fun n i wr => ∃ k : Nat, k ≤ p.length ∧ i = .int .i64 k ∧ n = .int .i64 (dP (p.take k)) ∧ Below w.heap.size w wr) (fun _ i _ => p.length - (intOf i).toNat)
  case atStart => exact ⟨0, Nat.zero_le _, rfl, rfl, bl1 (Nat.le_refl _)⟩
  case round =>
    obtain ⟨k, hk, rfl, rfl, hbr⟩ := hrel
    obtain ⟨wo, rfl⟩ : ∃ wo : World, wo = wr := ⟨_, rfl⟩
    by_cases hlt : k < p.length
    · obtain ⟨x, b, off, Aw, cw, HX, rfl, hbw, hR, x0, x1, x2, x3⟩ := (hx.below hbr).atS k hlt
      have hbb : b ≠ wo.heap.size := by omega
      have htk : Hid (dP (p.take (k + 1)) = max (dP (p.take k)) (dW x.wh)) := by
        unfold Hid; rw [dP_take p k hlt, HX.out]; obtain ⟨a, t, n, wh⟩ := x; rw [dS]; rfl
      have hgx : Hid (∀ y ∈ x.wh, gE y = true) := by
        have := HG.out _ (List.getElem_mem hlt)
        rw [HX.out] at this
        obtain ⟨a, t, n, wh⟩ := x
        simp [gS] at this
        exact (gEs_iff wh).1 this.2.2
      have hwx : wtEs x.wh ≤ N := by
        have := wtP_get p k hlt
        rw [HX.out] at this
        obtain ⟨a, t, n, wh⟩ := x
        simp only [wtS, Step.wh] at *
        omega
      have hdk := dP_le (p.take k)
      have hwk := wtP_take_le p k
      obtain ⟨Aw2, cw2, e2, hrow⟩ := (RS.al (o := Obj.cells #[.int .i64 x.axis, .int .i64 x.test, .string x.name, .slice Aw x.wh.length cw] 55) hR).rows
      simp at e2
      obtain ⟨rfl, rfl⟩ := e2
      have hlw := hrow.len
      clear hR
      generalize x.wh = wh at *
      generalize dP (p.take k) = d0 at *
      go_wp2_with fail
      go_loopw [3, 18] (fun n i wi => ∃ m : Nat, m ≤ wh.length ∧ i = .int .i64 m ∧ n = .int .i64 (max d0 (dW (wh.take m)) : Nat) ∧ Below (wo.alloc (Obj.cells #[.int .i64 x.axis, .int .i64 x.test, .string x.name, .slice Aw wh.length cw] 55)).heap.size (wo.alloc (Obj.cells #[.int .i64 x.axis, .int .i64 x.test, .string x.name, .slice Aw wh.length cw] 55)) wi) (fun _ i _ => wh.length - (intOf i).toNat)
      case atStart => exact ⟨0, Nat.zero_le _, rfl, by simp [dW], Below.refl _ _⟩
      case round =>
        obtain ⟨m, hm, rfl, rfl, hbi⟩ := hrel
        have hbw2 : Below w.heap.size w wr := hbr.trans ((al1 (Nat.le_refl _) hbi).mono hbr.size)
        by_cases hlt2 : m < wh.length
        · obtain ⟨y, b2, off2, Ay, cy, Sy, dy, HY, rfl, hbw3, hRy, y0, y1, y2, y3, y4, y5, y6⟩ := (hrow.below hbi).atE m hlt2
          have hbb2 : b2 ≠ wr.heap.size := by omega
          have htk2 : Hid (dW (wh.take (m + 1)) = max (dW (wh.take m)) (1 + dE y)) := by unfold Hid; rw [dW_take wh m hlt2, HY.out]
          have hgy : gE y = true := hgx.out y (by rw [← HY.out]; exact List.getElem_mem hlt2)
          have hwy : wtE y ≤ N := by have := wtEs_get wh m hlt2; rw [HY.out] at this; omega
          have hdy := dE_le y
          have hdw := dW_le (wh.take m)
          have hdw2 := wtEs_take_le wh m
          generalize dW (wh.take m) = d1 at *
          go_wp2_with fail
          refine (H y _ _ ok hRy.al hwy hgy).mono ?_
          rintro e w2 ⟨rfl, hb2⟩
          generalize dE y = d2 at *
          go_wp2_with fail
          go_roundw
          case rel => exact ⟨m + 1, by omega, by go_num, by rw [htk2.out]; go_num, hbi.trans ((al1 (Nat.le_refl _) hb2).mono hbi.size)⟩
          case measure => simp [intOf]; omega
        · have hmm : m = wh.length := by omega
          subst hmm
          go_wp2_with fail
          go_roundw
          case rel => exact ⟨k + 1, by omega, by go_num, by rw [htk.out]; simp, hbw2⟩
          case measure => simp [intOf]; omega
    · have hkk : k = p.length := by omega
      subst hkk
      go_wp2_with fail
      go_ret
      exact ⟨by simp, hbr⟩

set_option maxHeartbeats 2000000 in
theorem deepExpr_any {N : Nat} (H : DeepE N) (hM : N < 4294967281) : DeepE (N + 1) := by
  intro x cx w ok hx hN hg
  obtain ⟨Aa, ca, As, cs, rfl, hx1, hx2⟩ := hx.rows
  obtain ⟨hga, hgp, hgn⟩ := gE_parts hg
  clear hg hx
  obtain ⟨op, xs, ps, at', cm, tx, nu⟩ := x
  simp only [Expr.op, Expr.args, Expr.path, Expr.attr, Expr.cmp, Expr.text, Expr.num, wtE] at *
  have HG := Lib.hid hga
  clear hga
  by_cases h3 : op = 3
  · subst h3
    have hd : Hid (dE (.mk 3 xs ps at' cm tx nu) = dP ps + (if 3 ≤ cm then 1 else 0)) := by unfold Hid; rw [dE]; simp
    generalize dE (.mk 3 xs ps at' cm tx nu) = r at hd ⊢
    have hdp := dP_le ps
    go_enter Tryz.func75, Tryz.ntmps75
    go_wp2_with fail
    refine (deepPath_any H (by omega) ps As cs _ ok (hx2.below (bl1 (Nat.le_refl _))) (by omega) hgp).mono ?_
    rintro e w2 ⟨rfl, hb2⟩
    obtain ⟨hq, hf⟩ := bcell hb2
    generalize dP ps = d at *
    by_cases hc : 3 ≤ cm
    · go_wp2_with fail
      go_ret
      exact ⟨by rw [hd.out, if_pos hc]; rfl, al1 (Nat.le_refl _) hb2⟩
    · go_wp2_with fail
      go_ret
      exact ⟨by rw [hd.out, if_neg (by omega)]; rfl, al1 (Nat.le_refl _) hb2⟩
  by_cases h2 : op = 2
  · subst h2
    have hl := hgn rfl
    clear hgn
    match xs, hl with
    | [y], _ =>
    have hd : Hid (dE (.mk 2 [y] ps at' cm tx nu) = 1 + dE y) := by unfold Hid; rw [dE]; simp [dEh]
    generalize dE (.mk 2 [y] ps at' cm tx nu) = r at hd ⊢
    have hdy := dE_le y
    have hgy : gE y = true := HG.out y (by simp)
    simp only [wtEs] at hN
    obtain ⟨y', b, off, Ay, cy, Sy, dy, HY, rfl, hbw, hR, y0, y1, y2, y3, y4, y5, y6⟩ := hx1.atE 0 (by simp)
    obtain rfl : y = y' := HY.out
    simp only [Nat.zero_mul, Nat.add_zero] at *
    have hbb : b ≠ w.heap.size := by omega
    have h10 : (([y] : List Expr).length : Int) = 1 := rfl
    go_enter Tryz.func75, Tryz.ntmps75
    go_wp2_with fail
    refine (H y _ _ ok hR.al (by omega) hgy).mono ?_
    rintro e w2 ⟨rfl, hb2⟩
    generalize dE y = d at *
    go_wp2_with fail
    go_ret
    exact ⟨by rw [hd.out]; go_num, al1 (Nat.le_refl _) hb2⟩
  have hd : Hid (dE (.mk op xs ps at' cm tx nu) = dEs op xs) := by unfold Hid; rw [dE, if_neg h3, if_neg h2]
  generalize dE (.mk op xs ps at' cm tx nu) = r at hd ⊢
  clear hgn
  have hlx := hx1.len
  have e3 : (op == 3) = false := by simp [h3]
  have e2 : (op == 2) = false := by simp [h2]
  go_enter Tryz.func75, Tryz.ntmps75
  go_wp2_with fail
  go_loopw [4, 32] (fun n i wi => ∃ m : Nat, m ≤ xs.length ∧ i = .int .i64 m ∧ n = .int .i64 (dEs op (xs.take m)) ∧ Below (w.alloc (Obj.cells #[.int .i64 op, .slice Aa xs.length ca, .slice As ps.length cs, .string at', .int .i64 cm, .string tx, .int .i64 nu] 64)).heap.size (w.alloc (Obj.cells #[.int .i64 op, .slice Aa xs.length ca, .slice As ps.length cs, .string at', .int .i64 cm, .string tx, .int .i64 nu] 64)) wi) (fun _ i _ => xs.length - (intOf i).toNat)
  case atStart => exact ⟨0, Nat.zero_le _, rfl, by simp [dEs], Below.refl _ _⟩
  case round =>
    obtain ⟨m, hm, rfl, rfl, hbi⟩ := hrel
    have hbw2 : Below w.heap.size w wr := al1 (Nat.le_refl _) hbi
    by_cases hlt2 : m < xs.length
    · obtain ⟨y, b2, off2, Ay, cy, Sy, dy, HY, rfl, hbw3, hRy, y0, y1, y2, y3, y4, y5, y6⟩ := ((hx1.below (bl1 (Nat.le_refl _))).below hbi).atE m hlt2
      have hbb2 : b2 ≠ wr.heap.size := by omega
      have htk2 : Hid (dEs op (xs.take (m + 1)) = max (dEs op (xs.take m)) (dE y + (if brB op y.op then 1 else 0))) := by unfold Hid; rw [dEs_take op xs m hlt2, HY.out]
      have hgy : gE y = true := HG.out y (by rw [← HY.out]; exact List.getElem_mem hlt2)
      have hwy : wtE y ≤ N := by have := wtEs_get xs m hlt2; rw [HY.out] at this; omega
      have hdy := dE_le y
      have hdw := dEs_le op (xs.take m)
      have hdw2 := wtEs_take_le xs m
      generalize dEs op (xs.take m) = d1 at *
      obtain ⟨hqi, hfi⟩ := bcell hbi
      have hszi := hbi.size
      simp at hszi
      have hz : w.heap.size < wr.heap.size := by omega
      go_wp2_with fail
      refine (H y _ _ ok hRy.al hwy hgy).mono ?_
      rintro e w2 ⟨rfl, hb2⟩
      obtain ⟨hq2, hf2⟩ := bcell hb2
      generalize dE y = d2 at *
      go_wp2_with fail
      refine (brk_any op y.op _).mono ?_
      rintro e w3 ⟨rfl, rfl⟩
      cases hbk : brB op y.op
      · have HT : Hid (dEs op (xs.take (m + 1)) = max d1 d2) := by unfold Hid; rw [htk2.out, hbk]; rfl
        clear hbk htk2
        go_wp2_with fail
        go_roundw
        case rel => exact ⟨m + 1, by omega, by go_num, by rw [HT.out]; go_num, hbi.trans ((al1 (Nat.le_refl _) hb2).mono hbi.size)⟩
        case measure => simp [intOf]; omega
      · have HT : Hid (dEs op (xs.take (m + 1)) = max d1 (d2 + 1)) := by unfold Hid; rw [htk2.out, hbk]; rfl
        clear hbk htk2
        go_wp2_with fail
        go_roundw
        case rel => exact ⟨m + 1, by omega, by go_num, by rw [HT.out]; go_num, hbi.trans ((al1 (Nat.le_refl _) hb2).mono hbi.size)⟩
        case measure => simp [intOf]; omega
    · have hmm : m = xs.length := by omega
      subst hmm
      go_wp2_with fail
      go_ret
      exact ⟨by rw [hd.out]; simp, hbw2⟩

theorem deep_all (N : Nat) (hM : N < 4294967281) : DeepE N := by
  induction N with
  | zero => exact fun x cx w ok hx hN hg => absurd (wtE_pos x) (by omega)
  | succ N ih => exact deepExpr_any (ih (by omega)) (by omega)
/-- ask.deepPath -/
theorem deepPath_calls (p : List Step) (A : Option Addr) (ca : Nat) (w : World) (ok : Nat → Prop) (hx : RowK kS w ok A p) (hM : wtP p < 4294967281) (hg : gP p = true) :
    Calls Tryz.prog 42 #[.agg #[.slice A p.length ca]] w fun e w' => e = .returned (.int .i64 (dP p)) ∧ Below w.heap.size w w' :=
  deepPath_any (deep_all _ hM) hM p A ca w ok hx (Nat.le_refl _) hg

/-- is it a query's path -/
def isQ (p : List Step) : Bool := (decide (0 < p.length) && gP p) && decide (dP p ≤ 200)
def shapeE (b : Bool) : Int := if b = true then 0 else 6
/-- ask.Check -/
theorem check_calls (p : List Step) (A : Option Addr) (ca : Nat) (w : World) (ok : Nat → Prop) (hx : RowK kS w ok A p) (hM : wtP p < 4294967281) (hT : WOK w) :
    Calls Tryz.prog 23 #[.agg #[.slice A p.length ca]] w fun e w' => e = .returned (.int .i64 (shapeE (isQ p))) ∧ Below w.heap.size w w' := by
  have HT := Lib.hid hT
  clear hT
  cases hp : (decide (0 < p.length) && gP p)
  · have HQ : Hid (shapeE (isQ p) = 6) := by unfold Hid isQ; rw [hp]; rfl
    have HP := Lib.hid hp
    clear hp
    generalize shapeE (isQ p) = r at HQ ⊢
    go_enter Tryz.func23, Tryz.ntmps23
    go_wp2_with fail
    refine (goodPath_calls p A ca _ ok (hx.below (bl1 (Nat.le_refl _))) hM HT.out.al).mono ?_
    rw [HP.out]
    rintro e w2 ⟨rfl, hb2⟩
    go_wp2_with fail
    go_ret
    exact ⟨by rw [HQ.out]; rfl, al1 (Nat.le_refl _) hb2⟩
  · have HQ : Hid (shapeE (isQ p) = shapeE (decide (dP p ≤ 200))) := by unfold Hid isQ; rw [hp]; rfl
    have hg : gP p = true := by simp at hp; exact hp.2
    have HP := Lib.hid hp
    clear hp
    generalize shapeE (isQ p) = r at HQ ⊢
    go_enter Tryz.func23, Tryz.ntmps23
    go_wp2_with fail
    refine (goodPath_calls p A ca _ ok (hx.below (bl1 (Nat.le_refl _))) hM HT.out.al).mono ?_
    rw [HP.out]
    rintro e w2 ⟨rfl, hb2⟩
    obtain ⟨hq, hf⟩ := bcell hb2
    have hB := al1 (Nat.le_refl _) hb2
    go_wp2_with fail
    refine (deepPath_calls p A ca _ ok (hx.below hB) hM hg).mono ?_
    rintro e w3 ⟨rfl, hb3⟩
    have hdl := dP_le p
    generalize dP p = d at *
    clear hq hf
    by_cases hd : 200 < d
    · go_wp2_with fail
      go_ret
      exact ⟨by rw [HQ.out]; simp [shapeE, show ¬ d ≤ 200 by omega], hB.trans (hb3.mono hB.size)⟩
    · go_wp2_with fail
      go_ret
      exact ⟨by rw [HQ.out]; simp [shapeE, show d ≤ 200 by omega], hB.trans (hb3.mono hB.size)⟩
end Go.Proofs.YtbbmmeaicilabaaGreatDoor
