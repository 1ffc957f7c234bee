/- gimletref11.Is, plain: it says what ask.Check's parts say. Conditions: none. -/
import Derived.Test.YtbbmmeaicilabaaGreatDoorQGn
import Derived.Test.YtbbmmeaicilabaaGreatDoorQHb
set_option linter.unusedVariables false
set_option linter.unusedSimpArgs false
namespace Go.Proofs.YtbbmmeaicilabaaGreatDoor
open Go.RowKit

def rb (a b : Int) : Bool := (decide (a = 1) && decide (b = 1)) || (decide (a = 0) && (decide (b = 0) || decide (b = 1)))
mutual
def iE (l : Int) : Expr → Bool
  | .mk op xs ps at' cm tx nu =>
    if op = 3 then decide (0 ≤ (if 3 ≤ cm then l - 1 else l)) && (decide (xs.length = 0) && ((decide (0 < ps.length) && iP (if 3 ≤ cm then l - 1 else l) ps) && ((at'.toList.isEmpty || nameB at') && cmpB cm tx nu)))
    else ((((decide (ps.length = 0) && at'.toList.isEmpty) && decide (cm = 0)) && tx.toList.isEmpty) && decide (nu = 0)) && ((if op = 0 ∨ op = 1 then decide (2 ≤ xs.length) else decide (op = 2) && decide (xs.length = 1)) && iEs op l xs)
def iEs (op l : Int) : List Expr → Bool
  | [] => true
  | x :: r => (decide (0 ≤ (if op = 2 ∨ rb op x.op = true then l - 1 else l)) && iE (if op = 2 ∨ rb op x.op = true then l - 1 else l) x) && iEs op l r
def iS (l : Int) : Step → Bool
  | .mk a t n w => ((decide (0 ≤ a) && decide (a ≤ 3)) && (decide (0 ≤ t) && decide (t ≤ 3))) && ((if t = 0 then nameB n else decide (n.toList = [])) && iW l w)
def iW (l : Int) : List Expr → Bool
  | [] => true
  | x :: r => (decide (1 ≤ l) && iE (l - 1) x) && iW l r
def iP (l : Int) : List Step → Bool
  | [] => true
  | x :: r => iS l x && iP l r
end
theorem rb_br (op b : Int) (h : op = 0 ∨ op = 1) : rb op b = brB op b := by
  unfold rb brB
  rcases h with rfl | rfl
  · by_cases h1 : b = 1
    · subst h1; rfl
    · rw [if_neg h1]; simp [h1]
  · by_cases h1 : b = 1
    · subst h1; rfl
    · rw [if_neg h1]; simp [h1]
theorem bool_a (a b c d : Bool) : (a && (b && (c && d))) = (b && (a && c && d)) := by cases a <;> cases b <;> cases c <;> cases d <;> rfl
mutual
theorem iE_eq : ∀ (x : Expr) (l : Int), 0 ≤ l → iE l x = (gE x && decide ((dE x : Int) ≤ l))
  | .mk op xs ps at' cm tx nu, l, hl => by
    rw [iE, gE, dE]
    by_cases h3 : op = 3
    · rw [if_pos h3, if_pos h3, if_pos h3]
      by_cases hc : 3 ≤ cm
      · rw [if_pos hc, if_pos hc]
        by_cases h1 : 0 ≤ l - 1
        · rw [iP_eq ps (l - 1) h1, show decide (((dP ps + 1 : Nat) : Int) ≤ l) = decide ((dP ps : Int) ≤ l - 1) from decide_eq_decide.2 (by omega), decide_eq_true h1]
          generalize decide (xs.length = 0) = a
          generalize decide (0 < ps.length) = b
          generalize gP ps = c
          generalize decide ((dP ps : Int) ≤ l - 1) = d
          generalize ((at'.toList.isEmpty || nameB at') && cmpB cm tx nu) = e
          cases a <;> cases b <;> cases c <;> cases d <;> cases e <;> rfl
        · rw [decide_eq_false h1, decide_eq_false (show ¬ ((dP ps + 1 : Nat) : Int) ≤ l by omega)]
          simp
      · rw [if_neg hc, if_neg hc, iP_eq ps l hl, Nat.add_zero, decide_eq_true hl]
        generalize decide (xs.length = 0) = a
        generalize decide (0 < ps.length) = b
        generalize gP ps = c
        generalize decide ((dP ps : Int) ≤ l) = d
        generalize ((at'.toList.isEmpty || nameB at') && cmpB cm tx nu) = e
        cases a <;> cases b <;> cases c <;> cases d <;> cases e <;> rfl
    · rw [if_neg h3, if_neg h3, if_neg h3]
      by_cases h2 : op = 2
      · subst h2
        rw [if_pos rfl]
        match xs with
        | [] => simp
        | [x] =>
          have hx : iEs 2 l [x] = (gEs [x] && decide (((1 + dEh [x] : Nat) : Int) ≤ l)) := by
            rw [iEs, iEs, if_pos (.inl rfl), gEs, gEs, dEh, Bool.and_true, Bool.and_true]
            by_cases h1 : 0 ≤ l - 1
            · rw [iE_eq x (l - 1) h1, decide_eq_true h1, Bool.true_and, show decide (((1 + dE x : Nat) : Int) ≤ l) = decide ((dE x : Int) ≤ l - 1) from decide_eq_decide.2 (by omega)]
            · rw [decide_eq_false h1, decide_eq_false (show ¬ ((1 + dE x : Nat) : Int) ≤ l by omega)]; simp
          rw [hx, ← Bool.and_assoc, ← Bool.and_assoc, ← Bool.and_assoc]
        | x :: y :: r => simp
      · rw [if_neg h2]
        by_cases h01 : op = 0 ∨ op = 1
        · rw [iEs_eq op h01 xs l hl, ← Bool.and_assoc, ← Bool.and_assoc, ← Bool.and_assoc]
        · rw [if_neg h01, decide_eq_false h2]; simp
theorem iEs_eq (op : Int) (ho : op = 0 ∨ op = 1) : ∀ (x : List Expr) (l : Int), 0 ≤ l → iEs op l x = (gEs x && decide ((dEs op x : Int) ≤ l))
  | [], l, hl => by simp [iEs, gEs, dEs, hl]
  | x :: r, l, hl => by
    have h2 : ¬ op = 2 := by omega
    rw [iEs, gEs, dEs, iEs_eq op ho r l hl]
    rw [rb_br op x.op ho]
    cases hb : brB op x.op
    · have hc : ¬ (op = 2 ∨ false = true) := by simp [h2]
      rw [if_neg hc, if_neg (by simp), iE_eq x l hl, decide_eq_true hl, Nat.add_zero, show decide (((max (dE x) (dEs op r) : Nat) : Int) ≤ l) = (decide ((dE x : Int) ≤ l) && decide ((dEs op r : Int) ≤ l)) from by rw [← Bool.decide_and]; exact decide_eq_decide.2 (by omega)]
      generalize gE x = a
      generalize gEs r = b
      generalize decide ((dE x : Int) ≤ l) = c
      generalize decide ((dEs op r : Int) ≤ l) = d
      cases a <;> cases b <;> cases c <;> cases d <;> rfl
    · have hc : (op = 2 ∨ true = true) := .inr rfl
      rw [if_pos hc, if_pos rfl]
      by_cases h1 : 0 ≤ l - 1
      · rw [iE_eq x (l - 1) h1, decide_eq_true h1, show decide (((max (dE x + 1) (dEs op r) : Nat) : Int) ≤ l) = (decide ((dE x : Int) ≤ l - 1) && decide ((dEs op r : Int) ≤ l)) from by rw [← Bool.decide_and]; exact decide_eq_decide.2 (by omega)]
        generalize gE x = a
        generalize gEs r = b
        generalize decide ((dE x : Int) ≤ l - 1) = c
        generalize decide ((dEs op r : Int) ≤ l) = d
        cases a <;> cases b <;> cases c <;> cases d <;> rfl
      · rw [decide_eq_false h1, decide_eq_false (show ¬ ((max (dE x + 1) (dEs op r) : Nat) : Int) ≤ l by omega)]; simp
theorem iS_eq : ∀ (x : Step) (l : Int), 0 ≤ l → iS l x = (gS x && decide ((dS x : Int) ≤ l))
  | .mk a t n w, l, hl => by
    rw [iS, gS, dS, iW_eq w l hl]
    simp only [Bool.and_assoc]
theorem iW_eq : ∀ (x : List Expr) (l : Int), 0 ≤ l → iW l x = (gEs x && decide ((dW x : Int) ≤ l))
  | [], l, hl => by simp [iW, gEs, dW, hl]
  | x :: r, l, hl => by
    rw [iW, gEs, dW, iW_eq r l hl]
    by_cases h1 : 1 ≤ l
    · rw [iE_eq x (l - 1) (by omega), decide_eq_true h1, show decide (((max (1 + dE x) (dW r) : Nat) : Int) ≤ l) = (decide ((dE x : Int) ≤ l - 1) && decide ((dW r : Int) ≤ l)) from by rw [← Bool.decide_and]; exact decide_eq_decide.2 (by omega)]
      generalize gE x = a
      generalize gEs r = b
      generalize decide ((dE x : Int) ≤ l - 1) = c
      generalize decide ((dW r : Int) ≤ l) = d
      cases a <;> cases b <;> cases c <;> cases d <;> rfl
    · rw [decide_eq_false h1, decide_eq_false (show ¬ ((max (1 + dE x) (dW r) : Nat) : Int) ≤ l by omega)]; simp
theorem iP_eq : ∀ (x : List Step) (l : Int), 0 ≤ l → iP l x = (gP x && decide ((dP x : Int) ≤ l))
  | [], l, hl => by simp [iP, gP, dP, hl]
  | x :: r, l, hl => by
    rw [iP, gP, dP, iS_eq x l hl, iP_eq r l hl, show decide (((max (dS x) (dP r) : Nat) : Int) ≤ l) = (decide ((dS x : Int) ≤ l) && decide ((dP r : Int) ≤ l)) from by rw [← Bool.decide_and]; exact decide_eq_decide.2 (by omega)]
    generalize gS x = a
    generalize gP r = b
    generalize decide ((dS x : Int) ≤ l) = c
    generalize decide ((dP r : Int) ≤ l) = d
    cases a <;> cases b <;> cases c <;> cases d <;> rfl
end
theorem is_eq (p : List Step) : (decide (0 < p.length) && iP 200 p) = isQ p := by
  rw [iP_eq p 200 (by omega)]
  unfold isQ
  rw [← Bool.and_assoc, show decide ((dP p : Int) ≤ 200) = decide (dP p ≤ 200) from decide_eq_decide.2 (by omega)]
end Go.Proofs.YtbbmmeaicilabaaGreatDoor

/- gimletref11.Is, IsExpr, Good: is it a query's path. Conditions: the paths lie in memory as trees. -/
namespace Go.Proofs.YtbbmmeaicilabaaGreatDoor
open Go.RowKit

def IsE (N : Nat) : Prop := ∀ (x : Expr) cx (w : World) ok (l : Int), RE w ok x cx → wtE x ≤ N → 0 ≤ l → l ≤ 1000 → Calls Tryz.prog 83 #[.agg cx.toArray, .int .i64 l] w fun e w' => e = .returned (.bool (iE l x)) ∧ Below w.heap.size w w'
def IsP (N : Nat) : Prop := ∀ (p : List Step) (A : Option Addr) (ca : Nat) (w : World) ok (l : Int), RowK kS w ok A p → wtP p ≤ N → 0 ≤ l → l ≤ 1000 → Calls Tryz.prog 55 #[.agg #[.slice A p.length ca], .int .i64 l] w fun e w' => e = .returned (.bool (decide (0 < p.length) && iP l p)) ∧ Below w.heap.size w w'

set_option maxRecDepth 100000 in
set_option maxHeartbeats 8000000 in
theorem isP_any {N : Nat} (H : IsE N) (hM : N ≤ 1000000000) : IsP N := by
  intro p A ca w ok l hp hw h0 h1
  have hlen := hp.len
  have HH := Lib.hid H
  clear H
  obtain ⟨W0, hW0⟩ : ∃ W, W = w.alloc (.cells #[.slice A p.length ca] 27) := ⟨_, rfl⟩
  have BT : Blk W0 w.heap.size #[.slice A p.length ca] 27 := by rw [hW0]; exact Blk.new _ _ _
  have hb0 : Below w.heap.size w W0 := by rw [hW0]; exact bl1 (Nat.le_refl _)
  by_cases hl : p.length = 0
  · have hF : (decide (0 < p.length) && iP l p) = false := by rw [hl]; rfl
    rw [hF]
    have hlb : ((p.length : Int) == 0) = true := by simp [hl]
    clear hF hl hW0 BT hb0
    go_enter Tryz.func55, Tryz.ntmps55
    go_wp2_with fail
    go_ret
    exact ⟨rfl, bl1 (Nat.le_refl _)⟩
  have hF : (decide (0 < p.length) && iP l p) = iP l p := by rw [decide_eq_true (by omega)]; rfl
  rw [hF]
  have hlb : ((p.length : Int) == 0) = false := by rw [beq_eq_false_iff_ne]; omega
  clear hF hl
  go_enter Tryz.func55, Tryz.ntmps55
  go_wp2_with fail
  rw [← hW0]
  clear hW0
  go_loopw [16] (fun i wr => ∃ k : Nat, k ≤ p.length ∧ i = .int .i64 k ∧ Hid (iP l p = iP l (p.drop k)) ∧ Below w.heap.size w wr ∧ w.heap.size < wr.heap.size) (fun i _ => p.length - (intOf i).toNat)
  case atStart => exact ⟨0, Nat.zero_le _, rfl, rfl, hb0, BT.lt⟩
  case round =>
    obtain ⟨k, hk, rfl, HE, hbr, hsr⟩ := hrel
    obtain ⟨wo, rfl⟩ : ∃ wo : World, wo = wr := ⟨_, rfl⟩
    by_cases hlt : k < p.length
    · obtain ⟨x, b, off, Aw, cw, HX, rfl, hbw, hR, x0, x1, x2, x3⟩ := (hp.below hbr).atS k hlt
      have hwx := wtP_get p k hlt
      rw [HX.out] at hwx
      have hdr : p.drop k = x :: p.drop (k + 1) := by rw [← HX.out]; exact List.drop_eq_getElem_cons hlt
      have HE2 : Hid (iP l p = (iS l x && iP l (p.drop (k + 1)))) := by unfold Hid; rw [HE.out, hdr, iP]
      clear hdr HE HX
      obtain ⟨ax, te, nm, wh⟩ := x
      obtain ⟨Ab, cb, he, hrw⟩ := hR.rows
      simp only [Step.axis, Step.test, Step.name, Step.wh, wtS] at *
      obtain ⟨rfl, rfl⟩ : Aw = Ab ∧ cw = cb := by simpa using he
      clear he hR
      have hg : iS l (.mk ax te nm wh) = (((decide (0 ≤ ax) && decide (ax ≤ 3)) && (decide (0 ≤ te) && decide (te ≤ 3))) && ((if te = 0 then nameB nm else decide (nm.toList = [])) && iW l wh)) := by rw [iS]
      have hbb : b ≠ wo.heap.size := by omega
      by_cases hax : 0 ≤ ax ∧ ax ≤ 3 ∧ 0 ≤ te ∧ te ≤ 3
      case' neg =>
        have HG : Hid (iP l p = false) := by
          unfold Hid; rw [HE2.out, hg]
          by_cases h1 : 0 ≤ ax <;> by_cases h2 : ax ≤ 3 <;> by_cases h3 : 0 ≤ te <;> by_cases h4 : te ≤ 3 <;> simp [h1, h2, h3, h4]
          exact absurd ⟨h1, h2, h3, h4⟩ hax
        clear hg
        have hd : ax < 0 ∨ (¬ ax < 0 ∧ 3 < ax) ∨ ((¬ ax < 0 ∧ ¬ 3 < ax) ∧ te < 0) ∨ ((¬ ax < 0 ∧ ¬ 3 < ax) ∧ ¬ te < 0 ∧ 3 < te) := by omega
        clear hax
        rcases hd with h1 | ⟨h1, h2⟩ | ⟨⟨h1, h2⟩, h3⟩ | ⟨⟨h1, h2⟩, h3, h4⟩
        all_goals
          go_wp2_with fail
          go_ret
          exact ⟨by rw [HG.out]; rfl, hbr.trans (bl1 hbr.size)⟩
      case' pos =>
        obtain ⟨h1, h2, h3, h4⟩ := hax
        have HG : Hid (iP l p = ((if te = 0 then nameB nm else decide (nm.toList = [])) && iW l wh && iP l (p.drop (k + 1)))) := by unfold Hid; rw [HE2.out, hg]; simp [h1, h2, h3, h4]
        clear hg HE2
        have hd : ¬ ax < 0 ∧ ¬ 3 < ax ∧ ¬ te < 0 ∧ ¬ 3 < te := by omega
        obtain ⟨d1, d2, d3, d4⟩ := hd
        have B6 := Blk.new wo #[.int .i64 ax, .int .i64 te, .string nm, .slice Aw wh.length cw] 55
        have hb6 : Below wo.heap.size wo (wo.alloc (.cells #[.int .i64 ax, .int .i64 te, .string nm, .slice Aw wh.length cw] 55)) := bl1 (Nat.le_refl _)
        by_cases ht : te = 0
        case' pos =>
          subst ht
          rw [if_pos rfl] at HG
          go_wp2_with fail
          refine (refName_any nm _ (by omega)).mono ?_
          rintro e w2 ⟨rfl, hb2⟩
          have B7 := B6.below hb2
          have hb7 := hb6.trans (hb2.mono hb6.size)
          have q0 := (B7).cell 0
          have q1 := (B7).cell 1
          have q2 := (B7).cell 2
          have q3 := (B7).cell 3
          simp at q0 q1 q2 q3
          have qf := fun o => (B7).frozen o
          cases hn : nameB nm
          · have HF : Hid (iP l p = false) := by unfold Hid; rw [HG.out, hn]; rfl
            go_wp2_with fail
            go_ret
            exact ⟨by rw [HF.out]; rfl, hbr.trans (hb7.mono hbr.size)⟩
          have HG2 : Hid (iP l p = (iW l wh && iP l (p.drop (k + 1)))) := by unfold Hid; rw [HG.out, hn]; rfl
          clear hn
          go_upto_region 10 with fail
          clear q0 q1 q2 q3 qf
          obtain ⟨W7, rfl⟩ : ∃ W : World, W = w2 := ⟨_, rfl⟩
        case' neg =>
          rw [if_neg ht] at HG
          have hte : (te == 0) = false := by rw [beq_eq_false_iff_ne]; exact ht
          have hte2 : (te != 0) = true := by rw [bne_iff_ne]; exact ht
          clear ht
          cases hn : nm.toList.isEmpty
          · have hne : ¬ nm.toList = [] := by intro e; rw [e] at hn; cases hn
            have HF : Hid (iP l p = false) := by unfold Hid; rw [HG.out, decide_eq_false hne]; rfl
            clear hne
            go_wp2_with fail
            go_ret
            exact ⟨by rw [HF.out]; rfl, hbr.trans (hb6.mono hbr.size)⟩
          have hne : nm.toList = [] := by simpa using hn
          have HG2 : Hid (iP l p = (iW l wh && iP l (p.drop (k + 1)))) := by unfold Hid; rw [HG.out, decide_eq_true hne]; rfl
          clear hne
          go_upto_region 10 with fail
          clear hn
          have B7 := B6
          have hb7 := hb6
          generalize wo.alloc (.cells #[.int .i64 ax, .int .i64 te, .string nm, .slice Aw wh.length cw] 55) = W7 at *
        all_goals
          have q0 := (B7).cell 0
          have q1 := (B7).cell 1
          have q2 := (B7).cell 2
          have q3 := (B7).cell 3
          simp at q0 q1 q2 q3
          have qf := fun o => (B7).frozen o
          have hlw := hrw.len
          have hl7 := B7.lt
          have hbr7 := hbr.trans (hb7.mono hbr.size)
          go_wp2_with fail
          go_loopw [60] (fun i wr => ∃ k2 : Nat, k2 ≤ wh.length ∧ i = .int .i64 k2 ∧ Hid (iW l wh = iW l (wh.drop k2)) ∧ Below wo.heap.size wo wr ∧ wo.heap.size < wr.heap.size) (fun i _ => wh.length - (intOf i).toNat)
          case atStart => exact ⟨0, Nat.zero_le _, rfl, rfl, hb7, hl7⟩
          case round =>
            obtain ⟨k2, hk2, rfl, HW, hbi, hsi⟩ := hrel
            obtain ⟨wi, rfl⟩ : ∃ wi : World, wi = wr := ⟨_, rfl⟩
            have hbri := hbr.trans (hbi.mono hbr.size)
            by_cases hlt2 : k2 < wh.length
            · obtain ⟨x, b2, off2, Aa, c1, As, c2, HX, rfl, hbw2, hR, y0, y1, y2, y3, y4, y5, y6⟩ := (hrw.below hbi).atE k2 hlt2
              have hwx2 := wtEs_get wh k2 hlt2
              rw [HX.out] at hwx2
              have hdr : wh.drop k2 = x :: wh.drop (k2 + 1) := by rw [← HX.out]; exact List.drop_eq_getElem_cons hlt2
              have HW2 : Hid (iW l wh = ((decide (1 ≤ l) && iE (l - 1) x) && iW l (wh.drop (k2 + 1)))) := by unfold Hid; rw [HW.out, hdr, iW]
              clear hdr HW HX
              have hbb2 : b2 ≠ wi.heap.size := by omega
              by_cases hl1 : 1 ≤ l
              · have hlb1 : decide (l < 1) = false := by rw [decide_eq_false_iff_not]; omega
                have HC := Lib.hid (HH.out x _ (wi.alloc (.cells (#[.int .i64 x.op, .slice Aa x.args.length c1, .slice As x.path.length c2, .string x.attr, .int .i64 x.cmp, .string x.text, .int .i64 x.num]) 64)) ok (l - 1) (RE.al hR) (by omega) (by omega) (by omega))
                go_wp2_with fail
                refine HC.out.mono ?_
                rintro e w8 ⟨rfl, hb8⟩
                have hb9 : Below wi.heap.size wi w8 := (bl1 (Nat.le_refl _)).trans (hb8.mono (by simp))
                have hbr9 := hbri.trans (hb9.mono hbri.size)
                cases hi : iE (l - 1) x
                · have HF : Hid (iP l p = false) := by unfold Hid; rw [HG2.out, HW2.out, hi]; simp
                  clear hi
                  go_wp2_with fail
                  go_ret
                  exact ⟨by rw [HF.out]; rfl, hbr9⟩
                · have HW3 : Hid (iW l wh = iW l (wh.drop (k2 + 1))) := by unfold Hid; rw [HW2.out, hi, decide_eq_true hl1]; rfl
                  clear hi
                  go_wp2_with fail
                  go_roundw
                  case rel => exact ⟨k2 + 1, by omega, by go_num, HW3, hbi.trans (hb9.mono hbi.size), by have := hb9.size; omega⟩
                  case measure => simp [intOf]; omega
              · have hlb1 : decide (l < 1) = true := by rw [decide_eq_true_eq]; omega
                have HF : Hid (iP l p = false) := by unfold Hid; rw [HG2.out, HW2.out, decide_eq_false hl1]; rfl
                clear hl1
                go_wp2_with fail
                go_ret
                exact ⟨by rw [HF.out]; rfl, hbri.trans (bl1 hbri.size)⟩
            · have HG3 : Hid (iP l p = iP l (p.drop (k + 1))) := by unfold Hid; rw [HG2.out, HW.out, List.drop_of_length_le (by omega)]; rfl
              go_wp2_with fail
              go_roundw
              case rel => exact ⟨k + 1, by omega, by go_num, HG3, hbri, by omega⟩
              case measure => simp [intOf]; omega
    · have HF : Hid (iP l p = true) := by unfold Hid; rw [HE.out, List.drop_of_length_le (by omega)]; rfl
      go_wp2_with fail
      go_ret
      exact ⟨by rw [HF.out]; rfl, hbr⟩

end Go.Proofs.YtbbmmeaicilabaaGreatDoor
