/- ask.goodPath and what it calls: is a path one of a query's? Conditions: the paths lie in memory as trees; the tables lie as the text lays them. -/
import Derived.Test.YtbbmmeaicilabaaGreatDoorQGd
set_option linter.unusedVariables false
set_option linter.unusedSimpArgs false
namespace Go.Proofs.YtbbmmeaicilabaaGreatDoor
open Go.RowKit

def cmpB (cm : Int) (tx : ByteArray) (nu : Int) : Bool :=
  if cm = 0 then tx.toList.isEmpty && (nu == 0)
  else if 1 ≤ cm ∧ cm ≤ 5 then goodTextB tx && (nu == 0)
  else if 6 ≤ cm ∧ cm ≤ 8 then tx.toList.isEmpty && (decide (0 ≤ nu) && decide (nu ≤ 1000000)) else false
mutual
def gE : Expr → Bool
  | .mk op xs ps at' cm tx nu =>
    if op = 3 then (decide (xs.length = 0) && (decide (0 < ps.length) && gP ps)) && ((at'.toList.isEmpty || nameB at') && cmpB cm tx nu)
    else ((((decide (ps.length = 0) && at'.toList.isEmpty) && decide (cm = 0)) && tx.toList.isEmpty) && decide (nu = 0)) && ((if op = 0 ∨ op = 1 then decide (2 ≤ xs.length) else decide (op = 2) && decide (xs.length = 1)) && gEs xs)
def gEs : List Expr → Bool
  | [] => true
  | x :: r => gE x && gEs r
def gS : Step → Bool
  | .mk a t n w => ((decide (0 ≤ a) && decide (a ≤ 3)) && (decide (0 ≤ t) && decide (t ≤ 3))) && ((if t = 0 then nameB n else decide (n.toList = [])) && gEs w)
def gP : List Step → Bool
  | [] => true
  | x :: r => gS x && gP r
end
theorem gEs_iff (l : List Expr) : gEs l = true ↔ ∀ x ∈ l, gE x = true := by
  induction l with
  | nil => simp [gEs]
  | cons x r ih => simp [gEs, ih]
theorem gP_iff (l : List Step) : gP l = true ↔ ∀ x ∈ l, gS x = true := by
  induction l with
  | nil => simp [gP]
  | cons x r ih => simp [gP, ih]
theorem gEs_false {l : List Expr} (k : Nat) (h : k < l.length) (hx : gE l[k] = false) : gEs l = false := by
  cases hb : gEs l
  · rfl
  · rw [(gEs_iff l).1 hb _ (List.getElem_mem h)] at hx; cases hx
theorem gP_false {l : List Step} (k : Nat) (h : k < l.length) (hx : gS l[k] = false) : gP l = false := by
  cases hb : gP l
  · rfl
  · rw [(gP_iff l).1 hb _ (List.getElem_mem h)] at hx; cases hx
theorem gEs_all {l : List Expr} (h : ∀ j, j < l.length → ∀ (h : j < l.length), gE l[j] = true) : gEs l = true := by
  rw [gEs_iff]
  intro x hx
  obtain ⟨j, hj, rfl⟩ := List.getElem_of_mem hx
  exact h j hj hj
theorem gP_all {l : List Step} (h : ∀ j, j < l.length → ∀ (h : j < l.length), gS l[j] = true) : gP l = true := by
  rw [gP_iff]
  intro x hx
  obtain ⟨j, hj, rfl⟩ := List.getElem_of_mem hx
  exact h j hj hj

def GoodE (N : Nat) : Prop := ∀ (x : Expr) cx (w : World) ok, RE w ok x cx → wtE x ≤ N → WOK w → Calls Tryz.prog 103 #[.agg cx.toArray] w fun e w' => e = .returned (.bool (gE x)) ∧ Below w.heap.size w w'
def GoodS (N : Nat) : Prop := ∀ (x : Step) cx (w : World) ok, RS w ok x cx → wtS x ≤ N → WOK w → Calls Tryz.prog 78 #[.agg cx.toArray] w fun e w' => e = .returned (.bool (gS x)) ∧ Below w.heap.size w w'

set_option maxHeartbeats 400000 in
theorem goodFnAa_any {N : Nat} (H : GoodE N) (x : Expr) (cx : List Value) (w : World) (ok : Nat → Prop) (hx : (kE).K w ok x cx) (hN : wtE x ≤ N) (hT : WOK w) :
    Calls Tryz.prog 127 #[.agg cx.toArray] w fun e w' => e = .returned (.bool (!gE x)) ∧ Below w.heap.size w w' := by
  have HX := Lib.hid hx
  have hx : RE w ok x cx := hx
  have HN := Lib.hid hN
  have HT := Lib.hid hT
  clear hN hT
  obtain ⟨Aa, ca, As, cs, rfl, hx1, hx2⟩ := hx.rows
  clear hx
  go_enter Tryz.func127, Tryz.ntmps127
  go_wp2_with fail
  refine (H x [.int .i64 x.op, .slice Aa x.args.length ca, .slice As x.path.length cs, .string x.attr, .int .i64 x.cmp, .string x.text, .int .i64 x.num] _ ok (RE.al (show RE w ok x _ from HX.out)) HN.out HT.out.al).mono ?_
  rintro e w2 ⟨rfl, hb2⟩
  go_wp2_with fail
  go_ret
  exact ⟨rfl, al1 (Nat.le_refl _) hb2⟩

set_option maxHeartbeats 400000 in
theorem indexAa_any {N : Nat} (H : GoodE N) (xs : List Expr) (A : Option Addr) (ca : Nat) (w : World) (ok : Nat → Prop) (hx : RowK kE w ok A xs) (hN : wtEs xs ≤ N) (hT : WOK w) :
    Calls Tryz.prog 125 #[.slice A xs.length ca, .func (.func 127) #[] #[]] w fun e w' => (∃ r : Int, e = .returned (.int .i64 r) ∧ decide (0 ≤ r) = !gEs xs) ∧ Below w.heap.size w w' := by
  have hlx := hx.len
  have HT := Lib.hid hT
  clear hT
  go_enter Tryz.func125, Tryz.ntmps125
  go_wp2_with fail
  go_loopw [8] (fun i wr => ∃ k : Nat, k ≤ xs.length ∧ i = .int .i64 k ∧ Hid (∀ j, j < k → ∀ (h : j < xs.length), gE xs[j] = true) ∧ Below w.heap.size w wr) (fun i _ => xs.length - (intOf i).toNat)
  case atStart => exact ⟨0, Nat.zero_le _, rfl, fun j h => absurd h (by omega), Below.refl _ _⟩
  case round =>
    obtain ⟨k, hk, rfl, HE, hbr⟩ := hrel
    by_cases hlt : k < xs.length
    · obtain ⟨x, b, off, Aa, c1, As, c2, HX, rfl, hbw, hR, x0, x1, x2, x3, x4, x5, x6⟩ := (hx.below hbr).atE k hlt
      go_wp2_with fail
      refine (goodFnAa_any H x _ _ ok hR (by have := wtEs_get xs k hlt; rw [HX.out] at this; omega) (HT.out.below hbr)).mono ?_
      rintro e w2 ⟨rfl, hb2⟩
      cases hq : gE x
      · have hf : gEs xs = false := gEs_false k hlt (by rw [HX.out]; exact hq)
        have HF := Lib.hid hf
        clear hf hq
        go_wp2_with fail
        go_ret
        exact ⟨⟨k, rfl, by rw [HF.out]; simp⟩, hbr.trans (hb2.mono hbr.size)⟩
      · have HQ : Hid (∀ j, j < k + 1 → ∀ (h : j < xs.length), gE xs[j] = true) := by
          intro j hj h
          rcases Nat.lt_or_ge j k with hjk | hjk
          · exact HE.out j hjk h
          · obtain rfl : j = k := by omega
            rw [HX.out]; exact hq
        clear hq HX
        go_wp2_with fail
        go_roundw
        case rel => exact ⟨k + 1, by omega, by go_num, HQ, hbr.trans (hb2.mono hbr.size)⟩
        case measure => simp [intOf]; omega
    · have HF : Hid (gEs xs = true) := gEs_all fun j h => HE.out j (by omega)
      go_wp2_with fail
      go_ret
      exact ⟨⟨-1, rfl, by rw [HF.out]; rfl⟩, hbr⟩

theorem containsAa_any {N : Nat} (H : GoodE N) (xs : List Expr) (A : Option Addr) (ca : Nat) (w : World) (ok : Nat → Prop) (hx : RowK kE w ok A xs) (hN : wtEs xs ≤ N) (hT : WOK w) :
    Calls Tryz.prog 101 #[.slice A xs.length ca, .func (.func 127) #[] #[]] w fun e w' => e = .returned (.bool (!gEs xs)) ∧ Below w.heap.size w w' := by
  go_enter Tryz.func101, Tryz.ntmps101
  go_wp2_with fail
  refine (indexAa_any H xs A ca _ ok hx hN hT).mono ?_
  rintro e w2 ⟨⟨r, rfl, hr⟩, hb2⟩
  have HR := Lib.hid hr
  clear hr
  go_wp2_with fail
  go_ret
  exact ⟨by rw [← HR.out]; rfl, hb2⟩
set_option maxHeartbeats 400000 in
theorem goodFnAb_any {N : Nat} (H : GoodE N) (x : Expr) (cx : List Value) (w : World) (ok : Nat → Prop) (hx : (kE).K w ok x cx) (hN : wtE x ≤ N) (hT : WOK w) :
    Calls Tryz.prog 102 #[.agg cx.toArray] w fun e w' => e = .returned (.bool (!gE x)) ∧ Below w.heap.size w w' := by
  have HX := Lib.hid hx
  have hx : RE w ok x cx := hx
  have HN := Lib.hid hN
  have HT := Lib.hid hT
  clear hN hT
  obtain ⟨Aa, ca, As, cs, rfl, hx1, hx2⟩ := hx.rows
  clear hx
  go_enter Tryz.func102, Tryz.ntmps102
  go_wp2_with fail
  refine (H x [.int .i64 x.op, .slice Aa x.args.length ca, .slice As x.path.length cs, .string x.attr, .int .i64 x.cmp, .string x.text, .int .i64 x.num] _ ok (RE.al (show RE w ok x _ from HX.out)) HN.out HT.out.al).mono ?_
  rintro e w2 ⟨rfl, hb2⟩
  go_wp2_with fail
  go_ret
  exact ⟨rfl, al1 (Nat.le_refl _) hb2⟩

set_option maxHeartbeats 400000 in
theorem indexAb_any {N : Nat} (H : GoodE N) (xs : List Expr) (A : Option Addr) (ca : Nat) (w : World) (ok : Nat → Prop) (hx : RowK kE w ok A xs) (hN : wtEs xs ≤ N) (hT : WOK w) :
    Calls Tryz.prog 125 #[.slice A xs.length ca, .func (.func 102) #[] #[]] w fun e w' => (∃ r : Int, e = .returned (.int .i64 r) ∧ decide (0 ≤ r) = !gEs xs) ∧ Below w.heap.size w w' := by
  have hlx := hx.len
  have HT := Lib.hid hT
  clear hT
  go_enter Tryz.func125, Tryz.ntmps125
  go_wp2_with fail
  go_loopw [8] (fun i wr => ∃ k : Nat, k ≤ xs.length ∧ i = .int .i64 k ∧ Hid (∀ j, j < k → ∀ (h : j < xs.length), gE xs[j] = true) ∧ Below w.heap.size w wr) (fun i _ => xs.length - (intOf i).toNat)
  case atStart => exact ⟨0, Nat.zero_le _, rfl, fun j h => absurd h (by omega), Below.refl _ _⟩
  case round =>
    obtain ⟨k, hk, rfl, HE, hbr⟩ := hrel
    by_cases hlt : k < xs.length
    · obtain ⟨x, b, off, Aa, c1, As, c2, HX, rfl, hbw, hR, x0, x1, x2, x3, x4, x5, x6⟩ := (hx.below hbr).atE k hlt
      go_wp2_with fail
      refine (goodFnAb_any H x _ _ ok hR (by have := wtEs_get xs k hlt; rw [HX.out] at this; omega) (HT.out.below hbr)).mono ?_
      rintro e w2 ⟨rfl, hb2⟩
      cases hq : gE x
      · have hf : gEs xs = false := gEs_false k hlt (by rw [HX.out]; exact hq)
        have HF := Lib.hid hf
        clear hf hq
        go_wp2_with fail
        go_ret
        exact ⟨⟨k, rfl, by rw [HF.out]; simp⟩, hbr.trans (hb2.mono hbr.size)⟩
      · have HQ : Hid (∀ j, j < k + 1 → ∀ (h : j < xs.length), gE xs[j] = true) := by
          intro j hj h
          rcases Nat.lt_or_ge j k with hjk | hjk
          · exact HE.out j hjk h
          · obtain rfl : j = k := by omega
            rw [HX.out]; exact hq
        clear hq HX
        go_wp2_with fail
        go_roundw
        case rel => exact ⟨k + 1, by omega, by go_num, HQ, hbr.trans (hb2.mono hbr.size)⟩
        case measure => simp [intOf]; omega
    · have HF : Hid (gEs xs = true) := gEs_all fun j h => HE.out j (by omega)
      go_wp2_with fail
      go_ret
      exact ⟨⟨-1, rfl, by rw [HF.out]; rfl⟩, hbr⟩

theorem containsAb_any {N : Nat} (H : GoodE N) (xs : List Expr) (A : Option Addr) (ca : Nat) (w : World) (ok : Nat → Prop) (hx : RowK kE w ok A xs) (hN : wtEs xs ≤ N) (hT : WOK w) :
    Calls Tryz.prog 101 #[.slice A xs.length ca, .func (.func 102) #[] #[]] w fun e w' => e = .returned (.bool (!gEs xs)) ∧ Below w.heap.size w w' := by
  go_enter Tryz.func101, Tryz.ntmps101
  go_wp2_with fail
  refine (indexAb_any H xs A ca _ ok hx hN hT).mono ?_
  rintro e w2 ⟨⟨r, rfl, hr⟩, hb2⟩
  have HR := Lib.hid hr
  clear hr
  go_wp2_with fail
  go_ret
  exact ⟨by rw [← HR.out]; rfl, hb2⟩
set_option maxHeartbeats 400000 in
theorem goodFnAc_any {N : Nat} (H : GoodS N) (x : Step) (cx : List Value) (w : World) (ok : Nat → Prop) (hx : (kS).K w ok x cx) (hN : wtS x ≤ N) (hT : WOK w) :
    Calls Tryz.prog 77 #[.agg cx.toArray] w fun e w' => e = .returned (.bool (!gS x)) ∧ Below w.heap.size w w' := by
  have HX := Lib.hid hx
  have hx : RS w ok x cx := hx
  have HN := Lib.hid hN
  have HT := Lib.hid hT
  clear hN hT
  obtain ⟨Aw, cw, rfl, hx1⟩ := hx.rows
  clear hx
  go_enter Tryz.func77, Tryz.ntmps77
  go_wp2_with fail
  refine (H x [.int .i64 x.axis, .int .i64 x.test, .string x.name, .slice Aw x.wh.length cw] _ ok (RS.al (show RS w ok x _ from HX.out)) HN.out HT.out.al).mono ?_
  rintro e w2 ⟨rfl, hb2⟩
  go_wp2_with fail
  go_ret
  exact ⟨rfl, al1 (Nat.le_refl _) hb2⟩

set_option maxHeartbeats 400000 in
theorem indexAc_any {N : Nat} (H : GoodS N) (xs : List Step) (A : Option Addr) (ca : Nat) (w : World) (ok : Nat → Prop) (hx : RowK kS w ok A xs) (hN : wtP xs ≤ N) (hT : WOK w) :
    Calls Tryz.prog 99 #[.slice A xs.length ca, .func (.func 77) #[] #[]] w fun e w' => (∃ r : Int, e = .returned (.int .i64 r) ∧ decide (0 ≤ r) = !gP xs) ∧ Below w.heap.size w w' := by
  have hlx := hx.len
  have HT := Lib.hid hT
  clear hT
  go_enter Tryz.func99, Tryz.ntmps99
  go_wp2_with fail
  go_loopw [8] (fun i wr => ∃ k : Nat, k ≤ xs.length ∧ i = .int .i64 k ∧ Hid (∀ j, j < k → ∀ (h : j < xs.length), gS xs[j] = true) ∧ Below w.heap.size w wr) (fun i _ => xs.length - (intOf i).toNat)
  case atStart => exact ⟨0, Nat.zero_le _, rfl, fun j h => absurd h (by omega), Below.refl _ _⟩
  case round =>
    obtain ⟨k, hk, rfl, HE, hbr⟩ := hrel
    by_cases hlt : k < xs.length
    · obtain ⟨x, b, off, Aa, c1, HX, rfl, hbw, hR, x0, x1, x2, x3⟩ := (hx.below hbr).atS k hlt
      go_wp2_with fail
      refine (goodFnAc_any H x _ _ ok hR (by have := wtP_get xs k hlt; rw [HX.out] at this; omega) (HT.out.below hbr)).mono ?_
      rintro e w2 ⟨rfl, hb2⟩
      cases hq : gS x
      · have hf : gP xs = false := gP_false k hlt (by rw [HX.out]; exact hq)
        have HF := Lib.hid hf
        clear hf hq
        go_wp2_with fail
        go_ret
        exact ⟨⟨k, rfl, by rw [HF.out]; simp⟩, hbr.trans (hb2.mono hbr.size)⟩
      · have HQ : Hid (∀ j, j < k + 1 → ∀ (h : j < xs.length), gS xs[j] = true) := by
          intro j hj h
          rcases Nat.lt_or_ge j k with hjk | hjk
          · exact HE.out j hjk h
          · obtain rfl : j = k := by omega
            rw [HX.out]; exact hq
        clear hq HX
        go_wp2_with fail
        go_roundw
        case rel => exact ⟨k + 1, by omega, by go_num, HQ, hbr.trans (hb2.mono hbr.size)⟩
        case measure => simp [intOf]; omega
    · have HF : Hid (gP xs = true) := gP_all fun j h => HE.out j (by omega)
      go_wp2_with fail
      go_ret
      exact ⟨⟨-1, rfl, by rw [HF.out]; rfl⟩, hbr⟩

theorem containsAc_any {N : Nat} (H : GoodS N) (xs : List Step) (A : Option Addr) (ca : Nat) (w : World) (ok : Nat → Prop) (hx : RowK kS w ok A xs) (hN : wtP xs ≤ N) (hT : WOK w) :
    Calls Tryz.prog 76 #[.slice A xs.length ca, .func (.func 77) #[] #[]] w fun e w' => e = .returned (.bool (!gP xs)) ∧ Below w.heap.size w w' := by
  go_enter Tryz.func76, Tryz.ntmps76
  go_wp2_with fail
  refine (indexAc_any H xs A ca _ ok hx hN hT).mono ?_
  rintro e w2 ⟨⟨r, rfl, hr⟩, hb2⟩
  have HR := Lib.hid hr
  clear hr
  go_wp2_with fail
  go_ret
  exact ⟨by rw [← HR.out]; rfl, hb2⟩

set_option maxHeartbeats 1000000 in
theorem goodPath_any {N : Nat} (H : GoodS N) (p : List Step) (A : Option Addr) (ca : Nat) (w : World) (ok : Nat → Prop) (hx : RowK kS w ok A p) (hN : wtP p ≤ N) (hT : WOK w) :
    Calls Tryz.prog 43 #[.agg #[.slice A p.length ca]] w fun e w' => e = .returned (.bool (decide (0 < p.length) && gP p)) ∧ Below w.heap.size w w' := by
  have HT := Lib.hid hT
  clear hT
  go_enter Tryz.func43, Tryz.ntmps43
  go_wp2_with fail
  · refine (containsAc_any H p A ca _ ok (hx.below (bl1 (Nat.le_refl _))) hN HT.out.al).mono ?_
    rintro e w2 ⟨rfl, hb2⟩
    go_wp2_with fail
    go_ret
    exact ⟨by simp [*], al1 (Nat.le_refl _) hb2⟩
  all_goals
    go_ret
    exact ⟨by simp [*], bl1 (Nat.le_refl _)⟩

set_option maxHeartbeats 2000000 in
theorem goodStep_any {N : Nat} (H : GoodE N) (hM : N < 4294967281) : GoodS N := by
  intro x cx w ok hx hN hT
  obtain ⟨Aw, cw, rfl, hx1⟩ := hx.rows
  obtain ⟨ax, te, nm, wh⟩ := x
  clear hx
  simp only [Step.axis, Step.test, Step.name, Step.wh, wtS] at *
  have HT := Lib.hid hT
  clear hT
  have hg : gS (.mk ax te nm wh) = (((decide (0 ≤ ax) && decide (ax ≤ 3)) && (decide (0 ≤ te) && decide (te ≤ 3))) && ((if te = 0 then nameB nm else decide (nm.toList = [])) && gEs wh)) := by rw [gS]
  generalize gS (.mk ax te nm wh) = r at hg ⊢
  by_cases hax : 0 ≤ ax ∧ ax ≤ 3 ∧ 0 ≤ te ∧ te ≤ 3
  · obtain ⟨h1, h2, h3, h4⟩ := hax
    have hW : Hid (∀ (w1 : World) , Below w.heap.size w w1 → Calls Tryz.prog 101 #[.slice Aw wh.length cw, .func (.func 102) #[] #[]] w1 fun e w' => e = .returned (.bool (!gEs wh)) ∧ Below w1.heap.size w1 w') :=
      fun w1 hb => containsAb_any H wh Aw cw w1 ok (hx1.below hb) (by omega) (HT.out.below hb)
    by_cases ht : te = 0
    · subst ht
      have HG : Hid (r = (nameB nm && gEs wh)) := by unfold Hid; rw [hg]; simp [h1, h2]
      clear hg
      go_enter Tryz.func78, Tryz.ntmps78
      go_wp2_with fail
      refine (name_any nm _ (by omega) HT.out.al).mono ?_
      rintro e w2 ⟨rfl, hb2⟩
      obtain ⟨hq, hf⟩ := bcell hb2
      have hB2 := al1 (Nat.le_refl _) hb2
      cases hn : nameB nm
      · go_wp2_with fail
        go_ret
        exact ⟨by rw [HG.out, hn]; rfl, hB2⟩
      · go_wp2_with fail
        refine (hW.out _ hB2).mono ?_
        rintro e w3 ⟨rfl, hb3⟩
        clear hq hf
        go_wp2_with fail
        go_ret
        exact ⟨by rw [HG.out, hn]; simp, hB2.trans (hb3.mono hB2.size)⟩
    · have HG : Hid (r = (decide (nm.toList = []) && gEs wh)) := by unfold Hid; rw [hg]; simp [h1, h2, h3, h4, ht]
      clear hg
      go_enter Tryz.func78, Tryz.ntmps78
      go_wp2_with fail
      · rename_i hh
        have hn : ¬ nm.toList = [] := by intro e; rw [e] at hh; simp at hh
        go_ret
        exact ⟨by rw [HG.out]; simp [hn], bl1 (Nat.le_refl _)⟩
      · rename_i hh _ _ _ _
        have hn : nm.toList = [] := by
          cases hh2 : nm.toList.isEmpty
          · simp [ht, hh2] at hh
          · simpa using hh2
        have HG : Hid (r = gEs wh) := by unfold Hid; rw [HG.out]; simp [hn]
        refine (hW.out _ (bl1 (Nat.le_refl _))).mono ?_
        rintro e w3 ⟨rfl, hb3⟩
        go_wp2_with fail
        go_ret
        exact ⟨by rw [HG.out]; simp, al1 (Nat.le_refl _) hb3⟩
  · have HG : Hid (r = false) := by
      unfold Hid; rw [hg]
      by_cases h1 : 0 ≤ ax <;> by_cases h2 : ax ≤ 3 <;> by_cases h3 : 0 ≤ te <;> by_cases h4 : te ≤ 3 <;> simp [h1, h2, h3, h4]
      exact absurd ⟨h1, h2, h3, h4⟩ hax
    clear hg
    have hd : ax < 0 ∨ (¬ ax < 0 ∧ 3 < ax) ∨ ((¬ ax < 0 ∧ ¬ 3 < ax) ∧ te < 0) ∨ ((¬ ax < 0 ∧ ¬ 3 < ax) ∧ ¬ te < 0 ∧ 3 < te) := by omega
    clear hax
    rcases hd with h1 | ⟨h1, h2⟩ | ⟨⟨h1, h2⟩, h3⟩ | ⟨⟨h1, h2⟩, h3, h4⟩
    all_goals
      go_enter Tryz.func78, Tryz.ntmps78
      go_wp2_with fail
      go_ret
      exact ⟨by rw [HG.out]; rfl, bl1 (Nat.le_refl _)⟩

set_option maxRecDepth 100000 in
set_option maxHeartbeats 4000000 in
theorem goodExpr_any {N : Nat} (H : GoodE N) (HS : GoodS N) (hM : N < 4294967281) : GoodE (N + 1) := by
  intro x cx w ok hx hN hT
  obtain ⟨Aa, ca, As, cs, rfl, hx1, hx2⟩ := hx.rows
  obtain ⟨op, xs, ps, at', cm, tx, nu⟩ := x
  clear hx
  simp only [Expr.op, Expr.args, Expr.path, Expr.attr, Expr.cmp, Expr.text, Expr.num, wtE] at *
  have HT := Lib.hid hT
  clear hT
  have hg : gE (.mk op xs ps at' cm tx nu) = if op = 3 then (decide (xs.length = 0) && (decide (0 < ps.length) && gP ps)) && ((at'.toList.isEmpty || nameB at') && cmpB cm tx nu)
    else ((((decide (ps.length = 0) && at'.toList.isEmpty) && decide (cm = 0)) && tx.toList.isEmpty) && decide (nu = 0)) && ((if op = 0 ∨ op = 1 then decide (2 ≤ xs.length) else decide (op = 2) && decide (xs.length = 1)) && gEs xs) := by rw [gE]
  generalize gE (.mk op xs ps at' cm tx nu) = r at hg ⊢
  by_cases h3 : op = 3
  · subst h3
    rw [if_pos rfl] at hg
    by_cases hxl : xs.length = 0
    · cases hp : (decide (0 < ps.length) && gP ps)
      · have HG : Hid (r = false) := by unfold Hid; rw [hg, hp]; simp
        have HP := Lib.hid hp
        clear hg hp
        go_enter Tryz.func103, Tryz.ntmps103
        go_wp2_with fail
        refine (goodPath_any HS ps As cs _ ok (hx2.below (bl1 (Nat.le_refl _))) (by omega) HT.out.al).mono ?_
        rw [HP.out]
        rintro e w2 ⟨rfl, hb2⟩
        go_wp2_with fail
        go_ret
        exact ⟨by rw [HG.out]; rfl, al1 (Nat.le_refl _) hb2⟩
      · have HP := Lib.hid hp
        have HG : Hid (r = ((at'.toList.isEmpty || nameB at') && cmpB cm tx nu)) := by unfold Hid; rw [hg, hp]; simp [hxl]
        clear hg hp
        go_enter Tryz.func103, Tryz.ntmps103
        go_wp2_with fail
        refine (goodPath_any HS ps As cs _ ok (hx2.below (bl1 (Nat.le_refl _))) (by omega) HT.out.al).mono ?_
        rw [HP.out]
        rintro e w2 ⟨rfl, hb2⟩
        obtain ⟨hq, hf⟩ := bcell hb2
        have hB := al1 (Nat.le_refl _) hb2
        cases hat : at'.toList.isEmpty
        · cases hn : nameB at'
          · have HG : Hid (r = false) := by unfold Hid; rw [HG.out, hat, hn]; rfl
            have HN := Lib.hid hn
            clear hn
            go_wp2_with fail
            refine (name_any at' _ (by omega) (HT.out.below hB)).mono ?_
            rw [HN.out]
            rintro e w3 ⟨rfl, hb3⟩
            go_wp2_with fail
            go_ret
            exact ⟨by rw [HG.out]; rfl, hB.trans (hb3.mono hB.size)⟩
          · have HG : Hid (r = cmpB cm tx nu) := by unfold Hid; rw [HG.out, hat, hn]; rfl
            have HN := Lib.hid hn
            clear hn
            go_wp2_with fail
            refine (name_any at' _ (by omega) (HT.out.below hB)).mono ?_
            rw [HN.out]
            rintro e w3 ⟨rfl, hb3⟩
            obtain ⟨hq3, hf3⟩ := bcell hb3
            have hsz2 := hb2.size
            have hz : w.heap.size < w2.heap.size := by simp at hsz2; omega
            clear hsz2
            have hz3 : w.heap.size < w3.heap.size := by have := hb3.size; omega
            have hB := hB.trans (hb3.mono hB.size)
            by_cases c0 : cm = 0
            · have HC : Hid (r = (tx.toList.isEmpty && (nu == 0))) := by unfold Hid; rw [HG.out]; unfold cmpB; rw [if_pos c0]
              subst c0
              cases htx : tx.toList.isEmpty
              all_goals
                go_wp2_with fail
                go_ret
                exact ⟨by rw [HC.out, htx]; rfl, hB⟩
            by_cases c1 : 1 ≤ cm ∧ cm ≤ 5
            · have HC : Hid (r = (goodTextB tx && (nu == 0))) := by unfold Hid; rw [HG.out]; unfold cmpB; rw [if_neg c0, if_pos c1]
              have hc : cm = 1 ∨ cm = 2 ∨ cm = 3 ∨ cm = 4 ∨ cm = 5 := by omega
              clear c0 c1
              rcases hc with rfl | rfl | rfl | rfl | rfl
              all_goals
                go_wp2_with fail
                refine (goodText_any tx _ (by omega) (HT.out.below hB)).mono ?_
                rintro e w8 ⟨rfl, hb8⟩
                have hB8 := hB.trans (hb8.mono hB.size)
                obtain ⟨hq8, hf8⟩ := bcell hb8
                cases htx : goodTextB tx
                all_goals
                  go_wp2_with fail
                  go_ret
                  exact ⟨by rw [HC.out, htx]; rfl, hB8⟩
            by_cases c2 : 6 ≤ cm ∧ cm ≤ 8
            · have HC : Hid (r = (tx.toList.isEmpty && (decide (0 ≤ nu) && decide (nu ≤ 1000000)))) := by unfold Hid; rw [HG.out]; unfold cmpB; rw [if_neg c0, if_neg c1, if_pos c2]
              have hc : cm = 6 ∨ cm = 7 ∨ cm = 8 := by omega
              clear c0 c1 c2
              rcases hc with rfl | rfl | rfl
              all_goals
                cases htx : tx.toList.isEmpty
                · go_wp2_with fail
                  go_ret
                  exact ⟨by rw [HC.out, htx]; rfl, hB⟩
                · by_cases hn0 : 0 ≤ nu
                  · go_wp2_with fail
                    go_ret
                    exact ⟨by rw [HC.out, htx]; simp [hn0] <;> omega, hB⟩
                  · go_wp2_with fail
                    go_ret
                    exact ⟨by rw [HC.out, htx]; simp [hn0] <;> omega, hB⟩
            have HC : Hid (r = false) := by unfold Hid; rw [HG.out]; unfold cmpB; rw [if_neg c0, if_neg c1, if_neg c2]
            have d1 : ¬ cm = 1 := by omega
            have d2 : ¬ cm = 2 := by omega
            have d3 : ¬ cm = 3 := by omega
            have d4 : ¬ cm = 4 := by omega
            have d5 : ¬ cm = 5 := by omega
            have d6 : ¬ cm = 6 := by omega
            have d7 : ¬ cm = 7 := by omega
            have d8 : ¬ cm = 8 := by omega
            clear c1 c2
            go_wp2_with fail
            go_ret
            exact ⟨by rw [HC.out]; rfl, hB⟩
        · have HG : Hid (r = cmpB cm tx nu) := by unfold Hid; rw [HG.out, hat]; rfl
          have hsz2 := hb2.size
          have hz : w.heap.size < w2.heap.size := by simp at hsz2; omega
          clear hsz2
          by_cases c0 : cm = 0
          · have HC : Hid (r = (tx.toList.isEmpty && (nu == 0))) := by unfold Hid; rw [HG.out]; unfold cmpB; rw [if_pos c0]
            subst c0
            cases htx : tx.toList.isEmpty
            all_goals
              go_wp2_with fail
              go_ret
              exact ⟨by rw [HC.out, htx]; rfl, hB⟩
          by_cases c1 : 1 ≤ cm ∧ cm ≤ 5
          · have HC : Hid (r = (goodTextB tx && (nu == 0))) := by unfold Hid; rw [HG.out]; unfold cmpB; rw [if_neg c0, if_pos c1]
            have hc : cm = 1 ∨ cm = 2 ∨ cm = 3 ∨ cm = 4 ∨ cm = 5 := by omega
            clear c0 c1
            rcases hc with rfl | rfl | rfl | rfl | rfl
            all_goals
              go_wp2_with fail
              refine (goodText_any tx _ (by omega) (HT.out.below hB)).mono ?_
              rintro e w8 ⟨rfl, hb8⟩
              have hB8 := hB.trans (hb8.mono hB.size)
              obtain ⟨hq8, hf8⟩ := bcell hb8
              cases htx : goodTextB tx
              all_goals
                go_wp2_with fail
                go_ret
                exact ⟨by rw [HC.out, htx]; rfl, hB8⟩
          by_cases c2 : 6 ≤ cm ∧ cm ≤ 8
          · have HC : Hid (r = (tx.toList.isEmpty && (decide (0 ≤ nu) && decide (nu ≤ 1000000)))) := by unfold Hid; rw [HG.out]; unfold cmpB; rw [if_neg c0, if_neg c1, if_pos c2]
            have hc : cm = 6 ∨ cm = 7 ∨ cm = 8 := by omega
            clear c0 c1 c2
            rcases hc with rfl | rfl | rfl
            all_goals
              cases htx : tx.toList.isEmpty
              · go_wp2_with fail
                go_ret
                exact ⟨by rw [HC.out, htx]; rfl, hB⟩
              · by_cases hn0 : 0 ≤ nu
                · go_wp2_with fail
                  go_ret
                  exact ⟨by rw [HC.out, htx]; simp [hn0] <;> omega, hB⟩
                · go_wp2_with fail
                  go_ret
                  exact ⟨by rw [HC.out, htx]; simp [hn0] <;> omega, hB⟩
          have HC : Hid (r = false) := by unfold Hid; rw [HG.out]; unfold cmpB; rw [if_neg c0, if_neg c1, if_neg c2]
          have d1 : ¬ cm = 1 := by omega
          have d2 : ¬ cm = 2 := by omega
          have d3 : ¬ cm = 3 := by omega
          have d4 : ¬ cm = 4 := by omega
          have d5 : ¬ cm = 5 := by omega
          have d6 : ¬ cm = 6 := by omega
          have d7 : ¬ cm = 7 := by omega
          have d8 : ¬ cm = 8 := by omega
          clear c1 c2
          go_wp2_with fail
          go_ret
          exact ⟨by rw [HC.out]; rfl, hB⟩
    · have HG : Hid (r = false) := by unfold Hid; rw [hg]; simp [hxl]
      clear hg
      go_enter Tryz.func103, Tryz.ntmps103
      go_wp2_with fail
      go_ret
      exact ⟨by rw [HG.out]; rfl, bl1 (Nat.le_refl _)⟩
  · rw [if_neg h3] at hg
    have dead : ∀ b : Bool, (¬ (ps.length = 0 ∧ at'.toList.isEmpty = true ∧ cm = 0 ∧ tx.toList.isEmpty = true ∧ nu = 0 ∧ (if op = 0 ∨ op = 1 then 2 ≤ xs.length else op = 2 ∧ xs.length = 1))) → r = false := by
      intro _ hn
      rw [hg]
      cases hb : ((((decide (ps.length = 0) && at'.toList.isEmpty) && decide (cm = 0)) && tx.toList.isEmpty) && decide (nu = 0)) && (if op = 0 ∨ op = 1 then decide (2 ≤ xs.length) else decide (op = 2) && decide (xs.length = 1))
      · rw [← Bool.and_assoc, hb]; rfl
      · refine absurd ?_ hn
        split at hb <;> rename_i ho <;> simp [ho] at hb ⊢ <;> simp [hb]
    have dead := fun h => dead true h
    by_cases hl : ps.length = 0
    rotate_left
    · have HC : Hid (r = false) := dead (fun h => hl h.1)
      clear hg dead
      go_enter Tryz.func103, Tryz.ntmps103
      go_wp2_with fail
      go_ret
      exact ⟨by rw [HC.out]; rfl, bl1 (Nat.le_refl _)⟩
    cases hat : at'.toList.isEmpty
    · have HC : Hid (r = false) := dead (fun h => by rw [hat] at h; cases h.2.1)
      clear hg dead
      go_enter Tryz.func103, Tryz.ntmps103
      go_wp2_with fail
      go_ret
      exact ⟨by rw [HC.out]; rfl, bl1 (Nat.le_refl _)⟩
    by_cases hcm : cm = 0
    rotate_left
    · have HC : Hid (r = false) := dead (fun h => hcm h.2.2.1)
      clear hg dead
      go_enter Tryz.func103, Tryz.ntmps103
      go_wp2_with fail
      go_ret
      exact ⟨by rw [HC.out]; rfl, bl1 (Nat.le_refl _)⟩
    cases htx : tx.toList.isEmpty
    · have HC : Hid (r = false) := dead (fun h => by rw [htx] at h; cases h.2.2.2.1)
      clear hg dead
      go_enter Tryz.func103, Tryz.ntmps103
      go_wp2_with fail
      go_ret
      exact ⟨by rw [HC.out]; rfl, bl1 (Nat.le_refl _)⟩
    by_cases hnu : nu = 0
    rotate_left
    · have HC : Hid (r = false) := dead (fun h => hnu h.2.2.2.2.1)
      clear hg dead
      go_enter Tryz.func103, Tryz.ntmps103
      go_wp2_with fail
      go_ret
      exact ⟨by rw [HC.out]; rfl, bl1 (Nat.le_refl _)⟩
    by_cases ho : (if op = 0 ∨ op = 1 then 2 ≤ xs.length else op = 2 ∧ xs.length = 1)
    · have HC : Hid (r = gEs xs) := by
        unfold Hid
        rw [hg]
        split at ho <;> rename_i hh <;> simp [hl, hat, hcm, htx, hnu, hh, ho]
      clear hg dead
      have hop : (op = 0 ∧ 2 ≤ xs.length) ∨ (op = 1 ∧ 2 ≤ xs.length) ∨ (op = 2 ∧ xs.length = 1) := by split at ho <;> omega
      clear ho
      have hW : ∀ o, Calls Tryz.prog 101 #[.slice Aa xs.length ca, .func (.func 127) #[] #[]] (w.alloc o) fun e w' => e = .returned (.bool (!gEs xs)) ∧ Below (w.alloc o).heap.size (w.alloc o) w' :=
        fun o => containsAa_any H xs Aa ca _ ok (hx1.below (bl1 (Nat.le_refl _))) (by omega) HT.out.al
      rcases hop with ⟨rfl, hop⟩ | ⟨rfl, hop⟩ | ⟨rfl, hop⟩
      rotate_left 2
      · rw [hop] at hW
        have HW := Lib.hid hW
        clear hW
        go_enter Tryz.func103, Tryz.ntmps103
        go_wp2_with fail
        refine (HW.out _).mono ?_
        rintro e w2 ⟨rfl, hb2⟩
        go_wp2_with fail
        go_ret
        exact ⟨by rw [HC.out]; simp, al1 (Nat.le_refl _) hb2⟩
      all_goals
        have HW := Lib.hid hW
        clear hW
        go_enter Tryz.func103, Tryz.ntmps103
        go_wp2_with fail
        refine (HW.out _).mono ?_
        rintro e w2 ⟨rfl, hb2⟩
        go_wp2_with fail
        go_ret
        exact ⟨by rw [HC.out]; simp, al1 (Nat.le_refl _) hb2⟩
    · have HC : Hid (r = false) := dead (fun h => ho h.2.2.2.2.2)
      clear hg dead
      have hop : (op = 0 ∧ ¬ 2 ≤ xs.length) ∨ (op = 1 ∧ ¬ 2 ≤ xs.length) ∨ (op = 2 ∧ ¬ xs.length = 1) ∨ (¬ op = 0 ∧ ¬ op = 1 ∧ ¬ op = 2) := by split at ho <;> omega
      clear ho
      rcases hop with ⟨rfl, hop⟩ | ⟨rfl, hop⟩ | ⟨rfl, hop⟩ | ⟨h0, h1, h2⟩
      all_goals
        go_enter Tryz.func103, Tryz.ntmps103
        go_wp2_with fail
        go_ret
        exact ⟨by rw [HC.out]; rfl, bl1 (Nat.le_refl _)⟩

theorem good_all (N : Nat) (hM : N < 4294967281) : GoodE N ∧ GoodS N := by
  induction N with
  | zero =>
    exact ⟨fun x cx w ok hx hN hT => absurd (wtE_pos x) (by omega), fun x cx w ok hx hN hT => absurd (wtS_pos x) (by omega)⟩
  | succ N ih =>
    have ih := ih (by omega)
    have hE := goodExpr_any ih.1 ih.2 (by omega)
    exact ⟨hE, goodStep_any hE hM⟩
/-- ask.goodPath -/
theorem goodPath_calls (p : List Step) (A : Option Addr) (ca : Nat) (w : World) (ok : Nat → Prop) (hx : RowK kS w ok A p) (hM : wtP p < 4294967281) (hT : WOK w) :
    Calls Tryz.prog 43 #[.agg #[.slice A p.length ca]] w fun e w' => e = .returned (.bool (decide (0 < p.length) && gP p)) ∧ Below w.heap.size w w' :=
  goodPath_any (good_all _ hM).2 p A ca w ok hx (Nat.le_refl _) hT
end Go.Proofs.YtbbmmeaicilabaaGreatDoor
