/- gimletref11: rest, restList, Great: is a path heavier than a statement goes through? Conditions: the path lies in memory as a tree, no text of more than 2^48 bytes in it. -/
import Derived.Test.YtbbmmeaicilabaaGreatDoorQGc
import Derived.Test.YtbbmmeaicilabaaGreatDoorQKr
import Derived.Deep.RegionHeld3
set_option linter.unusedVariables false
set_option linter.unusedSimpArgs false
namespace Go.Proofs.YtbbmmeaicilabaaGreatDoor
open Go.RowKit

mutual
def smE : Expr → Prop
  | .mk _ xs ps at' _ tx _ => (at'.size ≤ 281474976710656 ∧ tx.size ≤ 281474976710656) ∧ smEs xs ∧ smP ps
def smEs : List Expr → Prop
  | [] => True
  | x :: r => smE x ∧ smEs r
def smS : Step → Prop
  | .mk _ _ nm wh => nm.size ≤ 281474976710656 ∧ smEs wh
def smP : List Step → Prop
  | [] => True
  | x :: r => smS x ∧ smP r
end
theorem smEs_get (l : List Expr) (k : Nat) (h : k < l.length) (hs : smEs l) : smE l[k] := by
  induction l generalizing k with
  | nil => simp at h
  | cons x r ih =>
    simp only [smEs] at hs
    cases k with
    | zero => exact hs.1
    | succ k => exact ih k (by simpa using h) hs.2
theorem smP_get (l : List Step) (k : Nat) (h : k < l.length) (hs : smP l) : smS l[k] := by
  induction l generalizing k with
  | nil => simp at h
  | cons x r ih =>
    simp only [smP] at hs
    cases k with
    | zero => exact hs.1
    | succ k => exact ih k (by simpa using h) hs.2
theorem smE_parts (x : Expr) (h : smE x) : x.attr.size ≤ 281474976710656 ∧ x.text.size ≤ 281474976710656 ∧ smEs x.args ∧ smP x.path := by
  cases x; simp only [smE] at h; exact ⟨h.1.1, h.1.2, h.2.1, h.2.2⟩
theorem smS_parts (x : Step) (h : smS x) : x.name.size ≤ 281474976710656 ∧ smEs x.wh := by
  cases x; simp only [smS] at h; exact h
def Rest (n : Int) (wt : Nat) (r : Int) : Prop := -1125899906842624 ≤ r ∧ ((r = n - wt ∧ 0 ≤ r) ∨ (r < 0 ∧ n < wt))
def RestL (N : Nat) : Prop := ∀ (xs : List Expr) (A : Option Addr) (ca : Nat) (w : World) (ok : Nat → Prop) (n : Int), RowK kE w ok A xs → ndEs xs < N → smEs xs → -1125899906842624 ≤ n → n ≤ 4000000 → Calls Tryz.prog 52 #[.slice A xs.length ca, .int .i64 n] w fun e w' => ∃ r, e = .returned (.int .i64 r) ∧ Rest n (wtEs xs) r ∧ Below w.heap.size w w'
def RestP (N : Nat) : Prop := ∀ (xs : List Step) (A : Option Addr) (ca : Nat) (w : World) (ok : Nat → Prop) (n : Int), RowK kS w ok A xs → ndP xs < N → smP xs → -1125899906842624 ≤ n → n ≤ 4000000 → Calls Tryz.prog 28 #[.slice A xs.length ca, .int .i64 n] w fun e w' => ∃ r, e = .returned (.int .i64 r) ∧ Rest n (wtP xs) r ∧ Below w.heap.size w w'

set_option maxHeartbeats 4000000 in
theorem rest_any {N : Nat} (H : RestL N) : RestP N := by
  intro xs A ca w ok n hx hw hsm hn0 hn1
  have hlx := hx.len
  have HH := Lib.hid H
  clear H
  go_enter Tryz.func28, Tryz.ntmps28
  go_wp2_with fail
  go_loopw [1, 5] (fun v i wr => ∃ (k : Nat) (m : Int), k ≤ xs.length ∧ i = .int .i64 k ∧ v = .int .i64 m ∧ Hid (Rest n (wtP (xs.take k)) m) ∧ Below w.heap.size w wr) (fun _ i _ => xs.length - (intOf i).toNat)
  case atStart => exact ⟨0, n, Nat.zero_le _, rfl, rfl, (by refine ⟨hn0, ?_⟩; simp only [List.take_zero, wtP]; omega), Below.refl _ _⟩
  case round =>
    obtain ⟨k, m, hk, rfl, rfl, HE, hbr⟩ := hrel
    have hle := wtP_take_le xs k
    obtain ⟨hm0, hm1⟩ := HE.out
    have hmn : m ≤ 4000000 := by omega
    by_cases hlt : k < xs.length
    · by_cases hm : 0 ≤ m
      · have hmb : decide (0 ≤ m) = true := by simp [hm]
        obtain ⟨x, b, off, Aa, c1, HX, rfl, hbw, hR, x0, x1, x2, x3⟩ := (hx.below hbr).atS k hlt
        have hst := wtP_take xs k hlt
        have hle2 := wtP_take_le xs (k + 1)
        rw [HX.out] at hst
        have hws : wtS x = 1 + x.name.size + wtEs x.wh := by cases x; rfl
        have hnd : ndS x = 1 + ndEs x.wh := by cases x; rfl
        have hnk := ndP_get xs k hlt
        have hsk := smP_get xs k hlt hsm
        rw [HX.out] at hnk hsk
        obtain ⟨hsz, hsw⟩ := smS_parts x hsk
        clear hsk
        obtain ⟨Ab, cb, he, hrw⟩ := hR.rows
        obtain ⟨rfl, rfl⟩ : Aa = Ab ∧ c1 = cb := by simpa using he
        clear he hm1
        have hki0 : (0 : Int) ≤ k := by omega
        have hki1 : (k : Int) < xs.length := by omega
        have hw1 : IntKind.i64.wrap (m - 1) = m - 1 := by simp only [IntKind.wrap, IntKind.bits, IntKind.signed]; simp; omega
        have hw2 : IntKind.i64.wrap (m - 1 - x.name.size) = m - 1 - x.name.size := by simp only [IntKind.wrap, IntKind.bits, IntKind.signed]; simp; omega
        go_wp2_with fail
        go_region_held3 (fun w' => w'.cell? ⟨b, off + k * 4, none⟩ = some (.int .i64 x.axis) ∧ w'.cell? ⟨b, off + k * 4 + 1, none⟩ = some (.int .i64 x.test) ∧ w'.cell? ⟨b, off + k * 4 + 2, none⟩ = some (.string x.name) ∧ w'.cell? ⟨b, off + k * 4 + 3, none⟩ = some (.slice Aa x.wh.length c1))
          (first | ((repeat' apply And.intro); all_goals assumption))
          (first | (go_at_call 52; refine (HH.out x.wh Aa c1 _ ok (m - 1 - x.name.size) (hrw.below (by repeat' (first | with_reducible exact Below.refl _ _ | with_reducible assumption | with_reducible refine Below.alloc ?_ ?_ _ | with_reducible refine Below.setCell ?_ ?_ _ | with_reducible refine Below.drew ?_ | with_reducible refine below_dn ?_ | omega | (simp; done) | (simp; omega)))) (by omega) hsw (by omega) (by omega)).mono ?_; rintro e w2 ⟨r, rfl, hr, hb2⟩; have hbk : Below wr.heap.size wr w2 := Below.trans (by repeat' (first | with_reducible exact Below.refl _ _ | with_reducible assumption | with_reducible refine Below.alloc ?_ ?_ _ | with_reducible refine Below.setCell ?_ ?_ _ | with_reducible refine Below.drew ?_ | with_reducible refine below_dn ?_ | omega | (simp; done) | (simp; omega))) (hb2.mono (by simp)); obtain ⟨hqw2, -⟩ := bcell hbk; simp only [← hqw2 _ _ hbw] at x0 x1 x2 x3))
        clear x0 x1 x2 x3 hqw2
        have HR : Hid (Rest n (wtP (xs.take (k + 1))) r) := by
          have hE := HE.out
          unfold Hid Rest at *
          refine ⟨hr.1, ?_⟩
          rcases hr.2 with h | h <;> rcases hE.2 with h' | h' <;> omega
        go_wp2_with fail
        go_roundw
        case rel => exact ⟨k + 1, r, by omega, by go_num, rfl, HR, hbr.trans (hbk.mono hbr.size)⟩
        case measure => simp [intOf]; omega
      · have hmb : decide (0 ≤ m) = false := by simp; omega
        have HR : Rest n (wtP xs) m := ⟨hm0, .inr ⟨by omega, by omega⟩⟩
        have HR' := Lib.hid HR
        clear HR HE hm1
        go_wp2_with fail
        go_ret
        exact ⟨m, rfl, HR'.out, hbr⟩
    · have HR : Rest n (wtP xs) m := by have h := HE.out; rw [List.take_of_length_le (by omega)] at h; exact h
      have HR' := Lib.hid HR
      clear HR HE hm1
      go_wp2_with fail
      go_ret
      exact ⟨m, rfl, HR'.out, hbr⟩

set_option maxHeartbeats 4000000 in
theorem restList_any {N : Nat} (H : RestL N) (H' : RestP N) : RestL (N + 1) := by
  intro xs A ca w ok n hx hw hsm hn0 hn1
  have hlx := hx.len
  have HH := Lib.hid H
  have HP := Lib.hid H'
  clear H H'
  go_enter Tryz.func52, Tryz.ntmps52
  go_wp2_with fail
  go_loopw [1, 5] (fun v i wr => ∃ (k : Nat) (m : Int), k ≤ xs.length ∧ i = .int .i64 k ∧ v = .int .i64 m ∧ Hid (Rest n (wtEs (xs.take k)) m) ∧ Below w.heap.size w wr) (fun _ i _ => xs.length - (intOf i).toNat)
  case atStart => exact ⟨0, n, Nat.zero_le _, rfl, rfl, (by refine ⟨hn0, ?_⟩; simp only [List.take_zero, wtEs]; omega), Below.refl _ _⟩
  case round =>
    obtain ⟨k, m, hk, rfl, rfl, HE, hbr⟩ := hrel
    have hle := wtEs_take_le xs k
    obtain ⟨hm0, hm1⟩ := HE.out
    have hmn : m ≤ 4000000 := by omega
    by_cases hlt : k < xs.length
    · by_cases hm : 0 ≤ m
      · have hmb : decide (0 ≤ m) = true := by simp [hm]
        obtain ⟨x, b, off, Aa, c1, As, c2, HX, rfl, hbw, hR, x0, x1, x2, x3, x4, x5, x6⟩ := (hx.below hbr).atE k hlt
        have hst := wtEs_take xs k hlt
        have hle2 := wtEs_take_le xs (k + 1)
        rw [HX.out] at hst
        have hws : wtE x = 1 + x.attr.size + x.text.size + wtEs x.args + wtP x.path := by cases x; rfl
        have hnd : ndE x = 1 + ndEs x.args + ndP x.path := by cases x; rfl
        have hnk := ndEs_get xs k hlt
        have hsk := smEs_get xs k hlt hsm
        rw [HX.out] at hnk hsk
        obtain ⟨hsz, hsz2, hsa, hsp⟩ := smE_parts x hsk
        clear hsk
        obtain ⟨Ab, cb, Sb, db, he, hrw, hrp⟩ := hR.rows
        obtain ⟨⟨rfl, rfl⟩, rfl, rfl⟩ : (Aa = Ab ∧ c1 = cb) ∧ As = Sb ∧ c2 = db := by simpa using he
        clear he hm1
        have hki0 : (0 : Int) ≤ k := by omega
        have hki1 : (k : Int) < xs.length := by omega
        have hw1 : IntKind.i64.wrap (m - 1) = m - 1 := by simp only [IntKind.wrap, IntKind.bits, IntKind.signed]; simp; omega
        have hw2 : IntKind.i64.wrap (m - 1 - x.attr.size) = m - 1 - x.attr.size := by simp only [IntKind.wrap, IntKind.bits, IntKind.signed]; simp; omega
        have hw3 : IntKind.i64.wrap (m - 1 - x.attr.size - x.text.size) = m - 1 - x.attr.size - x.text.size := by simp only [IntKind.wrap, IntKind.bits, IntKind.signed]; simp; omega
        go_wp2_with fail
        go_region_held3 (fun w' => w'.cell? ⟨b, off + k * 7, none⟩ = some (.int .i64 x.op) ∧ w'.cell? ⟨b, off + k * 7 + 1, none⟩ = some (.slice Aa x.args.length c1) ∧ w'.cell? ⟨b, off + k * 7 + 2, none⟩ = some (.slice As x.path.length c2) ∧ w'.cell? ⟨b, off + k * 7 + 3, none⟩ = some (.string x.attr) ∧ w'.cell? ⟨b, off + k * 7 + 4, none⟩ = some (.int .i64 x.cmp) ∧ w'.cell? ⟨b, off + k * 7 + 5, none⟩ = some (.string x.text) ∧ w'.cell? ⟨b, off + k * 7 + 6, none⟩ = some (.int .i64 x.num))
          (first | ((repeat' apply And.intro); all_goals assumption))
          (first
            | (go_at_call 52; refine (HH.out x.args Aa c1 _ ok (m - 1 - x.attr.size - x.text.size) (hrw.below (by repeat' (first | with_reducible exact Below.refl _ _ | with_reducible assumption | with_reducible refine Below.alloc ?_ ?_ _ | with_reducible refine Below.setCell ?_ ?_ _ | with_reducible refine Below.drew ?_ | with_reducible refine below_dn ?_ | omega | (simp; done) | (simp; omega)))) (by omega) hsa (by omega) (by omega)).mono ?_; rintro e w2 ⟨r, rfl, hr, hb2⟩; have hbk : Below wr.heap.size wr w2 := Below.trans (by repeat' (first | with_reducible exact Below.refl _ _ | with_reducible assumption | with_reducible refine Below.alloc ?_ ?_ _ | with_reducible refine Below.setCell ?_ ?_ _ | with_reducible refine Below.drew ?_ | with_reducible refine below_dn ?_ | omega | (simp; done) | (simp; omega))) (hb2.mono (by simp)); obtain ⟨hqw2, -⟩ := bcell hbk; simp only [← hqw2 _ _ hbw] at x0 x1 x2 x3 x4 x5 x6; clear hqw2)
            | (go_at_call 28; refine (HP.out x.path As c2 _ ok r ((hrp.below hbk).below (by repeat' (first | with_reducible exact Below.refl _ _ | with_reducible assumption | with_reducible refine Below.alloc ?_ ?_ _ | with_reducible refine Below.setCell ?_ ?_ _ | with_reducible refine Below.drew ?_ | with_reducible refine below_dn ?_ | omega | (simp; done) | (simp; omega)))) (by omega) hsp hr.1 (by have := hr.2; omega)).mono ?_; rintro e w3 ⟨r3, rfl, hr3, hb3⟩; have hbk3 : Below w2.heap.size w2 w3 := Below.trans (by repeat' (first | with_reducible exact Below.refl _ _ | with_reducible assumption | with_reducible refine Below.alloc ?_ ?_ _ | with_reducible refine Below.setCell ?_ ?_ _ | with_reducible refine Below.drew ?_ | with_reducible refine below_dn ?_ | omega | (simp; done) | (simp; omega))) (hb3.mono (by simp)); obtain ⟨hqw3, -⟩ := bcell hbk3; simp only [← hqw3 _ _ (Nat.lt_of_lt_of_le hbw hbk.size)] at x0 x1 x2 x3 x4 x5 x6; clear hqw3))
        clear x0 x1 x2 x3 x4 x5 x6
        have HR : Hid (Rest n (wtEs (xs.take (k + 1))) r3) := by
          have hE := HE.out
          unfold Hid Rest at *
          refine ⟨hr3.1, ?_⟩
          rcases hr3.2 with h | h <;> rcases hr.2 with h2 | h2 <;> rcases hE.2 with h' | h' <;> omega
        have hbx := hbr.trans ((hbk.trans (hbk3.mono hbk.size)).mono hbr.size)
        go_wp2_with fail
        go_roundw
        case rel => exact ⟨k + 1, r3, by omega, by go_num, rfl, HR, hbx⟩
        case measure => simp [intOf]; omega
      · have hmb : decide (0 ≤ m) = false := by simp; omega
        have HR : Rest n (wtEs xs) m := ⟨hm0, .inr ⟨by omega, by omega⟩⟩
        have HR' := Lib.hid HR
        clear HR HE hm1
        go_wp2_with fail
        go_ret
        exact ⟨m, rfl, HR'.out, hbr⟩
    · have HR : Rest n (wtEs xs) m := by have h := HE.out; rw [List.take_of_length_le (by omega)] at h; exact h
      have HR' := Lib.hid HR
      clear HR HE hm1
      go_wp2_with fail
      go_ret
      exact ⟨m, rfl, HR'.out, hbr⟩
theorem rest_all (N : Nat) : RestL N ∧ RestP N := by
  induction N with
  | zero => exact ⟨fun xs A ca w ok n hx hw => absurd hw (by omega), fun xs A ca w ok n hx hw => absurd hw (by omega)⟩
  | succ N ih =>
    have h1 := restList_any ih.1 ih.2
    exact ⟨h1, rest_any h1⟩

set_option maxHeartbeats 1000000 in
/-- gimletref11.Great -/
theorem great_any (p : List Step) (A : Option Addr) (ca : Nat) (w : World) (ok : Nat → Prop) (hx : RowK kS w ok A p) (hw : smP p) :
    Calls Tryz.prog 11 #[.agg #[.slice A p.length ca]] w fun e w' => e = .returned (.bool (decide (262144 < wtP p))) ∧ Below w.heap.size w w' := by
  have HP := Lib.hid (rest_all (ndP p + 1)).2
  go_enter Tryz.func11, Tryz.ntmps11
  go_wp2_with fail
  refine (HP.out p A ca _ ok 262144 hx.al (by omega) hw (by omega) (by omega)).mono ?_
  rintro e w2 ⟨r, rfl, hr, hb2⟩
  go_wp2_with fail
  go_ret
  refine ⟨?_, al1 (Nat.le_refl _) hb2⟩
  have h := hr.2
  have e : decide (r < 0) = decide (262144 < wtP p) := by
    rw [Bool.eq_iff_iff, decide_eq_true_eq, decide_eq_true_eq]; omega
  exact congrArg (fun b => Ending.returned (.bool b)) e
end Go.Proofs.YtbbmmeaicilabaaGreatDoor
