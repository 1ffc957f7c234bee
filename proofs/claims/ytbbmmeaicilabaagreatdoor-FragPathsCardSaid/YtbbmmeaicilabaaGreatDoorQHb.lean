/- gimletref02.All, Name; gimletref11.characters, holds: what frag's side answers of names and texts. Conditions: texts under a thousand million bytes. -/
import Derived.Test.YtbbmmeaicilabaaGreatDoorQHa
import Derived.Test.YtbbmmeaicilabaaGreatDoorQGd
import Derived.Lib.ValidLaws
import Derived.Lib.TrimUEq
import Derived.Test.YtbbmmeaicilabaaGreatDoorQGm
set_option linter.unusedVariables false
set_option linter.unusedSimpArgs false
namespace Go.Proofs.YtbbmmeaicilabaaGreatDoor
open Go.RowKit

/-- all characters, the first of class c, the others of class d; the bytes are characters -/
def allGo (s : ByteArray) : Nat → Nat → Nat → Bool
  | 0, _, _ => true
  | f + 1, pos, c => if pos < s.size then ((readF s pos).2 != 0 && isC c (readF s pos).1) && allGo s f (pos + (readF s pos).2) 3 else true
theorem readF_width (s : ByteArray) (i : Nat) (hi : i < s.size) : (readF s i).2 ≤ 4 ∧ i + (readF s i).2 ≤ s.size := by
  rw [read_decode s i hi]
  have h4 : (Utf8.decode s i).2 ≤ 4 ∧ (Utf8.decode s i).2 ≤ s.size - i := by
    rw [Lib.decode_at]; unfold Lib.decodeN
    repeat' split
    all_goals (simp only; omega)
  unfold goodD
  split
  · simp; omega
  · exact ⟨h4.1, by omega⟩

set_option maxHeartbeats 4000000 in
theorem rAll_any (s : ByteArray) (w : World) (hs : s.size ≤ 1000000000) :
    Calls Tryz.prog 109 #[.string s, .int .i64 2, .int .i64 3] w fun e w' => e = .returned (.bool (allGo s s.size 0 2)) ∧ Below w.heap.size w w' := by
  go_enter Tryz.func109, Tryz.ntmps109
  go_wp2_with fail
  go_loopw [7, 8] (fun c p wr => ∃ (pos fuel k : Nat), c = .int .i64 k ∧ (k = 2 ∨ k = 3) ∧ p = .int .i64 pos ∧ pos ≤ s.size ∧ Below w.heap.size w wr ∧ Hid (allGo s s.size 0 2 = allGo s fuel pos k) ∧ s.size ≤ pos + fuel) (fun _ p _ => s.size - (intOf p).toNat)
  case atStart => exact ⟨0, s.size, 2, rfl, .inl rfl, rfl, Nat.zero_le _, Below.refl _ _, rfl, by omega⟩
  case round =>
    obtain ⟨pos, fuel, k, rfl, hk, rfl, hpz, hbr, HE, hfu⟩ := hrel
    by_cases hp : pos < s.size
    · obtain ⟨f, rfl⟩ : ∃ f, fuel = f + 1 := ⟨fuel - 1, by omega⟩
      have hE2 := HE.out
      rw [allGo, if_pos hp] at hE2
      have hwd := readF_width s pos hp
      go_wp2_with fail
      refine (rRead_any s pos hpz hs _).mono ?_
      rintro e w3 ⟨rfl, hb3⟩
      have hbR := hbr.trans (hb3.mono hbr.size)
      generalize (readF s pos).1 = r1 at *
      generalize (readF s pos).2 = r2 at *
      by_cases hz : r2 = 0
      · subst hz
        have HA : Hid (allGo s s.size 0 2 = false) := by unfold Hid; rw [hE2]; simp
        clear hE2 HE
        go_wp2_with fail
        go_ret
        exact ⟨by rw [HA.out]; rfl, hbR⟩
      · have hzi : ((r2 : Int) == 0) = false := by rw [beq_eq_false_iff_ne]; omega
        have hzn : (r2 != 0) = true := by simp [hz]
        rw [hzn, Bool.true_and] at hE2
        have HE2 := Lib.hid hE2
        clear hE2 HE hzn
        go_wp2_with fail
        refine (rIs_any k hk r1 _).mono ?_
        rintro e w4 ⟨rfl, hb4⟩
        have hbR4 := hbR.trans (hb4.mono hbR.size)
        cases hc : isC k r1
        · have HA : Hid (allGo s s.size 0 2 = false) := by unfold Hid; rw [HE2.out, hc]; rfl
          clear hc
          go_wp2_with fail
          go_ret
          exact ⟨by rw [HA.out]; rfl, hbR4⟩
        · have HA : Hid (allGo s s.size 0 2 = allGo s f (pos + r2) 3) := by unfold Hid; rw [HE2.out, hc]; rfl
          clear hc
          go_wp2_with fail
          go_roundw
          case rel => exact ⟨pos + r2, f, 3, rfl, .inr rfl, by go_num, by omega, hbR4, HA, by omega⟩
          case measure => simp [intOf]; omega
    · have HA : Hid (allGo s s.size 0 2 = true) := by
        unfold Hid; rw [HE.out]
        cases fuel
        · rfl
        · rw [allGo, if_neg hp]
      clear HE
      go_wp2_with fail
      go_ret
      exact ⟨by rw [HA.out]; rfl, hbr⟩

set_option maxHeartbeats 4000000 in
theorem rName_any (s : ByteArray) (w : World) (hs : s.size ≤ 1000000000) :
    Calls Tryz.prog 82 #[.string s] w fun e w' => e = .returned (.bool (!decide (s.toList = []) && allGo s s.size 0 2)) ∧ Below w.heap.size w w' := by
  go_enter Tryz.func82, Tryz.ntmps82
  go_wp2_with fail
  · go_ret
    exact ⟨by simp [*], Below.refl _ _⟩
  · refine (rAll_any s _ hs).mono ?_
    rintro e w1 ⟨rfl, hb1⟩
    go_wp2_with fail
    go_ret
    exact ⟨by simp [*], hb1⟩
end Go.Proofs.YtbbmmeaicilabaaGreatDoor

/- What gimletref02.Name answers is what chars.Name answers. Conditions: none. -/
namespace Go.Proofs.YtbbmmeaicilabaaGreatDoor
open Go.RowKit
theorem allGo_eq (s : ByteArray) (f : Nat) : ∀ (pos c : Nat), s.size ≤ pos + f → allGo s f pos c = (nameGo s f pos c && Lib.validD (s.data.toList.drop pos)) := by
  have hsz : s.data.toList.length = s.size := by rw [Array.length_toList]; rfl
  induction f with
  | zero =>
    intro pos c h
    rw [allGo, nameGo, List.drop_of_length_le (by omega), Lib.validD_nil]; rfl
  | succ f ih =>
    intro pos c h
    rw [allGo, nameGo]
    by_cases hp : pos < s.size
    · rw [if_pos hp, if_pos hp]
      have hne : s.data.toList.drop pos ≠ [] := by
        intro hh; have := congrArg List.length hh; rw [List.length_drop] at this; simp at this; omega
      have hst := Lib.validD_step (s.data.toList.drop pos) hne
      rw [Lib.decodeL_drop, List.drop_drop] at hst
      have hwp := Lib.width_pos s pos
      rw [hst, read_decode s pos hp]
      unfold goodD
      by_cases hbad : (Utf8.decode s pos).1 = 65533 ∧ (Utf8.decode s pos).2 = 1
      · rw [if_pos hbad, if_pos hbad]; simp
      · rw [if_neg hbad, if_neg hbad]
        have hz : ((Utf8.decode s pos).2 != 0) = true := by simp; omega
        rw [hz, Bool.true_and, ih _ _ (by omega), Bool.and_assoc]
    · rw [if_neg hp, if_neg hp, List.drop_of_length_le (by omega), Lib.validD_nil]; rfl
theorem name_eq (s : ByteArray) : (!decide (s.toList = []) && allGo s s.size 0 2) = nameB s := by
  rw [allGo_eq s s.size 0 2 (by omega)]
  unfold nameB
  rw [List.drop_zero]
  cases (!decide (s.toList = [])) <;> cases nameGo s s.size 0 2 <;> cases Lib.validD s.data.toList <;> rfl
/-- gimletref02.Name, in the words of chars.Name -/
theorem refName_any (s : ByteArray) (w : World) (hs : s.size ≤ 1000000000) :
    Calls Tryz.prog 82 #[.string s] w fun e w' => e = .returned (.bool (nameB s)) ∧ Below w.heap.size w w' := by
  rw [← name_eq s]; exact rName_any s w hs
end Go.Proofs.YtbbmmeaicilabaaGreatDoor

/- gimletref11: characters, holds, asks, bracketed. Conditions: texts under a thousand million bytes. -/
namespace Go.Proofs.YtbbmmeaicilabaaGreatDoor
open Go.RowKit

set_option maxHeartbeats 4000000 in
theorem characters_any (s : ByteArray) (w : World) (hs : s.size ≤ 1000000000) :
    Calls Tryz.prog 135 #[.string s] w fun e w' => e = .returned (.bool (Lib.validD s.data.toList)) ∧ Below w.heap.size w w' := by
  have hsz : s.data.toList.length = s.size := by rw [Array.length_toList]; rfl
  have HV : Hid (Lib.validD s.data.toList = Lib.validD (s.data.toList.drop 0)) := by unfold Hid; rw [List.drop_zero]
  generalize Lib.validD s.data.toList = r at HV ⊢
  go_enter Tryz.func135, Tryz.ntmps135
  go_wp2_with fail
  go_loopw [3] (fun p wr => ∃ pos : Nat, p = .int .i64 pos ∧ pos ≤ s.size ∧ Below w.heap.size w wr ∧ Hid (r = Lib.validD (s.data.toList.drop pos))) (fun p _ => s.size - (intOf p).toNat)
  case atStart => exact ⟨0, rfl, Nat.zero_le _, Below.refl _ _, HV⟩
  case round =>
    obtain ⟨pos, rfl, hpz, hbr, HE⟩ := hrel
    by_cases hp : pos < s.size
    · have hne : s.data.toList.drop pos ≠ [] := by
        intro hh; have := congrArg List.length hh; rw [List.length_drop] at this; simp at this; omega
      have hst := Lib.validD_step (s.data.toList.drop pos) hne
      rw [Lib.decodeL_drop, List.drop_drop] at hst
      have hwp := Lib.width_pos s pos
      have hwd := readF_width s pos hp
      have hrd := read_decode s pos hp
      have hE2 : r = if (readF s pos).2 = 0 then false else Lib.validD (s.data.toList.drop (pos + (readF s pos).2)) := by
        rw [HE.out, hst, hrd]
        unfold goodD
        by_cases hbad : (Utf8.decode s pos).1 = 65533 ∧ (Utf8.decode s pos).2 = 1
        · rw [if_pos hbad, if_pos hbad]; rfl
        · rw [if_neg hbad, if_neg hbad, if_neg (by omega)]
      have HE2 := Lib.hid hE2
      clear hE2 hrd hst HE
      go_wp2_with fail
      refine (rRead_any s pos hpz hs _).mono ?_
      rintro e w3 ⟨rfl, hb3⟩
      have hbR := hbr.trans (hb3.mono hbr.size)
      generalize (readF s pos).1 = r1 at *
      generalize (readF s pos).2 = r2 at *
      by_cases hz : r2 = 0
      · subst hz
        have HA : Hid (r = false) := by unfold Hid; rw [HE2.out, if_pos rfl]
        clear HE2
        go_wp2_with fail
        go_ret
        exact ⟨by rw [HA.out]; rfl, hbR⟩
      · have hzi : ((r2 : Int) == 0) = false := by rw [beq_eq_false_iff_ne]; omega
        have HA : Hid (r = Lib.validD (s.data.toList.drop (pos + r2))) := by unfold Hid; rw [HE2.out, if_neg hz]
        clear HE2
        go_wp2_with fail
        go_roundw
        case rel => exact ⟨pos + r2, by go_num, by omega, hbR, HA⟩
        case measure => simp [intOf]; omega
    · have HA : Hid (r = true) := by unfold Hid; rw [HE.out, List.drop_of_length_le (by omega), Lib.validD_nil]
      clear HE
      go_wp2_with fail
      go_ret
      exact ⟨by rw [HA.out]; rfl, hbr⟩

set_option maxHeartbeats 4000000 in
theorem holds_any (s : ByteArray) (c : Nat) (hc : c < 256) (w : World) (hs : s.size ≤ 1000000000) :
    Calls Tryz.prog 136 #[.string s, .int .u8 c] w fun e w' => e = .returned (.bool (s.data.toList.any (fun b => b.toNat == c))) ∧ Below w.heap.size w w' := by
  have hsz : s.data.toList.length = s.size := by rw [Array.length_toList]; rfl
  have HV : Hid (s.data.toList.any (fun b => b.toNat == c) = (s.data.toList.drop 0).any (fun b => b.toNat == c)) := by unfold Hid; rw [List.drop_zero]
  generalize s.data.toList.any (fun b => b.toNat == c) = r at HV ⊢
  go_enter Tryz.func136, Tryz.ntmps136
  go_wp2_with fail
  go_loopw [5] (fun p wr => ∃ pos : Nat, p = .int .i64 pos ∧ pos ≤ s.size ∧ Below w.heap.size w wr ∧ Hid (r = (s.data.toList.drop pos).any (fun b => b.toNat == c))) (fun p _ => s.size - (intOf p).toNat)
  case atStart => exact ⟨0, rfl, Nat.zero_le _, Below.refl _ _, HV⟩
  case round =>
    obtain ⟨pos, rfl, hpz, hbr, HE⟩ := hrel
    by_cases hp : pos < s.size
    · have hd : (s.data.toList.drop pos).any (fun b => b.toNat == c) = (((s[pos]'hp).toNat == c) || (s.data.toList.drop (pos + 1)).any (fun b => b.toNat == c)) := by
        rw [List.drop_eq_getElem_cons (by omega), List.any_cons]
        rfl
      have HD := Lib.hid hd
      clear hd
      by_cases hq : (s[pos]'hp).toNat = c
      · have hqi : (((s[pos]'hp).toNat : Int) == (c : Int)) = true := by rw [beq_iff_eq]; omega
        have HA : Hid (r = true) := by unfold Hid; rw [HE.out, HD.out, beq_iff_eq.2 hq]; rfl
        clear HE HD hq
        go_wp2_with fail
        go_ret
        exact ⟨by rw [HA.out]; rfl, hbr⟩
      · have hqi : (((s[pos]'hp).toNat : Int) == (c : Int)) = false := by rw [beq_eq_false_iff_ne]; omega
        have HA : Hid (r = (s.data.toList.drop (pos + 1)).any (fun b => b.toNat == c)) := by unfold Hid; rw [HE.out, HD.out, beq_eq_false_iff_ne.2 hq]; rfl
        clear HE HD hq
        go_wp2_with fail
        go_roundw
        case rel => exact ⟨pos + 1, by go_num, by omega, hbr, HA⟩
        case measure => simp [intOf]; omega
    · have HA : Hid (r = false) := by unfold Hid; rw [HE.out, List.drop_of_length_le (by omega)]; rfl
      clear HE
      go_wp2_with fail
      go_ret
      exact ⟨by rw [HA.out]; rfl, hbr⟩

theorem asks_any (c : Int) (w : World) : Calls Tryz.prog 111 #[.int .i64 c] w fun e w' => e = .returned (.bool (decide (3 ≤ c))) ∧ w' = w := by
  go_enter Tryz.func111, Tryz.ntmps111
  go_wp2_with fail
  go_ret
  exact ⟨rfl, rfl⟩
theorem rbracketed_any (a b : Int) (w : World) :
    Calls Tryz.prog 110 #[.int .i64 a, .int .i64 b] w fun e w' => e = .returned (.bool ((decide (a = 1) && decide (b = 1)) || (decide (a = 0) && (decide (b = 0) || decide (b = 1))))) ∧ w' = w := by
  go_enter Tryz.func110, Tryz.ntmps110
  go_wp2_with fail
  all_goals
    go_ret
    refine ⟨congrArg (fun b => Ending.returned (.bool b)) ?_, rfl⟩
    rw [Bool.eq_iff_iff]
    try simp [*]
end Go.Proofs.YtbbmmeaicilabaaGreatDoor

/- gimletref11.isCompare: what ask's side says of a comparison. Conditions: the expression lies in memory as a tree; its text is under a thousand million bytes. -/
namespace Go.Proofs.YtbbmmeaicilabaaGreatDoor
open Go.RowKit

theorem contains_any (c : UInt8) (l : List UInt8) : Lib.contains l [c] = l.any (fun b => b.toNat == c.toNat) := by
  unfold Lib.contains
  induction l with
  | nil => rfl
  | cons b l ih =>
    rw [List.any_cons, ← ih]
    have hg := Lib.index_ge l [c]
    have hp : [c].isPrefixOf (b :: l) = (c == b) := by simp [List.isPrefixOf]
    rw [Lib.index, hp]
    by_cases hcb : c = b
    · subst hcb; simp
    · have h1 : (c == b) = false := by simp [hcb]
      have h2 : (b.toNat == c.toNat) = false := by
        rw [beq_eq_false_iff_ne]; intro h; exact hcb (UInt8.toNat_inj.1 h.symm)
      rw [h1, h2, Bool.false_or]
      simp only [Bool.false_eq_true, if_false]
      by_cases hi : Lib.index l [c] = -1
      · rw [hi]; rfl
      · have h3 : (Lib.index l [c] == -1) = false := by rw [beq_eq_false_iff_ne]; exact hi
        rw [h3]
        simp only [Bool.false_eq_true, if_false]
        rw [Bool.eq_iff_iff, decide_eq_true_eq, decide_eq_true_eq]; omega

set_option maxHeartbeats 8000000 in
theorem isCompare_any (x : Expr) (cx : List Value) (w : World) (ok : Nat → Prop) (hx : RE w ok x cx) (hs : x.text.size ≤ 1000000000) :
    Calls Tryz.prog 112 #[.agg cx.toArray] w fun e w' => e = .returned (.bool (cmpB x.cmp x.text x.num)) ∧ Below w.heap.size w w' := by
  obtain ⟨Aa, ca, As, cp, rfl, -, -⟩ := hx.rows
  obtain ⟨op, xs, ps, at', cm, tx, nu⟩ := x
  clear hx
  simp only [Expr.op, Expr.args, Expr.path, Expr.attr, Expr.cmp, Expr.text, Expr.num] at *
  by_cases c0 : cm = 0
  · subst c0
    go_enter Tryz.func112, Tryz.ntmps112
    go_wp2_with fail
    all_goals
      go_ret
      exact ⟨by simp [cmpB, *], bl1 (Nat.le_refl _)⟩
  have e0 : (cm == 0) = false := by rw [beq_eq_false_iff_ne]; exact c0
  by_cases c1 : 1 ≤ cm ∧ cm ≤ 5
  · have hcb : cmpB cm tx nu = (goodTextB tx && (nu == 0)) := by unfold cmpB; rw [if_neg c0, if_pos c1]
    have hgt : goodTextB tx = (Lib.validD tx.data.toList && !((tx.data.toList.any fun b => b.toNat == 34) && (tx.data.toList.any fun b => b.toNat == 39))) := by
      unfold goodTextB; rw [contains_any, contains_any, Bool.and_comm (tx.data.toList.any _)]; rfl
    rw [hcb, hgt]
    obtain ⟨d1, d2⟩ := c1
    clear hcb hgt
    go_enter Tryz.func112, Tryz.ntmps112
    by_cases hnu : nu = 0
    · subst hnu
      go_wp2_with fail
      refine (characters_any tx _ hs).mono ?_
      rintro e w1 ⟨rfl, hb1⟩
      have hB1 := al1 (Nat.le_refl _) hb1
      have B1 := (Blk.new w _ _).below hb1
      have q0 := (B1).cell 0
      have q1 := (B1).cell 1
      have q2 := (B1).cell 2
      have q3 := (B1).cell 3
      have q4 := (B1).cell 4
      have q5 := (B1).cell 5
      have q6 := (B1).cell 6
      simp at q0 q1 q2 q3 q4 q5 q6
      have qf := fun o => (B1).frozen o
      cases hv : Lib.validD tx.data.toList
      · have HV := Lib.hid hv
        clear hv
        go_wp2_with fail
        go_ret
        exact ⟨by rw [HV.out]; rfl, hB1⟩
      · have HV := Lib.hid hv
        clear hv
        go_wp2_with fail
        refine (holds_any tx 34 (by decide) _ hs).mono ?_
        rintro e w2 ⟨rfl, hb2⟩
        have hB2 := hB1.trans (hb2.mono hB1.size)
        have B2 := B1.below hb2
        clear q0 q1 q2 q3 q4 q5 q6
        have q0 := (B2).cell 0
        have q1 := (B2).cell 1
        have q2 := (B2).cell 2
        have q3 := (B2).cell 3
        have q4 := (B2).cell 4
        have q5 := (B2).cell 5
        have q6 := (B2).cell 6
        simp at q0 q1 q2 q3 q4 q5 q6
        have qf := fun o => (B2).frozen o
        cases hh : tx.data.toList.any (fun b => b.toNat == 34)
        · have HH := Lib.hid hh
          clear hh
          go_wp2_with fail
          go_ret
          exact ⟨by rw [HV.out, HH.out]; rfl, hB2⟩
        · have HH := Lib.hid hh
          clear hh
          go_wp2_with fail
          refine (holds_any tx 39 (by decide) _ hs).mono ?_
          rintro e w3 ⟨rfl, hb3⟩
          go_wp2_with fail
          go_ret
          exact ⟨by rw [HV.out, HH.out]; simp, hB2.trans (hb3.mono hB2.size)⟩
    · have hnb : (nu == 0) = false := by rw [beq_eq_false_iff_ne]; exact hnu
      go_wp2_with fail
      go_ret
      exact ⟨by simp [hnb], bl1 (Nat.le_refl _)⟩
  · by_cases c2 : 6 ≤ cm ∧ cm ≤ 8
    · have hcb : cmpB cm tx nu = (tx.toList.isEmpty && (decide (0 ≤ nu) && decide (nu ≤ 1000000))) := by unfold cmpB; rw [if_neg c0, if_neg c1, if_pos c2]
      obtain ⟨d1, d2⟩ := c2
      have d3 : ¬ cm ≤ 5 := by omega
      have d4 : 1 ≤ cm := by omega
      rw [hcb]
      clear hcb c1
      go_enter Tryz.func112, Tryz.ntmps112
      go_wp2_with fail
      all_goals
        go_ret
        exact ⟨by first | (simp [*]; done) | (simp [*]; omega), bl1 (Nat.le_refl _)⟩
    · have hcb : cmpB cm tx nu = false := by unfold cmpB; rw [if_neg c0, if_neg c1, if_neg c2]
      rw [hcb]
      have c1' := Lib.hid c1
      have c2' := Lib.hid c2
      clear hcb c1 c2
      go_enter Tryz.func112, Tryz.ntmps112
      go_wp2_with fail
      all_goals first
        | (exfalso; have h1 := c1'.out; have h2 := c2'.out; omega)
        | (go_ret; exact ⟨rfl, bl1 (Nat.le_refl _)⟩)
end Go.Proofs.YtbbmmeaicilabaaGreatDoor
