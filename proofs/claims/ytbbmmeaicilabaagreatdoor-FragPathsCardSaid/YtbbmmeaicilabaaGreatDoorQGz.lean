/- gimletref02.Span of one to four bytes. Conditions: the bytes lie in memory. -/
import Derived.Test.YtbbmmeaicilabaaGreatDoorQHp
import Derived.Lib.MinMax
set_option linter.unusedVariables false
set_option linter.unusedSimpArgs false
namespace Go.Proofs.YtbbmmeaicilabaaGreatDoor
open Go.RowKit

set_option maxRecDepth 10000 in
set_option maxHeartbeats 40000000 in
theorem rSpan_any (b : UInt8) (t : List UInt8) (ht : t.length ≤ 3) (g cap : Nat) (hcap : t.length + 1 ≤ cap) (hcap2 : cap ≤ 9223372036854775807) (w : World) (hc0 : w.cell? ⟨g, 0, none⟩ = some (.int .u8 (b.toNat : Int))) (hct : ∀ j (hj : j < t.length), w.cell? ⟨g, 1 + j, none⟩ = some (.int .u8 (t[j].toNat : Int))) :
    Calls Tryz.prog 150 #[.slice (some ⟨g, 0, none⟩) (t.length + 1) cap] w fun e w' => e = .returned (.tuple #[.int .i64 (spanF b t).1, .int .i64 (spanF b t).2]) ∧ w' = w := by
  have hb256 : b.toNat < 256 := b.toNat_lt
  have hhb := head_bound b.toNat hb256
  have HCT := Lib.hid hct
  obtain ⟨r, hr⟩ : ∃ r, r = spanF b t := ⟨_, rfl⟩
  rw [← hr]
  have HR := Lib.hid hr
  clear hct hr
  generalize hx : b.toNat = x at *
  have HXB := Lib.hid hx
  clear hx
  have hl0 : ((t.length : Int) + 1 == 0) = false := by rw [beq_eq_false_iff_ne]; omega
  have hl4 : decide (4 < (t.length : Int) + 1) = false := by rw [decide_eq_false_iff_not]; omega
  have hcases : x < 128 ∨ (∃ v, x = v + 192 ∧ v < 32) ∨ (∃ v, x = v + 224 ∧ v < 16) ∨ (∃ v, x = v + 240 ∧ v < 8) ∨ ((128 ≤ x ∧ x < 192) ∨ 248 ≤ x) := by
    by_cases h1 : x < 128
    · exact .inl h1
    by_cases h2 : x < 192
    · exact .inr (.inr (.inr (.inr (.inl (by omega)))))
    by_cases h3 : x < 224
    · exact .inr (.inl ⟨x - 192, by omega, by omega⟩)
    by_cases h4 : x < 240
    · exact .inr (.inr (.inl ⟨x - 224, by omega, by omega⟩))
    by_cases h5 : x < 248
    · exact .inr (.inr (.inr (.inl ⟨x - 240, by omega, by omega⟩)))
    · exact .inr (.inr (.inr (.inr (.inr (by omega)))))
  go_enter Tryz.func150, Tryz.ntmps150
  rcases hcases with h1 | ⟨v, rfl, h1⟩ | ⟨v, rfl, h1⟩ | ⟨v, rfl, h1⟩ | h1
  · have eN : headN x = 1 := by unfold headN; (repeat' split) <;> omega
    have eV : headV x = x := by unfold headV; (repeat' split) <;> omega
    have eL : headL x = 0 := by unfold headL; (repeat' split) <;> omega
    have HR2 : Hid (r = if 1 < t.length + 1 then (1, 0) else match contF t x with | none => (1, 0) | some f => (((max (loK (1 - (t.length + 1)) f) 0 : Nat) : Int), ((min (hiK (1 - (t.length + 1)) f) 1114111 : Nat) : Int))) := by
      unfold Hid; rw [HR.out]; unfold spanF; rw [HXB.out, eN, eV, eL]; try rfl
    clear HR eN eV eL hhb
    have hx1 : (0 : Int) ≤ (x : Nat) := by omega
    by_cases hn : 1 < t.length + 1
    · have hr : r = (1, 0) := by rw [HR2.out, if_pos hn]
      subst hr
      have hnb : decide ((1 : Int) < (t.length : Int) + 1) = true := by rw [decide_eq_true_eq]; omega
      first | (exfalso; omega) | skip
      all_goals
        go_wp2_with fail
        go_ret2
        exact ⟨rfl, rfl⟩
    · have hnb : decide ((1 : Int) < (t.length : Int) + 1) = false := by rw [decide_eq_false_iff_not]; omega
      have HR3 : Hid (r = match contF t x with | none => (1, 0) | some f => (((max (loK (1 - (t.length + 1)) f) 0 : Nat) : Int), ((min (hiK (1 - (t.length + 1)) f) 1114111 : Nat) : Int))) := by unfold Hid; rw [HR2.out, if_neg hn]
      clear HR2
      go_upto_region 15 with fail
      go_cut [59, 60, 61] (fun a b c wx => (∃ A c', a = .slice A t.length c' ∧ (0 < t.length → A = some ⟨g, 1, none⟩)) ∧ b = .int .i64 t.length ∧ c = .int .i64 0 ∧ w = wx)
      case first =>
        by_cases hc1 : cap = 1
        · subst hc1
          have ht0 : t.length = 0 := by omega
          go_wp2_with fail
          go_meet
          case rel => exact ⟨⟨some ⟨g, 0, none⟩, 0, by rw [ht0], fun h => absurd h (by omega)⟩, by rw [ht0]; rfl, rfl, rfl⟩
        · go_wp2_with fail
          go_meet
          case rel => exact ⟨⟨_, _, rfl, fun h => rfl⟩, by first | rfl | go_num, rfl, rfl⟩
      case rest =>
        obtain ⟨⟨A9, c9, rfl, hA9⟩, rfl, rfl, rfl⟩ := hcut
        go_wp2_with fail
        go_loopw [5, 61] (fun v5 i wr => ∃ k f : Nat, k ≤ t.length ∧ i = .int .i64 k ∧ v5 = .int .i64 f ∧ Hid (contF (t.take k) x = some f) ∧ w = wr) (fun _ i _ => t.length - (intOf i).toNat)
        case atStart => exact ⟨0, x, Nat.zero_le _, rfl, rfl, rfl, rfl⟩
        case round =>
          obtain ⟨k, f, hk, rfl, rfl, HE, rfl⟩ := hrel
          have hfb : f + 1 ≤ 33554432 := by
            have h2 := contF_bound _ _ _ HE.out
            rw [List.length_take_of_le hk] at h2
            have h3 := pow64 k (by omega)
            have h4 : (x + 1) * 64 ^ k ≤ 128 * 262144 := Nat.mul_le_mul (by omega) h3
            omega
          by_cases hlt : k < t.length
          · first | (exfalso; omega) | skip
            all_goals
              obtain rfl := hA9 (by omega)
              have hc := HCT.out k hlt
              have hft := contF_take t x k hlt f HE.out
              have hy := t[k].toNat_lt
              generalize t[k].toNat = y at hc hft hy
              by_cases hy1 : y < 128 ∨ 191 < y
              · rw [if_pos hy1] at hft
                have hr : r = (1, 0) := by rw [HR3.out, contF_none t x (k + 1) hft]
                subst hr
                clear hft
                rcases hy1 with hy1 | hy1
                · have hy3 : (y : Int) < 128 := by omega
                  go_wp2_with fail
                  go_ret2
                  exact ⟨rfl, rfl⟩
                · have hy2 : ¬ (y : Int) < 128 := by omega
                  have hy3 : (191 : Int) < y := by omega
                  go_wp2_with fail
                  go_ret2
                  exact ⟨rfl, rfl⟩
              · rw [if_neg hy1] at hft
                have HFT := Lib.hid hft
                clear hft
                obtain ⟨z, rfl⟩ : ∃ z, y = z + 128 := ⟨y - 128, by omega⟩
                have hz : z < 64 := by omega
                clear hy1 hy
                have hz1 : ¬ ((z : Int) + 128 < 128) := by omega
                have hz2 : ¬ (191 < (z : Int) + 128) := by omega
                go_wp2_with fail
                go_roundw
                case rel => exact ⟨k + 1, f * 64 + z, by omega, by go_num, by go_num, by unfold Hid; rw [HFT.out]; congr 1, by first | rfl | trivial⟩
                case measure => simp [intOf]; omega
          · have hck : contF t x = some f := by have h := HE.out; rw [List.take_of_length_le (by omega)] at h; exact h
            have HR4 : Hid (r = (((max (loK (1 - (t.length + 1)) f) 0 : Nat) : Int), ((min (hiK (1 - (t.length + 1)) f) 1114111 : Nat) : Int))) := by unfold Hid; rw [HR3.out, hck]
            clear hck
            obtain ⟨m, hm⟩ : ∃ m, m = 1 - (t.length + 1) := ⟨_, rfl⟩
            rw [← hm] at HR4
            have hmi : (1 : Int) - ((t.length : Int) + 1) = m := by omega
            have hm3 : m ≤ 3 := by omega
            go_wp2_with fail
            go_loopw [5, 10, 83] (fun v5 v10 i wr => ∃ k : Nat, k ≤ m ∧ i = .int .i64 k ∧ v5 = .int .i64 (loK k f : Nat) ∧ v10 = .int .i64 (hiK k f : Nat) ∧ w = wr) (fun _ _ i _ => m - (intOf i).toNat)
            case atStart => exact ⟨0, Nat.zero_le _, rfl, rfl, rfl, rfl⟩
            case round =>
              obtain ⟨k, hk, rfl, rfl, rfl, rfl⟩ := hrel
              have hlh := lohi k f
              have hp := pow64 k (by omega)
              have hbd : hiK k f < 8796093022208 := by
                have := Nat.mul_le_mul hfb hp
                omega
              by_cases hlt : k < m
              · have hkm : decide ((k : Int) < (m : Int)) = true := by rw [decide_eq_true_eq]; omega
                first | (exfalso; omega) | skip
                all_goals
                  go_wp2_with fail
                  go_roundw
                  case rel => exact ⟨k + 1, by omega, by go_num, by rw [loK]; go_num, by rw [hiK]; go_num, by first | rfl | trivial⟩
                  case measure => simp [intOf]; omega
              · obtain rfl : k = m := by omega
                go_upto_region 28 with fail
                have hr := HR4.out
                clear HR4 hlh hp hbd hfb HE
                generalize loK k f = la at *
                generalize hiK k f = lb at *
                subst hr
                go_wp2_with fail
                go_ret2
                exact ⟨by simp; omega, rfl⟩
  · have eN : headN (v + 192) = 2 := by unfold headN; (repeat' split) <;> omega
    have eV : headV (v + 192) = v := by unfold headV; (repeat' split) <;> omega
    have eL : headL (v + 192) = 128 := by unfold headL; (repeat' split) <;> omega
    have HR2 : Hid (r = if 2 < t.length + 1 then (1, 0) else match contF t v with | none => (1, 0) | some f => (((max (loK (2 - (t.length + 1)) f) 128 : Nat) : Int), ((min (hiK (2 - (t.length + 1)) f) 1114111 : Nat) : Int))) := by
      unfold Hid; rw [HR.out]; unfold spanF; rw [HXB.out, eN, eV, eL]; try rfl
    clear HR eN eV eL hhb
    have hx1 : (0 : Int) ≤ ((v + 192) : Nat) := by omega
    by_cases hn : 2 < t.length + 1
    · have hr : r = (1, 0) := by rw [HR2.out, if_pos hn]
      subst hr
      have hnb : decide ((2 : Int) < (t.length : Int) + 1) = true := by rw [decide_eq_true_eq]; omega
      first | (exfalso; omega) | skip
      all_goals
        go_wp2_with fail
        go_ret2
        exact ⟨rfl, rfl⟩
    · have hnb : decide ((2 : Int) < (t.length : Int) + 1) = false := by rw [decide_eq_false_iff_not]; omega
      have HR3 : Hid (r = match contF t v with | none => (1, 0) | some f => (((max (loK (2 - (t.length + 1)) f) 128 : Nat) : Int), ((min (hiK (2 - (t.length + 1)) f) 1114111 : Nat) : Int))) := by unfold Hid; rw [HR2.out, if_neg hn]
      clear HR2
      go_upto_region 15 with fail
      go_cut [59, 60, 61] (fun a b c wx => (∃ A c', a = .slice A t.length c' ∧ (0 < t.length → A = some ⟨g, 1, none⟩)) ∧ b = .int .i64 t.length ∧ c = .int .i64 0 ∧ w = wx)
      case first =>
        by_cases hc1 : cap = 1
        · subst hc1
          have ht0 : t.length = 0 := by omega
          go_wp2_with fail
          go_meet
          case rel => exact ⟨⟨some ⟨g, 0, none⟩, 0, by rw [ht0], fun h => absurd h (by omega)⟩, by rw [ht0]; rfl, rfl, rfl⟩
        · go_wp2_with fail
          go_meet
          case rel => exact ⟨⟨_, _, rfl, fun h => rfl⟩, by first | rfl | go_num, rfl, rfl⟩
      case rest =>
        obtain ⟨⟨A9, c9, rfl, hA9⟩, rfl, rfl, rfl⟩ := hcut
        go_wp2_with fail
        go_loopw [5, 61] (fun v5 i wr => ∃ k f : Nat, k ≤ t.length ∧ i = .int .i64 k ∧ v5 = .int .i64 f ∧ Hid (contF (t.take k) v = some f) ∧ w = wr) (fun _ i _ => t.length - (intOf i).toNat)
        case atStart => exact ⟨0, v, Nat.zero_le _, rfl, rfl, rfl, rfl⟩
        case round =>
          obtain ⟨k, f, hk, rfl, rfl, HE, rfl⟩ := hrel
          have hfb : f + 1 ≤ 33554432 := by
            have h2 := contF_bound _ _ _ HE.out
            rw [List.length_take_of_le hk] at h2
            have h3 := pow64 k (by omega)
            have h4 : (v + 1) * 64 ^ k ≤ 128 * 262144 := Nat.mul_le_mul (by omega) h3
            omega
          by_cases hlt : k < t.length
          · first | (exfalso; omega) | skip
            all_goals
              obtain rfl := hA9 (by omega)
              have hc := HCT.out k hlt
              have hft := contF_take t v k hlt f HE.out
              have hy := t[k].toNat_lt
              generalize t[k].toNat = y at hc hft hy
              by_cases hy1 : y < 128 ∨ 191 < y
              · rw [if_pos hy1] at hft
                have hr : r = (1, 0) := by rw [HR3.out, contF_none t v (k + 1) hft]
                subst hr
                clear hft
                rcases hy1 with hy1 | hy1
                · have hy3 : (y : Int) < 128 := by omega
                  go_wp2_with fail
                  go_ret2
                  exact ⟨rfl, rfl⟩
                · have hy2 : ¬ (y : Int) < 128 := by omega
                  have hy3 : (191 : Int) < y := by omega
                  go_wp2_with fail
                  go_ret2
                  exact ⟨rfl, rfl⟩
              · rw [if_neg hy1] at hft
                have HFT := Lib.hid hft
                clear hft
                obtain ⟨z, rfl⟩ : ∃ z, y = z + 128 := ⟨y - 128, by omega⟩
                have hz : z < 64 := by omega
                clear hy1 hy
                have hz1 : ¬ ((z : Int) + 128 < 128) := by omega
                have hz2 : ¬ (191 < (z : Int) + 128) := by omega
                go_wp2_with fail
                go_roundw
                case rel => exact ⟨k + 1, f * 64 + z, by omega, by go_num, by go_num, by unfold Hid; rw [HFT.out]; congr 1, by first | rfl | trivial⟩
                case measure => simp [intOf]; omega
          · have hck : contF t v = some f := by have h := HE.out; rw [List.take_of_length_le (by omega)] at h; exact h
            have HR4 : Hid (r = (((max (loK (2 - (t.length + 1)) f) 128 : Nat) : Int), ((min (hiK (2 - (t.length + 1)) f) 1114111 : Nat) : Int))) := by unfold Hid; rw [HR3.out, hck]
            clear hck
            obtain ⟨m, hm⟩ : ∃ m, m = 2 - (t.length + 1) := ⟨_, rfl⟩
            rw [← hm] at HR4
            have hmi : (2 : Int) - ((t.length : Int) + 1) = m := by omega
            have hm3 : m ≤ 3 := by omega
            go_wp2_with fail
            go_loopw [5, 10, 83] (fun v5 v10 i wr => ∃ k : Nat, k ≤ m ∧ i = .int .i64 k ∧ v5 = .int .i64 (loK k f : Nat) ∧ v10 = .int .i64 (hiK k f : Nat) ∧ w = wr) (fun _ _ i _ => m - (intOf i).toNat)
            case atStart => exact ⟨0, Nat.zero_le _, rfl, rfl, rfl, rfl⟩
            case round =>
              obtain ⟨k, hk, rfl, rfl, rfl, rfl⟩ := hrel
              have hlh := lohi k f
              have hp := pow64 k (by omega)
              have hbd : hiK k f < 8796093022208 := by
                have := Nat.mul_le_mul hfb hp
                omega
              by_cases hlt : k < m
              · have hkm : decide ((k : Int) < (m : Int)) = true := by rw [decide_eq_true_eq]; omega
                first | (exfalso; omega) | skip
                all_goals
                  go_wp2_with fail
                  go_roundw
                  case rel => exact ⟨k + 1, by omega, by go_num, by rw [loK]; go_num, by rw [hiK]; go_num, by first | rfl | trivial⟩
                  case measure => simp [intOf]; omega
              · obtain rfl : k = m := by omega
                go_upto_region 28 with fail
                have hr := HR4.out
                clear HR4 hlh hp hbd hfb HE
                generalize loK k f = la at *
                generalize hiK k f = lb at *
                subst hr
                go_wp2_with fail
                go_ret2
                exact ⟨by simp; omega, rfl⟩
  · have eN : headN (v + 224) = 3 := by unfold headN; (repeat' split) <;> omega
    have eV : headV (v + 224) = v := by unfold headV; (repeat' split) <;> omega
    have eL : headL (v + 224) = 2048 := by unfold headL; (repeat' split) <;> omega
    have HR2 : Hid (r = if 3 < t.length + 1 then (1, 0) else match contF t v with | none => (1, 0) | some f => (((max (loK (3 - (t.length + 1)) f) 2048 : Nat) : Int), ((min (hiK (3 - (t.length + 1)) f) 1114111 : Nat) : Int))) := by
      unfold Hid; rw [HR.out]; unfold spanF; rw [HXB.out, eN, eV, eL]; try rfl
    clear HR eN eV eL hhb
    have hx1 : (0 : Int) ≤ ((v + 224) : Nat) := by omega
    by_cases hn : 3 < t.length + 1
    · have hr : r = (1, 0) := by rw [HR2.out, if_pos hn]
      subst hr
      have hnb : decide ((3 : Int) < (t.length : Int) + 1) = true := by rw [decide_eq_true_eq]; omega
      first | (exfalso; omega) | skip
      all_goals
        go_wp2_with fail
        go_ret2
        exact ⟨rfl, rfl⟩
    · have hnb : decide ((3 : Int) < (t.length : Int) + 1) = false := by rw [decide_eq_false_iff_not]; omega
      have HR3 : Hid (r = match contF t v with | none => (1, 0) | some f => (((max (loK (3 - (t.length + 1)) f) 2048 : Nat) : Int), ((min (hiK (3 - (t.length + 1)) f) 1114111 : Nat) : Int))) := by unfold Hid; rw [HR2.out, if_neg hn]
      clear HR2
      go_upto_region 15 with fail
      go_cut [59, 60, 61] (fun a b c wx => (∃ A c', a = .slice A t.length c' ∧ (0 < t.length → A = some ⟨g, 1, none⟩)) ∧ b = .int .i64 t.length ∧ c = .int .i64 0 ∧ w = wx)
      case first =>
        by_cases hc1 : cap = 1
        · subst hc1
          have ht0 : t.length = 0 := by omega
          go_wp2_with fail
          go_meet
          case rel => exact ⟨⟨some ⟨g, 0, none⟩, 0, by rw [ht0], fun h => absurd h (by omega)⟩, by rw [ht0]; rfl, rfl, rfl⟩
        · go_wp2_with fail
          go_meet
          case rel => exact ⟨⟨_, _, rfl, fun h => rfl⟩, by first | rfl | go_num, rfl, rfl⟩
      case rest =>
        obtain ⟨⟨A9, c9, rfl, hA9⟩, rfl, rfl, rfl⟩ := hcut
        go_wp2_with fail
        go_loopw [5, 61] (fun v5 i wr => ∃ k f : Nat, k ≤ t.length ∧ i = .int .i64 k ∧ v5 = .int .i64 f ∧ Hid (contF (t.take k) v = some f) ∧ w = wr) (fun _ i _ => t.length - (intOf i).toNat)
        case atStart => exact ⟨0, v, Nat.zero_le _, rfl, rfl, rfl, rfl⟩
        case round =>
          obtain ⟨k, f, hk, rfl, rfl, HE, rfl⟩ := hrel
          have hfb : f + 1 ≤ 33554432 := by
            have h2 := contF_bound _ _ _ HE.out
            rw [List.length_take_of_le hk] at h2
            have h3 := pow64 k (by omega)
            have h4 : (v + 1) * 64 ^ k ≤ 128 * 262144 := Nat.mul_le_mul (by omega) h3
            omega
          by_cases hlt : k < t.length
          · first | (exfalso; omega) | skip
            all_goals
              obtain rfl := hA9 (by omega)
              have hc := HCT.out k hlt
              have hft := contF_take t v k hlt f HE.out
              have hy := t[k].toNat_lt
              generalize t[k].toNat = y at hc hft hy
              by_cases hy1 : y < 128 ∨ 191 < y
              · rw [if_pos hy1] at hft
                have hr : r = (1, 0) := by rw [HR3.out, contF_none t v (k + 1) hft]
                subst hr
                clear hft
                rcases hy1 with hy1 | hy1
                · have hy3 : (y : Int) < 128 := by omega
                  go_wp2_with fail
                  go_ret2
                  exact ⟨rfl, rfl⟩
                · have hy2 : ¬ (y : Int) < 128 := by omega
                  have hy3 : (191 : Int) < y := by omega
                  go_wp2_with fail
                  go_ret2
                  exact ⟨rfl, rfl⟩
              · rw [if_neg hy1] at hft
                have HFT := Lib.hid hft
                clear hft
                obtain ⟨z, rfl⟩ : ∃ z, y = z + 128 := ⟨y - 128, by omega⟩
                have hz : z < 64 := by omega
                clear hy1 hy
                have hz1 : ¬ ((z : Int) + 128 < 128) := by omega
                have hz2 : ¬ (191 < (z : Int) + 128) := by omega
                go_wp2_with fail
                go_roundw
                case rel => exact ⟨k + 1, f * 64 + z, by omega, by go_num, by go_num, by unfold Hid; rw [HFT.out]; congr 1, by first | rfl | trivial⟩
                case measure => simp [intOf]; omega
          · have hck : contF t v = some f := by have h := HE.out; rw [List.take_of_length_le (by omega)] at h; exact h
            have HR4 : Hid (r = (((max (loK (3 - (t.length + 1)) f) 2048 : Nat) : Int), ((min (hiK (3 - (t.length + 1)) f) 1114111 : Nat) : Int))) := by unfold Hid; rw [HR3.out, hck]
            clear hck
            obtain ⟨m, hm⟩ : ∃ m, m = 3 - (t.length + 1) := ⟨_, rfl⟩
            rw [← hm] at HR4
            have hmi : (3 : Int) - ((t.length : Int) + 1) = m := by omega
            have hm3 : m ≤ 3 := by omega
            go_wp2_with fail
            go_loopw [5, 10, 83] (fun v5 v10 i wr => ∃ k : Nat, k ≤ m ∧ i = .int .i64 k ∧ v5 = .int .i64 (loK k f : Nat) ∧ v10 = .int .i64 (hiK k f : Nat) ∧ w = wr) (fun _ _ i _ => m - (intOf i).toNat)
            case atStart => exact ⟨0, Nat.zero_le _, rfl, rfl, rfl, rfl⟩
            case round =>
              obtain ⟨k, hk, rfl, rfl, rfl, rfl⟩ := hrel
              have hlh := lohi k f
              have hp := pow64 k (by omega)
              have hbd : hiK k f < 8796093022208 := by
                have := Nat.mul_le_mul hfb hp
                omega
              by_cases hlt : k < m
              · have hkm : decide ((k : Int) < (m : Int)) = true := by rw [decide_eq_true_eq]; omega
                first | (exfalso; omega) | skip
                all_goals
                  go_wp2_with fail
                  go_roundw
                  case rel => exact ⟨k + 1, by omega, by go_num, by rw [loK]; go_num, by rw [hiK]; go_num, by first | rfl | trivial⟩
                  case measure => simp [intOf]; omega
              · obtain rfl : k = m := by omega
                go_upto_region 28 with fail
                have hr := HR4.out
                clear HR4 hlh hp hbd hfb HE
                generalize loK k f = la at *
                generalize hiK k f = lb at *
                subst hr
                go_wp2_with fail
                go_ret2
                exact ⟨by simp; omega, rfl⟩
  · have eN : headN (v + 240) = 4 := by unfold headN; (repeat' split) <;> omega
    have eV : headV (v + 240) = v := by unfold headV; (repeat' split) <;> omega
    have eL : headL (v + 240) = 65536 := by unfold headL; (repeat' split) <;> omega
    have HR2 : Hid (r = if 4 < t.length + 1 then (1, 0) else match contF t v with | none => (1, 0) | some f => (((max (loK (4 - (t.length + 1)) f) 65536 : Nat) : Int), ((min (hiK (4 - (t.length + 1)) f) 1114111 : Nat) : Int))) := by
      unfold Hid; rw [HR.out]; unfold spanF; rw [HXB.out, eN, eV, eL]; try rfl
    clear HR eN eV eL hhb
    have hx1 : (0 : Int) ≤ ((v + 240) : Nat) := by omega
    by_cases hn : 4 < t.length + 1
    · have hr : r = (1, 0) := by rw [HR2.out, if_pos hn]
      subst hr
      have hnb : decide ((4 : Int) < (t.length : Int) + 1) = true := by rw [decide_eq_true_eq]; omega
      first | (exfalso; omega) | skip
      all_goals
        go_wp2_with fail
        go_ret2
        exact ⟨rfl, rfl⟩
    · have hnb : decide ((4 : Int) < (t.length : Int) + 1) = false := by rw [decide_eq_false_iff_not]; omega
      have HR3 : Hid (r = match contF t v with | none => (1, 0) | some f => (((max (loK (4 - (t.length + 1)) f) 65536 : Nat) : Int), ((min (hiK (4 - (t.length + 1)) f) 1114111 : Nat) : Int))) := by unfold Hid; rw [HR2.out, if_neg hn]
      clear HR2
      go_upto_region 15 with fail
      go_cut [59, 60, 61] (fun a b c wx => (∃ A c', a = .slice A t.length c' ∧ (0 < t.length → A = some ⟨g, 1, none⟩)) ∧ b = .int .i64 t.length ∧ c = .int .i64 0 ∧ w = wx)
      case first =>
        by_cases hc1 : cap = 1
        · subst hc1
          have ht0 : t.length = 0 := by omega
          go_wp2_with fail
          go_meet
          case rel => exact ⟨⟨some ⟨g, 0, none⟩, 0, by rw [ht0], fun h => absurd h (by omega)⟩, by rw [ht0]; rfl, rfl, rfl⟩
        · go_wp2_with fail
          go_meet
          case rel => exact ⟨⟨_, _, rfl, fun h => rfl⟩, by first | rfl | go_num, rfl, rfl⟩
      case rest =>
        obtain ⟨⟨A9, c9, rfl, hA9⟩, rfl, rfl, rfl⟩ := hcut
        go_wp2_with fail
        go_loopw [5, 61] (fun v5 i wr => ∃ k f : Nat, k ≤ t.length ∧ i = .int .i64 k ∧ v5 = .int .i64 f ∧ Hid (contF (t.take k) v = some f) ∧ w = wr) (fun _ i _ => t.length - (intOf i).toNat)
        case atStart => exact ⟨0, v, Nat.zero_le _, rfl, rfl, rfl, rfl⟩
        case round =>
          obtain ⟨k, f, hk, rfl, rfl, HE, rfl⟩ := hrel
          have hfb : f + 1 ≤ 33554432 := by
            have h2 := contF_bound _ _ _ HE.out
            rw [List.length_take_of_le hk] at h2
            have h3 := pow64 k (by omega)
            have h4 : (v + 1) * 64 ^ k ≤ 128 * 262144 := Nat.mul_le_mul (by omega) h3
            omega
          by_cases hlt : k < t.length
          · first | (exfalso; omega) | skip
            all_goals
              obtain rfl := hA9 (by omega)
              have hc := HCT.out k hlt
              have hft := contF_take t v k hlt f HE.out
              have hy := t[k].toNat_lt
              generalize t[k].toNat = y at hc hft hy
              by_cases hy1 : y < 128 ∨ 191 < y
              · rw [if_pos hy1] at hft
                have hr : r = (1, 0) := by rw [HR3.out, contF_none t v (k + 1) hft]
                subst hr
                clear hft
                rcases hy1 with hy1 | hy1
                · have hy3 : (y : Int) < 128 := by omega
                  go_wp2_with fail
                  go_ret2
                  exact ⟨rfl, rfl⟩
                · have hy2 : ¬ (y : Int) < 128 := by omega
                  have hy3 : (191 : Int) < y := by omega
                  go_wp2_with fail
                  go_ret2
                  exact ⟨rfl, rfl⟩
              · rw [if_neg hy1] at hft
                have HFT := Lib.hid hft
                clear hft
                obtain ⟨z, rfl⟩ : ∃ z, y = z + 128 := ⟨y - 128, by omega⟩
                have hz : z < 64 := by omega
                clear hy1 hy
                have hz1 : ¬ ((z : Int) + 128 < 128) := by omega
                have hz2 : ¬ (191 < (z : Int) + 128) := by omega
                go_wp2_with fail
                go_roundw
                case rel => exact ⟨k + 1, f * 64 + z, by omega, by go_num, by go_num, by unfold Hid; rw [HFT.out]; congr 1, by first | rfl | trivial⟩
                case measure => simp [intOf]; omega
          · have hck : contF t v = some f := by have h := HE.out; rw [List.take_of_length_le (by omega)] at h; exact h
            have HR4 : Hid (r = (((max (loK (4 - (t.length + 1)) f) 65536 : Nat) : Int), ((min (hiK (4 - (t.length + 1)) f) 1114111 : Nat) : Int))) := by unfold Hid; rw [HR3.out, hck]
            clear hck
            obtain ⟨m, hm⟩ : ∃ m, m = 4 - (t.length + 1) := ⟨_, rfl⟩
            rw [← hm] at HR4
            have hmi : (4 : Int) - ((t.length : Int) + 1) = m := by omega
            have hm3 : m ≤ 3 := by omega
            go_wp2_with fail
            go_loopw [5, 10, 83] (fun v5 v10 i wr => ∃ k : Nat, k ≤ m ∧ i = .int .i64 k ∧ v5 = .int .i64 (loK k f : Nat) ∧ v10 = .int .i64 (hiK k f : Nat) ∧ w = wr) (fun _ _ i _ => m - (intOf i).toNat)
            case atStart => exact ⟨0, Nat.zero_le _, rfl, rfl, rfl, rfl⟩
            case round =>
              obtain ⟨k, hk, rfl, rfl, rfl, rfl⟩ := hrel
              have hlh := lohi k f
              have hp := pow64 k (by omega)
              have hbd : hiK k f < 8796093022208 := by
                have := Nat.mul_le_mul hfb hp
                omega
              by_cases hlt : k < m
              · have hkm : decide ((k : Int) < (m : Int)) = true := by rw [decide_eq_true_eq]; omega
                first | (exfalso; omega) | skip
                all_goals
                  go_wp2_with fail
                  go_roundw
                  case rel => exact ⟨k + 1, by omega, by go_num, by rw [loK]; go_num, by rw [hiK]; go_num, by first | rfl | trivial⟩
                  case measure => simp [intOf]; omega
              · obtain rfl : k = m := by omega
                go_upto_region 28 with fail
                have hr := HR4.out
                clear HR4 hlh hp hbd hfb HE
                generalize loK k f = la at *
                generalize hiK k f = lb at *
                subst hr
                go_wp2_with fail
                go_ret2
                exact ⟨by simp; omega, rfl⟩
  · have eN : headN x = 0 := by unfold headN; (repeat' split) <;> omega
    have hr : r = (1, 0) := by rw [HR.out]; unfold spanF; rw [HXB.out, eN, if_pos (by omega)]
    subst hr
    clear HR eN hhb
    rcases h1 with h1 | h1
    · go_wp2_with fail
      go_ret2
      exact ⟨rfl, rfl⟩
    · have e1 : ¬ (x : Int) < 224 := by omega
      have e2 : ¬ (x : Int) < 240 := by omega
      have e3 : ¬ (x : Int) < 248 := by omega
      go_wp2_with fail
      go_ret2
      exact ⟨rfl, rfl⟩
end Go.Proofs.YtbbmmeaicilabaaGreatDoor
