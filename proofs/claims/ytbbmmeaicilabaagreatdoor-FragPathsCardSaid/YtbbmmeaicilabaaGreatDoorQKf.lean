/- lexis.word: the word at the beginning of a text. Conditions: the tables lie as the text lays them; texts of at most a million bytes. -/
import Derived.Test.YtbbmmeaicilabaaGreatDoorQKd
set_option linter.unusedVariables false
set_option linter.unusedSimpArgs false
namespace Go.Proofs.YtbbmmeaicilabaaGreatDoor
open Go.RowKit

/-- kind, text, number; how many bytes; is there one? -/
abbrev WordR : Type := (Int × ByteArray × Int) × Int × Bool
def signW (s : ByteArray) : WordR := ((3, signF s, 0), (signF s).size, !decide (signF s = ⟨#[]⟩))
def digW (s : ByteArray) (n : Nat) (k : Int) : WordR :=
  if k ≤ 1000000 then (if n < s.size then (if isC 2 (Utf8.decode (s.extract n s.size) 0).1 then ((2, ⟨#[]⟩, k), n, false) else ((2, ⟨#[]⟩, k), n, true)) else ((2, ⟨#[]⟩, k), n, true)) else ((2, ⟨#[]⟩, k), 0, false)
def quoW (s : ByteArray) (e : Int) : WordR := if e < 0 then ((0, ⟨#[]⟩, 0), 0, false) else ((1, s.extract 1 (1 + e.toNat), 0), e + 2, true)
def wordF (s : ByteArray) : WordR :=
  if 0 < s.size then
    (if isC 2 (Utf8.decode s 0).1 then ((0, s.extract 0 (runF s 3), 0), runF s 3, true)
    else if isC 4 (Utf8.decode s 0).1 then digW s (runF s 4) (numF (s.extract 0 (runF s 4)))
    else if ((Utf8.decode s 0).1 : Int) = 34 ∨ ((Utf8.decode s 0).1 : Int) = 39 then quoW s (runeAtF (s.extract 1 s.size) (Utf8.decode s 0).1)
    else signW s)
  else signW s
def WordE (r : WordR) (w : World) (e : Ending) (w' : World) : Prop :=
  e = .returned (.tuple #[.agg #[.int .i64 r.1.1, .string r.1.2.1, .int .i64 r.1.2.2, .int .i64 0, .int .i64 0, .int .i64 0, .int .i64 0], .int .i64 r.2.1, .bool r.2.2]) ∧ Below w.heap.size w w'

set_option maxRecDepth 100000 in
set_option maxHeartbeats 8000000 in
theorem word_any (s : ByteArray) (w : World) (hs : s.size ≤ 1000000) (hT : WOX w) : Calls Tryz.prog 68 #[.string s] w (WordE (wordF s) w) := by
  obtain ⟨W1, hW1⟩ : ∃ W, W = (w.alloc (.cells #[.int .i64 0, .string ⟨#[]⟩, .int .i64 0, .int .i64 0, .int .i64 0, .int .i64 0, .int .i64 0] 109)).iter s 0 := ⟨_, rfl⟩
  have hit : W1.heap[w.heap.size + 1]? = some (.stringIter s 0) := by
    rw [hW1]; simpa using World.iter_heap (w.alloc (.cells #[.int .i64 0, .string ⟨#[]⟩, .int .i64 0, .int .i64 0, .int .i64 0, .int .i64 0, .int .i64 0] 109)) s 0
  have BT : Blk W1 w.heap.size #[.int .i64 0, .string ⟨#[]⟩, .int .i64 0, .int .i64 0, .int .i64 0, .int .i64 0, .int .i64 0] 109 := by rw [hW1]; exact (Blk.new _ _ _).al (.stringIter s 0)
  have hbW : Below w.heap.size w W1 := by rw [hW1]; exact (bl1 (Nat.le_refl _)).trans (bl1 (by simp))
  have HT := Lib.hid hT
  clear hT
  obtain ⟨R, hR⟩ : ∃ R, R = wordF s := ⟨_, rfl⟩
  rw [← hR]
  have HR := Lib.hid hR
  clear hR
  go_enter Tryz.func68, Tryz.ntmps68
  go_wp2_with fail
  rw [← hW1]
  clear hW1
  go_loopw [6] (fun _ wr => W1 = wr) (fun _ _ => 0)
  case atStart => rfl
  case round =>
    obtain rfl := hrel
    have hl1 : w.heap.size + 1 < W1.heap.size := (Array.getElem?_eq_some_iff.1 hit).1
    by_cases hp : 0 < s.size
    case' neg =>
      have hnx : ∀ ty, (Instr.next (.pointer (some ⟨w.heap.size + 1, 0, none⟩)) true ty).run Tryz.prog W1 = _ := fun ty => Lib.run_next_end_at W1 (w.heap.size + 1) s 0 ty hit hp
      have HS : Hid (R = signW s) := by unfold Hid; rw [HR.out]; unfold wordF; rw [if_neg hp]
      have B9 := BT
      have hb9 := hbW
      go_wp2_with fail
      clear hnx
      obtain ⟨W9, rfl⟩ : ∃ W : World, W = W1 := ⟨_, rfl⟩
    case' pos =>
      have hnx : ∀ ty, (Instr.next (.pointer (some ⟨w.heap.size + 1, 0, none⟩)) true ty).run Tryz.prog W1 = _ := fun ty => Lib.run_next_any_at W1 (w.heap.size + 1) s 0 ty hit hp
      have hb2 := Lib.below_iterAt (Below.refl (w.heap.size + 1) W1) (k := w.heap.size + 1) (Nat.le_refl _) s (0 + (Utf8.decode s 0).2)
      have BT2 : Blk (W1.iterAt (w.heap.size + 1) s (0 + (Utf8.decode s 0).2)) w.heap.size #[.int .i64 0, .string ⟨#[]⟩, .int .i64 0, .int .i64 0, .int .i64 0, .int .i64 0, .int .i64 0] 109 := (hb2.block _ (by omega)).trans BT
      have hbW2 := hbW.trans (hb2.mono (Nat.le_succ _))
      have HR2 : Hid (R = if isC 2 (Utf8.decode s 0).1 then ((0, s.extract 0 (runF s 3), 0), (runF s 3 : Int), true)
        else if isC 4 (Utf8.decode s 0).1 then digW s (runF s 4) (numF (s.extract 0 (runF s 4)))
        else if ((Utf8.decode s 0).1 : Int) = 34 ∨ ((Utf8.decode s 0).1 : Int) = 39 then quoW s (runeAtF (s.extract 1 s.size) (Utf8.decode s 0).1)
        else signW s) := by unfold Hid; rw [HR.out]; unfold wordF; rw [if_pos hp]
      have hdl := decode_le s 0
      generalize (Utf8.decode s 0).1 = r at *
      generalize W1.iterAt (w.heap.size + 1) s (0 + (Utf8.decode s 0).2) = W2 at *
      go_wp2_with fail
      refine (charsIs_any 2 (by omega) (by omega) (r : Int) W2 (HT.out.below hbW2).base.ranges).mono ?_
      rintro e W3 ⟨rfl, hb3⟩
      have BT3 := BT2.below hb3
      have hbW3 := hbW2.trans (hb3.mono hbW2.size)
      have hT3 := HT.out.below hbW3
      have HT3 := Lib.hid hT3
      clear hT3
      simp only [show (2 : Int).toNat = 2 from rfl]
      cases hc2 : isC 2 r
      case' true =>
        have HF : Hid (R = ((0, s.extract 0 (runF s 3), 0), (runF s 3 : Int), true)) := by unfold Hid; rw [HR2.out, hc2]; rfl
        go_wp2_with fail
        refine (run_any s 3 (by omega) (by omega) W3 (by omega) HT3.out.base.ranges).mono ?_
        rintro e W4 ⟨rfl, hb4⟩
        simp only [show (3 : Int).toNat = 3 from rfl]
        have hle := runF_le s 3
        have BT4 := BT3.below hb4
        have hbW4 := hbW3.trans (hb4.mono hbW3.size)
        have z0 := (BT4).cell 0
        have z1 := (BT4).cell 1
        have z2 := (BT4).cell 2
        have z3 := (BT4).cell 3
        have z4 := (BT4).cell 4
        have z5 := (BT4).cell 5
        have z6 := (BT4).cell 6
        simp at z0 z1 z2 z3 z4 z5 z6
        have zf := fun o => (BT4).frozen o
        generalize runF s 3 = n at *
        have hni : (n : Int) ≤ (s.size : Int) := by omega
        go_wp2_with fail
        refine bodyPost_ret (v := .tuple #[.agg #[.int .i64 0, .string (s.extract 0 n), .int .i64 0, .int .i64 0, .int .i64 0, .int .i64 0, .int .i64 0], .int .i64 n, .bool true]) ?h1 rfl ⟨by rw [HF.out], ?h2⟩
        case h1 => simp [results, Tryz.results68, go_sem, z0, z1, z2, z3, z4, z5, z6]
        case h2 => repeat' first | with_reducible exact hbW4 | with_reducible refine Below.setCell ?_ ?_ _ | exact Nat.le_refl _
      case' false =>
        go_wp2_with fail
        refine (charsIs_any 4 (by omega) (by omega) (r : Int) W3 HT3.out.base.ranges).mono ?_
        rintro e W4 ⟨rfl, hb4⟩
        simp only [show (4 : Int).toNat = 4 from rfl]
        have BT4 := BT3.below hb4
        have hbW4 := hbW3.trans (hb4.mono hbW3.size)
        have hT4 := HT.out.below hbW4
        have HT4 := Lib.hid hT4
        clear hT4
        cases hc4 : isC 4 r
        case' true =>
          have HF : Hid (R = digW s (runF s 4) (numF (s.extract 0 (runF s 4)))) := by unfold Hid; rw [HR2.out, hc2, hc4]; rfl
          go_wp2_with fail
          refine (run_any s 4 (by omega) (by omega) W4 (by omega) HT4.out.base.ranges).mono ?_
          rintro e W5 ⟨rfl, hb5⟩
          simp only [show (4 : Int).toNat = 4 from rfl]
          have hle := runF_le s 4
          have BT5 := BT4.below hb5
          have hbW5 := hbW4.trans (hb5.mono hbW4.size)
          generalize runF s 4 = n at *
          have hni : (n : Int) ≤ (s.size : Int) := by omega
          have z0 := (BT5).cell 0
          have z1 := (BT5).cell 1
          have z2 := (BT5).cell 2
          have z3 := (BT5).cell 3
          have z4 := (BT5).cell 4
          have z5 := (BT5).cell 5
          have z6 := (BT5).cell 6
          simp at z0 z1 z2 z3 z4 z5 z6
          have zf := fun o => (BT5).frozen o
          go_wp2_with fail
          have BT6 := (((((((BT5.set 0 (.int .i64 2)).set 1 (.string ⟨#[]⟩)).set 2 (.int .i64 0)).set 3 (.int .i64 0)).set 4 (.int .i64 0)).set 5 (.int .i64 0)).set 6 (.int .i64 0))
          simp only [List.setIfInBounds_toArray, List.set_cons_zero, List.set_cons_succ] at BT6
          have hbW6 : Below w.heap.size w (((((((W5.setCell ⟨w.heap.size, 0, none⟩ (.int .i64 2)).setCell ⟨w.heap.size, 1, none⟩ (.string ⟨#[]⟩)).setCell ⟨w.heap.size, 2, none⟩ (.int .i64 0)).setCell ⟨w.heap.size, 3, none⟩ (.int .i64 0)).setCell ⟨w.heap.size, 4, none⟩ (.int .i64 0)).setCell ⟨w.heap.size, 5, none⟩ (.int .i64 0)).setCell ⟨w.heap.size, 6, none⟩ (.int .i64 0)) := by repeat' first | with_reducible exact hbW5 | with_reducible refine Below.setCell ?_ ?_ _ | exact Nat.le_refl _
          clear z0 z1 z2 z3 z4 z5 z6 zf
          generalize (((((((W5.setCell ⟨w.heap.size, 0, none⟩ (.int .i64 2)).setCell ⟨w.heap.size, 1, none⟩ (.string ⟨#[]⟩)).setCell ⟨w.heap.size, 2, none⟩ (.int .i64 0)).setCell ⟨w.heap.size, 3, none⟩ (.int .i64 0)).setCell ⟨w.heap.size, 4, none⟩ (.int .i64 0)).setCell ⟨w.heap.size, 5, none⟩ (.int .i64 0)).setCell ⟨w.heap.size, 6, none⟩ (.int .i64 0)) = W6 at *
          refine (number_any (s.extract 0 n) W6 (by simp; omega)).mono ?_
          rintro e W7 ⟨rfl, hb7⟩
          have BT7 := BT6.below hb7
          have hbW7 := hbW6.trans (hb7.mono hbW6.size)
          generalize numF (s.extract 0 n) = k at *
          have z0 := (BT7).cell 0
          have z1 := (BT7).cell 1
          have z2 := (BT7).cell 2
          have z3 := (BT7).cell 3
          have z4 := (BT7).cell 4
          have z5 := (BT7).cell 5
          have z6 := (BT7).cell 6
          simp at z0 z1 z2 z3 z4 z5 z6
          have zf := fun o => (BT7).frozen o
          by_cases hk : k ≤ 1000000
          case' neg =>
            have HF2 : Hid (R = ((2, ⟨#[]⟩, k), 0, false)) := by unfold Hid; rw [HF.out]; unfold digW; rw [if_neg hk]
            have hkb : decide (k ≤ 1000000) = false := by simp [hk]
            rw [hkb]
            clear hkb hk
            go_wp2_with fail
            refine bodyPost_ret (v := .tuple #[.agg #[.int .i64 2, .string ⟨#[]⟩, .int .i64 k, .int .i64 0, .int .i64 0, .int .i64 0, .int .i64 0], .int .i64 0, .bool false]) ?h1 rfl ⟨by rw [HF2.out], ?h2⟩
            case h1 => simp [results, Tryz.results68, go_sem, z0, z1, z2, z3, z4, z5, z6]
            case h2 => repeat' first | with_reducible exact hbW7 | with_reducible refine Below.setCell ?_ ?_ _ | exact Nat.le_refl _
          case' pos =>
            have HF2 : Hid (R = if n < s.size then (if isC 2 (Utf8.decode (s.extract n s.size) 0).1 then ((2, ⟨#[]⟩, k), (n : Int), false) else ((2, ⟨#[]⟩, k), (n : Int), true)) else ((2, ⟨#[]⟩, k), (n : Int), true)) := by unfold Hid; rw [HF.out]; unfold digW; rw [if_pos hk]
            have hkb : decide (k ≤ 1000000) = true := by simp [hk]
            rw [hkb]
            clear hkb hk
            go_wp2_with fail
            have BT8 := BT7.set 2 (.int .i64 k)
            simp only [List.setIfInBounds_toArray, List.set_cons_zero, List.set_cons_succ] at BT8
            have hbW8 : Below w.heap.size w (W7.setCell ⟨w.heap.size, 2, none⟩ (.int .i64 k)) := hbW7.setCell (p := ⟨w.heap.size, 2, none⟩) (Nat.le_refl _) _
            clear z0 z1 z2 z3 z4 z5 z6 zf
            have H87 : Hid ((W7.setCell ⟨w.heap.size, 2, none⟩ (.int .i64 k)).heap.size = W7.heap.size) := by unfold Hid; simp
            generalize W7.setCell ⟨w.heap.size, 2, none⟩ (.int .i64 k) = W8 at *
            have hes : (s.extract n s.size).size = s.size - n := by simp
            have hit9 : (W8.iter (s.extract n s.size) 0).heap[W7.heap.size]? = some (.stringIter (s.extract n s.size) 0) := by rw [← H87.out]; exact World.iter_heap W8 _ 0
            have hb9 : Below W8.heap.size W8 (W8.iter (s.extract n s.size) 0) := bl1 (Nat.le_refl _)
            have BT9 := BT8.below hb9
            have hbW9 := hbW8.trans (hb9.mono hbW8.size)
            generalize s.extract n s.size = s2 at *
            have hl9 : W7.heap.size < (W8.iter s2 0).heap.size := (Array.getElem?_eq_some_iff.1 hit9).1
            generalize W8.iter s2 0 = W9 at *
            go_loopw [3, 8] (fun v3 _ wr => v3 = .int .i64 n ∧ W9 = wr) (fun _ _ _ => 0)
            case atStart => exact ⟨rfl, rfl⟩
            case round =>
              obtain ⟨rfl, rfl⟩ := hrel
              by_cases hp2 : 0 < s2.size
              · have hnx2 : ∀ ty, (Instr.next (.pointer (some ⟨W7.heap.size, 0, none⟩)) true ty).run Tryz.prog W9 = _ := fun ty => Lib.run_next_any_at W9 W7.heap.size s2 0 ty hit9 hp2
                have HF3 : Hid (R = if isC 2 (Utf8.decode s2 0).1 then ((2, ⟨#[]⟩, k), (n : Int), false) else ((2, ⟨#[]⟩, k), (n : Int), true)) := by unfold Hid; rw [HF2.out, if_pos (by omega)]
                have hdl2 := decode_le s2 0
                have hb10 := Lib.below_iterAt (Below.refl W7.heap.size W9) (k := W7.heap.size) (Nat.le_refl _) s2 (0 + (Utf8.decode s2 0).2)
                have hlt8 := BT7.lt
                have BT10 : Blk (W9.iterAt W7.heap.size s2 (0 + (Utf8.decode s2 0).2)) w.heap.size #[.int .i64 2, .string ⟨#[]⟩, .int .i64 k, .int .i64 0, .int .i64 0, .int .i64 0, .int .i64 0] 109 := (hb10.block _ hlt8).trans BT9
                have hbW10 := hbW9.trans (hb10.mono (by omega))
                generalize (Utf8.decode s2 0).1 = r2 at *
                generalize W9.iterAt W7.heap.size s2 (0 + (Utf8.decode s2 0).2) = W10 at *
                go_wp2_with fail
                refine (charsIs_any 2 (by omega) (by omega) (r2 : Int) W10 (HT.out.below hbW10).base.ranges).mono ?_
                rintro e W11 ⟨rfl, hb11⟩
                simp only [show (2 : Int).toNat = 2 from rfl]
                have BT11 := BT10.below hb11
                have hbW11 := hbW10.trans (hb11.mono hbW10.size)
                have z0 := (BT11).cell 0
                have z1 := (BT11).cell 1
                have z2 := (BT11).cell 2
                have z3 := (BT11).cell 3
                have z4 := (BT11).cell 4
                have z5 := (BT11).cell 5
                have z6 := (BT11).cell 6
                simp at z0 z1 z2 z3 z4 z5 z6
                have zf := fun o => (BT11).frozen o
                cases hc5 : isC 2 r2
                · have HF4 : Hid (R = ((2, ⟨#[]⟩, k), (n : Int), true)) := by unfold Hid; rw [HF3.out, hc5]; rfl
                  go_wp2_with fail
                  refine bodyPost_ret (v := .tuple #[.agg #[.int .i64 2, .string ⟨#[]⟩, .int .i64 k, .int .i64 0, .int .i64 0, .int .i64 0, .int .i64 0], .int .i64 n, .bool true]) ?h1 rfl ⟨by rw [HF4.out], ?h2⟩
                  case h1 => simp [results, Tryz.results68, go_sem, z0, z1, z2, z3, z4, z5, z6]
                  case h2 => repeat' first | with_reducible exact hbW11 | with_reducible refine Below.setCell ?_ ?_ _ | exact Nat.le_refl _
                · have HF4 : Hid (R = ((2, ⟨#[]⟩, k), (n : Int), false)) := by unfold Hid; rw [HF3.out, hc5]; rfl
                  go_wp2_with fail
                  refine bodyPost_ret (v := .tuple #[.agg #[.int .i64 2, .string ⟨#[]⟩, .int .i64 k, .int .i64 0, .int .i64 0, .int .i64 0, .int .i64 0], .int .i64 n, .bool false]) ?h1 rfl ⟨by rw [HF4.out], ?h2⟩
                  case h1 => simp [results, Tryz.results68, go_sem, z0, z1, z2, z3, z4, z5, z6]
                  case h2 => repeat' first | with_reducible exact hbW11 | with_reducible refine Below.setCell ?_ ?_ _ | exact Nat.le_refl _
              · have hnx2 : ∀ ty, (Instr.next (.pointer (some ⟨W7.heap.size, 0, none⟩)) true ty).run Tryz.prog W9 = _ := fun ty => Lib.run_next_end_at W9 W7.heap.size s2 0 ty hit9 hp2
                have HF4 : Hid (R = ((2, ⟨#[]⟩, k), (n : Int), true)) := by unfold Hid; rw [HF2.out, if_neg (by omega)]
                have z0 := (BT9).cell 0
                have z1 := (BT9).cell 1
                have z2 := (BT9).cell 2
                have z3 := (BT9).cell 3
                have z4 := (BT9).cell 4
                have z5 := (BT9).cell 5
                have z6 := (BT9).cell 6
                simp at z0 z1 z2 z3 z4 z5 z6
                have zf := fun o => (BT9).frozen o
                go_wp2_with fail
                refine bodyPost_ret (v := .tuple #[.agg #[.int .i64 2, .string ⟨#[]⟩, .int .i64 k, .int .i64 0, .int .i64 0, .int .i64 0, .int .i64 0], .int .i64 n, .bool true]) ?h1 rfl ⟨by rw [HF4.out], ?h2⟩
                case h1 => simp [results, Tryz.results68, go_sem, z0, z1, z2, z3, z4, z5, z6]
                case h2 => repeat' first | with_reducible exact hbW9 | with_reducible refine Below.setCell ?_ ?_ _ | exact Nat.le_refl _
        case' false =>
          by_cases hq : ((r : Int) = 34 ∨ (r : Int) = 39)
          case' pos =>
            have HF : Hid (R = quoW s (runeAtF (s.extract 1 s.size) r)) := by unfold Hid; rw [HR2.out, hc2, hc4]; simp [hq]
            have hq1 : ((r : Int) == 34) = true ∨ (((r : Int) == 34) = false ∧ ((r : Int) == 39) = true) := by
              rcases hq with h | h
              · exact .inl (by simp [h])
              · exact .inr ⟨by simp [h], by simp [h]⟩
            clear hq
            have hsi : (1 : Int) ≤ (s.size : Int) := by omega
            rcases hq1 with hq1 | ⟨hq1, hq2⟩
            · go_wp2_with fail
              refine (runeAt_any (s.extract 1 s.size) (r : Int) W4 (by simp; omega)).mono ?_
              rintro e W5 ⟨rfl, hb5⟩
              have BT5 := BT4.below hb5
              have hbW5 := hbW4.trans (hb5.mono hbW4.size)
              have hrl := runeGo_lt (s.extract 1 s.size) (r : Int) (s.extract 1 s.size).size 0
              have hrl2 : -1 ≤ runeAtF (s.extract 1 s.size) (r : Int) ∧ runeAtF (s.extract 1 s.size) (r : Int) < max 1 ((s.size : Int) - 1) := by
                have he : (s.extract 1 s.size).size = s.size - 1 := by simp
                unfold runeAtF
                rw [he] at hrl ⊢
                omega
              clear hrl
              generalize runeAtF (s.extract 1 s.size) (r : Int) = m at *
              have z0 := (BT5).cell 0
              have z1 := (BT5).cell 1
              have z2 := (BT5).cell 2
              have z3 := (BT5).cell 3
              have z4 := (BT5).cell 4
              have z5 := (BT5).cell 5
              have z6 := (BT5).cell 6
              simp at z0 z1 z2 z3 z4 z5 z6
              have zf := fun o => (BT5).frozen o
              by_cases hm : m < 0
              · have HF2 : Hid (R = ((0, ⟨#[]⟩, 0), 0, false)) := by unfold Hid; rw [HF.out]; unfold quoW; rw [if_pos hm]
                have hmb : decide (m < 0) = true := by simp [hm]
                clear hm
                go_wp2_with fail
                refine bodyPost_ret (v := .tuple #[.agg #[.int .i64 0, .string ⟨#[]⟩, .int .i64 0, .int .i64 0, .int .i64 0, .int .i64 0, .int .i64 0], .int .i64 0, .bool false]) ?h1 rfl ⟨by rw [HF2.out], ?h2⟩
                case h1 => simp [results, Tryz.results68, go_sem, z0, z1, z2, z3, z4, z5, z6]
                case h2 => repeat' first | with_reducible exact hbW5 | with_reducible refine Below.setCell ?_ ?_ _ | exact Nat.le_refl _
              · have HF2 : Hid (R = ((1, s.extract 1 (1 + m.toNat), 0), m + 2, true)) := by unfold Hid; rw [HF.out]; unfold quoW; rw [if_neg hm]
                obtain ⟨m, rfl⟩ := Int.eq_ofNat_of_zero_le (Int.not_lt.1 hm)
                rw [Int.toNat_natCast] at HF2
                have hmb : decide ((m : Int) < 0) = false := by simp
                have hms : 1 + (m : Int) ≤ (s.size : Int) := by omega
                clear hm
                go_wp2_with fail
                refine bodyPost_ret (v := .tuple #[.agg #[.int .i64 1, .string (s.extract 1 (1 + m)), .int .i64 0, .int .i64 0, .int .i64 0, .int .i64 0, .int .i64 0], .int .i64 ((m : Int) + 2), .bool true]) ?h1 rfl ⟨by rw [HF2.out], ?h2⟩
                case h1 => simp [results, Tryz.results68, go_sem, z0, z1, z2, z3, z4, z5, z6]
                case h2 => repeat' first | with_reducible exact hbW5 | with_reducible refine Below.setCell ?_ ?_ _ | exact Nat.le_refl _
            · go_wp2_with fail
              refine (runeAt_any (s.extract 1 s.size) (r : Int) W4 (by simp; omega)).mono ?_
              rintro e W5 ⟨rfl, hb5⟩
              have BT5 := BT4.below hb5
              have hbW5 := hbW4.trans (hb5.mono hbW4.size)
              have hrl := runeGo_lt (s.extract 1 s.size) (r : Int) (s.extract 1 s.size).size 0
              have hrl2 : -1 ≤ runeAtF (s.extract 1 s.size) (r : Int) ∧ runeAtF (s.extract 1 s.size) (r : Int) < max 1 ((s.size : Int) - 1) := by
                have he : (s.extract 1 s.size).size = s.size - 1 := by simp
                unfold runeAtF
                rw [he] at hrl ⊢
                omega
              clear hrl
              generalize runeAtF (s.extract 1 s.size) (r : Int) = m at *
              have z0 := (BT5).cell 0
              have z1 := (BT5).cell 1
              have z2 := (BT5).cell 2
              have z3 := (BT5).cell 3
              have z4 := (BT5).cell 4
              have z5 := (BT5).cell 5
              have z6 := (BT5).cell 6
              simp at z0 z1 z2 z3 z4 z5 z6
              have zf := fun o => (BT5).frozen o
              by_cases hm : m < 0
              · have HF2 : Hid (R = ((0, ⟨#[]⟩, 0), 0, false)) := by unfold Hid; rw [HF.out]; unfold quoW; rw [if_pos hm]
                have hmb : decide (m < 0) = true := by simp [hm]
                clear hm
                go_wp2_with fail
                refine bodyPost_ret (v := .tuple #[.agg #[.int .i64 0, .string ⟨#[]⟩, .int .i64 0, .int .i64 0, .int .i64 0, .int .i64 0, .int .i64 0], .int .i64 0, .bool false]) ?h1 rfl ⟨by rw [HF2.out], ?h2⟩
                case h1 => simp [results, Tryz.results68, go_sem, z0, z1, z2, z3, z4, z5, z6]
                case h2 => repeat' first | with_reducible exact hbW5 | with_reducible refine Below.setCell ?_ ?_ _ | exact Nat.le_refl _
              · have HF2 : Hid (R = ((1, s.extract 1 (1 + m.toNat), 0), m + 2, true)) := by unfold Hid; rw [HF.out]; unfold quoW; rw [if_neg hm]
                obtain ⟨m, rfl⟩ := Int.eq_ofNat_of_zero_le (Int.not_lt.1 hm)
                rw [Int.toNat_natCast] at HF2
                have hmb : decide ((m : Int) < 0) = false := by simp
                have hms : 1 + (m : Int) ≤ (s.size : Int) := by omega
                clear hm
                go_wp2_with fail
                refine bodyPost_ret (v := .tuple #[.agg #[.int .i64 1, .string (s.extract 1 (1 + m)), .int .i64 0, .int .i64 0, .int .i64 0, .int .i64 0, .int .i64 0], .int .i64 ((m : Int) + 2), .bool true]) ?h1 rfl ⟨by rw [HF2.out], ?h2⟩
                case h1 => simp [results, Tryz.results68, go_sem, z0, z1, z2, z3, z4, z5, z6]
                case h2 => repeat' first | with_reducible exact hbW5 | with_reducible refine Below.setCell ?_ ?_ _ | exact Nat.le_refl _
          case' neg =>
            have HS : Hid (R = signW s) := by unfold Hid; rw [HR2.out, hc2, hc4]; simp [hq]
            have hq1 : ((r : Int) == 34) = false ∧ ((r : Int) == 39) = false := by
              refine ⟨?_, ?_⟩
              · rw [beq_eq_false_iff_ne]; exact fun e => hq (.inl e)
              · rw [beq_eq_false_iff_ne]; exact fun e => hq (.inr e)
            obtain ⟨hq1, hq2⟩ := hq1
            clear hq
            have B9 := BT4
            have hb9 := hbW4
            go_wp2_with fail
            obtain ⟨W9, rfl⟩ : ∃ W : World, W = W4 := ⟨_, rfl⟩
    all_goals
      refine (lsign_any s W9 (HT.out.below hb9)).mono ?_
      rintro e W10 ⟨rfl, hb10⟩
      have B10 := B9.below hb10
      have hbW10 := hb9.trans (hb10.mono hb9.size)
      have HF : Hid (R = ((3, signF s, 0), ((signF s).size : Int), !decide (signF s = ⟨#[]⟩))) := HS
      generalize signF s = x at *
      have z0 := (B10).cell 0
      have z1 := (B10).cell 1
      have z2 := (B10).cell 2
      have z3 := (B10).cell 3
      have z4 := (B10).cell 4
      have z5 := (B10).cell 5
      have z6 := (B10).cell 6
      simp at z0 z1 z2 z3 z4 z5 z6
      have zf := fun o => (B10).frozen o
      cases hx : decide (x = ⟨#[]⟩)
      · rw [hx] at HF
        have hxb : (x.toList == []) = false := by
          have h := of_decide_eq_false hx
          rw [beq_eq_false_iff_ne]
          intro e
          exact h (by rw [str_eq, e, ByteArray.toList_eq])
        clear hx
        go_wp2_with fail
        refine bodyPost_ret (v := .tuple #[.agg #[.int .i64 3, .string x, .int .i64 0, .int .i64 0, .int .i64 0, .int .i64 0, .int .i64 0], .int .i64 x.size, .bool true]) ?h1 rfl ⟨by rw [HF.out]; rfl, ?h2⟩
        case h1 => simp [results, Tryz.results68, go_sem, z0, z1, z2, z3, z4, z5, z6]
        case h2 => repeat' first | with_reducible exact hbW10 | with_reducible refine Below.setCell ?_ ?_ _ | exact Nat.le_refl _
      · rw [hx] at HF
        obtain rfl := of_decide_eq_true hx
        go_wp2_with fail
        refine bodyPost_ret (v := .tuple #[.agg #[.int .i64 3, .string ⟨#[]⟩, .int .i64 0, .int .i64 0, .int .i64 0, .int .i64 0, .int .i64 0], .int .i64 0, .bool false]) ?h1 rfl ⟨by rw [HF.out]; rfl, ?h2⟩
        case h1 => simp [results, Tryz.results68, go_sem, z0, z1, z2, z3, z4, z5, z6]
        case h2 => repeat' first | with_reducible exact hbW10 | with_reducible refine Below.setCell ?_ ?_ _ | exact Nat.le_refl _
end Go.Proofs.YtbbmmeaicilabaaGreatDoor
