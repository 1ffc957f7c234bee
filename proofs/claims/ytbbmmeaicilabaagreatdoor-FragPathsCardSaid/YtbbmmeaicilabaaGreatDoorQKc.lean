/- lexis: run, number, runeAt, sign; runes.Mend. Conditions: the tables lie as the text lays them; texts of at most a million bytes. -/
import Derived.Test.YtbbmmeaicilabaaGreatDoorQGd
import Derived.Laws.Cover4
import Derived.Lib.MinMax
import Derived.Lib.TrimU
set_option linter.unusedVariables false
set_option linter.unusedSimpArgs false
namespace Go.Proofs.YtbbmmeaicilabaaGreatDoor
open Go.RowKit
open Go.RowKit (wrap32 wrap64)

/-! the plain functions -/
def runGo (s : ByteArray) (c : Nat) : Nat → Nat → Nat
  | 0, _ => s.size
  | f + 1, pos => if pos < s.size then (if isC c (Utf8.decode s pos).1 then runGo s c f (pos + (Utf8.decode s pos).2) else pos) else s.size
/-- how many bytes, from the beginning, are of characters of the class -/
def runF (s : ByteArray) (c : Nat) : Nat := runGo s c s.size 0
theorem runGo_le (s : ByteArray) (c : Nat) : ∀ f pos, runGo s c f pos ≤ s.size
  | 0, _ => Nat.le_refl _
  | f + 1, pos => by
    unfold runGo
    split
    · split
      · exact runGo_le s c f _
      · omega
    · exact Nat.le_refl _
theorem runF_le (s : ByteArray) (c : Nat) : runF s c ≤ s.size := runGo_le s c _ _
def numGo (s : ByteArray) : Nat → Nat → Int → Int
  | 0, _, n => n
  | f + 1, pos, n => if pos < s.size then numGo s f (pos + (Utf8.decode s pos).2) (min (wrap64 (wrap64 (10 * n) + wrap64 (wrap32 (((Utf8.decode s pos).1 : Int) - 48)))) 1000001) else n
def numF (s : ByteArray) : Int := numGo s s.size 0 0
def runeGo (s : ByteArray) (r : Int) : Nat → Nat → Int
  | 0, _ => -1
  | f + 1, pos => if pos < s.size then (if ((Utf8.decode s pos).1 : Int) = r then pos else runeGo s r f (pos + (Utf8.decode s pos).2)) else -1
/-- where a rune first stands, or -1 -/
def runeAtF (s : ByteArray) (r : Int) : Int := runeGo s r s.size 0
theorem runeGo_lt (s : ByteArray) (r : Int) : ∀ f pos, -1 ≤ runeGo s r f pos ∧ runeGo s r f pos < max 1 s.size
  | 0, _ => by unfold runeGo; omega
  | f + 1, pos => by
    unfold runeGo
    split
    · split
      · omega
      · exact runeGo_lt s r f _
    · omega

set_option maxHeartbeats 2000000 in
theorem run_any (s : ByteArray) (c : Int) (h0 : 0 ≤ c) (hc : c < 6) (w : World) (hs : s.size ≤ 9223372036854775807) (hT : TabR w) :
    Calls Tryz.prog 67 #[.string s, .int .i64 c] w fun e w' => e = .returned (.int .i64 (runF s c.toNat)) ∧ Below w.heap.size w w' := by
  obtain ⟨k, rfl⟩ := Int.eq_ofNat_of_zero_le h0
  rw [Int.toNat_natCast]
  have HT := Lib.hid hT
  clear hT
  go_enter Tryz.func67, Tryz.ntmps67
  go_wp2_with fail
  go_loopw [5] (fun _ wr => ∃ (pos fuel : Nat), wr.heap[w.heap.size]? = some (.stringIter s pos) ∧ Below w.heap.size w wr ∧ Hid (runF s k = runGo s k fuel pos) ∧ s.size ≤ pos + fuel) (fun _ wr => s.size - wr.iterPos (w.heap.size))
  case atStart => exact ⟨0, s.size, by simpa using World.iter_heap w s 0, bl1 (Nat.le_refl _), rfl, by omega⟩
  case round =>
    obtain ⟨pos, fuel, hit, hbw, HE, hfu⟩ := hrel
    have hsz : w.heap.size < wr.heap.size := (Array.getElem?_eq_some_iff.1 hit).1
    by_cases hp : pos < s.size
    · have hnx : ∀ ty, (Instr.next (.pointer (some ⟨w.heap.size, 0, none⟩)) true ty).run Tryz.prog wr = _ := fun ty => Lib.run_next_any_at wr w.heap.size s pos ty hit hp
      have hd1 := decode_le s pos
      have hit2 := Lib.iterAt_heap wr w.heap.size s pos (pos + (Utf8.decode s pos).2) hit
      have hbw2 := Lib.below_iterAt hbw (k := w.heap.size) (by omega) s (pos + (Utf8.decode s pos).2)
      obtain ⟨f, rfl⟩ : ∃ f, fuel = f + 1 := ⟨fuel - 1, by omega⟩
      have HN : Hid (runGo s k (f + 1) pos = if isC k (Utf8.decode s pos).1 then runGo s k f (pos + (Utf8.decode s pos).2) else pos) := by unfold Hid; rw [runGo, if_pos hp]
      have HT2 := HT.out.below (hbw2.mono (Nat.le_refl _))
      generalize (Utf8.decode s pos).1 = r at *
      generalize hw2 : wr.iterAt w.heap.size s (pos + (Utf8.decode s pos).2) = w2 at *
      have hwd := Lib.width_pos s pos
      go_wp2_with fail
      refine (charsIs_any (k : Int) (by omega) (by omega) r _ HT2).mono ?_
      rintro e w3 ⟨rfl, hb3⟩
      rw [Int.toNat_natCast]
      have hbw3 := hbw2.trans (hb3.mono hbw2.size)
      cases hcb : isC k r
      · have HF : Hid (runF s k = pos) := by unfold Hid; rw [HE.out, HN.out, hcb]; rfl
        clear hcb
        go_wp2_with fail
        go_ret
        exact ⟨by rw [HF.out]; rfl, hbw3⟩
      · have HN2 : Hid (runF s k = runGo s k f (pos + (Utf8.decode s pos).2)) := by unfold Hid; rw [HE.out, HN.out, hcb]; rfl
        have hit3 : w3.heap[w.heap.size]? = some (.stringIter s (pos + (Utf8.decode s pos).2)) := (hb3.block _ (by have := (Array.getElem?_eq_some_iff.1 hit2).1; exact this)).trans hit2
        have hip3 : w3.iterPos w.heap.size = pos + (Utf8.decode s pos).2 := by simp [World.iterPos, hit3]
        have hip : wr.iterPos w.heap.size = pos := by simp [World.iterPos, hit]
        clear hcb
        go_wp2_with fail
        go_roundw
        case rel => exact ⟨_, f, hit3, hbw3, HN2, by omega⟩
        case measure => rw [hip3, hip]; omega
    · have hnx : ∀ ty, (Instr.next (.pointer (some ⟨w.heap.size, 0, none⟩)) true ty).run Tryz.prog wr = _ := fun ty => Lib.run_next_end_at wr w.heap.size s pos ty hit hp
      have HN : Hid (runF s k = s.size) := by
        unfold Hid
        rw [HE.out]
        cases fuel
        · rw [runGo]
        · rw [runGo, if_neg hp]
      go_wp2_with fail
      go_ret
      exact ⟨by rw [HN.out]; rfl, hbw⟩

set_option maxHeartbeats 2000000 in
theorem runeAt_any (s : ByteArray) (r0 : Int) (w : World) (hs : s.size ≤ 9223372036854775807) :
    Calls Tryz.prog 94 #[.string s, .int .i32 r0] w fun e w' => e = .returned (.int .i64 (runeAtF s r0)) ∧ Below w.heap.size w w' := by
  go_enter Tryz.func94, Tryz.ntmps94
  go_wp2_with fail
  go_loopw [5] (fun _ wr => ∃ (pos fuel : Nat), wr.heap[w.heap.size]? = some (.stringIter s pos) ∧ Below w.heap.size w wr ∧ Hid (runeAtF s r0 = runeGo s r0 fuel pos) ∧ s.size ≤ pos + fuel) (fun _ wr => s.size - wr.iterPos (w.heap.size))
  case atStart => exact ⟨0, s.size, by simpa using World.iter_heap w s 0, bl1 (Nat.le_refl _), rfl, by omega⟩
  case round =>
    obtain ⟨pos, fuel, hit, hbw, HE, hfu⟩ := hrel
    have hsz : w.heap.size < wr.heap.size := (Array.getElem?_eq_some_iff.1 hit).1
    by_cases hp : pos < s.size
    · have hnx : ∀ ty, (Instr.next (.pointer (some ⟨w.heap.size, 0, none⟩)) true ty).run Tryz.prog wr = _ := fun ty => Lib.run_next_any_at wr w.heap.size s pos ty hit hp
      have hit2 := Lib.iterAt_heap wr w.heap.size s pos (pos + (Utf8.decode s pos).2) hit
      have hbw2 := Lib.below_iterAt hbw (k := w.heap.size) (by omega) s (pos + (Utf8.decode s pos).2)
      obtain ⟨f, rfl⟩ : ∃ f, fuel = f + 1 := ⟨fuel - 1, by omega⟩
      have HN : Hid (runeGo s r0 (f + 1) pos = if ((Utf8.decode s pos).1 : Int) = r0 then (pos : Int) else runeGo s r0 f (pos + (Utf8.decode s pos).2)) := by unfold Hid; rw [runeGo, if_pos hp]
      generalize ((Utf8.decode s pos).1 : Int) = r at *
      have hwd := Lib.width_pos s pos
      have hip3 : (wr.iterAt w.heap.size s (pos + (Utf8.decode s pos).2)).iterPos w.heap.size = pos + (Utf8.decode s pos).2 := by simp [World.iterPos, hit2]
      have hip : wr.iterPos w.heap.size = pos := by simp [World.iterPos, hit]
      have HIP := Lib.hid hip
      have HIP3 := Lib.hid hip3
      clear hip hip3
      by_cases hr : r = r0
      · have hrb : (r == r0) = true := by simp [hr]
        have HF : Hid (runeAtF s r0 = pos) := by unfold Hid; rw [HE.out, HN.out, if_pos hr]
        clear hr
        go_wp2_with fail
        go_ret
        exact ⟨by rw [HF.out]; rfl, hbw2⟩
      · have hrb : (r == r0) = false := by simp [hr]
        have HF : Hid (runeAtF s r0 = runeGo s r0 f (pos + (Utf8.decode s pos).2)) := by unfold Hid; rw [HE.out, HN.out, if_neg hr]
        clear hr
        go_wp2_with fail
        go_roundw
        case rel => exact ⟨_, f, hit2, hbw2, HF, by omega⟩
        case measure => rw [HIP3.out, HIP.out]; omega
    · have hnx : ∀ ty, (Instr.next (.pointer (some ⟨w.heap.size, 0, none⟩)) true ty).run Tryz.prog wr = _ := fun ty => Lib.run_next_end_at wr w.heap.size s pos ty hit hp
      have HN : Hid (runeAtF s r0 = -1) := by
        unfold Hid
        rw [HE.out]
        cases fuel
        · rw [runeGo]
        · rw [runeGo, if_neg hp]
      go_wp2_with fail
      go_ret
      exact ⟨by rw [HN.out]; rfl, hbw⟩

set_option maxHeartbeats 4000000 in
theorem number_any (s : ByteArray) (w : World) (hs : s.size ≤ 9223372036854775807) :
    Calls Tryz.prog 93 #[.string s] w fun e w' => e = .returned (.tuple #[.int .i64 (numF s), .bool (decide (numF s ≤ 1000000))]) ∧ Below w.heap.size w w' := by
  go_enter Tryz.func93, Tryz.ntmps93
  go_wp2_with fail
  go_loopw [4] (fun v wr => ∃ (pos fuel : Nat) (n : Int), v = .int .i64 n ∧ wr.heap[w.heap.size]? = some (.stringIter s pos) ∧ Below w.heap.size w wr ∧ Hid (numF s = numGo s fuel pos n) ∧ s.size ≤ pos + fuel) (fun _ wr => s.size - wr.iterPos (w.heap.size))
  case atStart => exact ⟨0, s.size, 0, rfl, by simpa using World.iter_heap w s 0, bl1 (Nat.le_refl _), rfl, by omega⟩
  case round =>
    obtain ⟨pos, fuel, n, rfl, hit, hbw, HE, hfu⟩ := hrel
    have hsz : w.heap.size < wr.heap.size := (Array.getElem?_eq_some_iff.1 hit).1
    by_cases hp : pos < s.size
    · have hnx : ∀ ty, (Instr.next (.pointer (some ⟨w.heap.size, 0, none⟩)) true ty).run Tryz.prog wr = _ := fun ty => Lib.run_next_any_at wr w.heap.size s pos ty hit hp
      have hit2 := Lib.iterAt_heap wr w.heap.size s pos (pos + (Utf8.decode s pos).2) hit
      have hbw2 := Lib.below_iterAt hbw (k := w.heap.size) (by omega) s (pos + (Utf8.decode s pos).2)
      obtain ⟨f, rfl⟩ : ∃ f, fuel = f + 1 := ⟨fuel - 1, by omega⟩
      have HN : Hid (numGo s (f + 1) pos n = numGo s f (pos + (Utf8.decode s pos).2) (min (wrap64 (wrap64 (10 * n) + wrap64 (wrap32 (((Utf8.decode s pos).1 : Int) - 48)))) 1000001)) := by unfold Hid; rw [numGo, if_pos hp]
      generalize ((Utf8.decode s pos).1 : Int) = r at *
      have hwd := Lib.width_pos s pos
      have hip3 : (wr.iterAt w.heap.size s (pos + (Utf8.decode s pos).2)).iterPos w.heap.size = pos + (Utf8.decode s pos).2 := by simp [World.iterPos, hit2]
      have hip : wr.iterPos w.heap.size = pos := by simp [World.iterPos, hit]
      have HIP := Lib.hid hip
      have HIP3 := Lib.hid hip3
      clear hip hip3
      have HF : Hid (numF s = numGo s f (pos + (Utf8.decode s pos).2) (min (wrap64 (wrap64 (10 * n) + wrap64 (wrap32 (r - 48)))) 1000001)) := by unfold Hid; rw [HE.out, HN.out]
      go_wp2_with fail
      go_roundw
      case rel => exact ⟨_, f, _, rfl, hit2, hbw2, HF, by omega⟩
      case measure => rw [HIP3.out, HIP.out]; omega
    · have hnx : ∀ ty, (Instr.next (.pointer (some ⟨w.heap.size, 0, none⟩)) true ty).run Tryz.prog wr = _ := fun ty => Lib.run_next_end_at wr w.heap.size s pos ty hit hp
      have HN : Hid (numF s = n) := by
        unfold Hid
        rw [HE.out]
        cases fuel
        · rw [numGo]
        · rw [numGo, if_neg hp]
      go_wp2_with fail
      go_ret2
      exact ⟨by rw [HN.out]; rfl, hbw⟩
end Go.Proofs.YtbbmmeaicilabaaGreatDoor
