/- gimletref02: Ranges and Is for the classes of names; Bytes; Span of one to four bytes. Conditions: none but those (classes 2 and 3; bytes that lie in memory). -/
import Derived.Test.YtbbmmeaicilabaaGreatDoorQGd
import Derived.Deep.DeepCutAuto
import Derived.Deep.RegionHeld3
import Derived.Lib.ConvBytes
import Derived.Lib.DecodeN
import Derived.Laws.IdiomStrings
set_option linter.unusedVariables false
set_option linter.unusedSimpArgs false
namespace Go.Proofs.YtbbmmeaicilabaaGreatDoor
open Go.RowKit

def encP (p : Int × Int) : List Value := [.int .i64 p.1, .int .i64 p.2]
def kPair : Knd (Int × Int) := kF 2 (by decide) encP (fun _ => rfl) (fun x u hu => by simp [encP] at hu; rcases hu with rfl | rfl <;> rfl)
theorem flat2_get (l : List (Int × Int)) (j i : Nat) (hj : j < l.length) (hi : i < 2) : (l.flatMap encP)[j * 2 + i]? = (encP l[j])[i]? := by
  induction l generalizing j with
  | nil => simp at hj
  | cons p t ih =>
    rw [List.flatMap_cons]
    cases j with
    | zero => simp only [Nat.zero_mul, Nat.zero_add, List.getElem_cons_zero]; rw [List.getElem?_append_left (by simpa [encP] using hi)]
    | succ j =>
      rw [List.getElem?_append_right (by simp [encP]; omega), show (j + 1) * 2 + i - (encP p).length = j * 2 + i by simp [encP]; omega, ih j (by simpa using hj)]
      simp
theorem row_flat (w : World) (l : List (Int × Int)) (t : TypeId) (cs : Array Value) (hcs : cs = (l.flatMap encP).toArray) (ok : Nat → Prop) (hok : ok w.heap.size) (hl : l.length ≤ 9223372036854775807) : RowK kPair (w.alloc (.cells cs t)) ok (some ⟨w.heap.size, 0, none⟩) l := by
  subst hcs
  refine ⟨fun j => (l[j]?.map encP).getD [], ⟨hl, fun hn => ⟨w.heap.size, 0, rfl, hok, by simp, fun j hj i u hu => ?_⟩⟩, fun j p hj => ?_⟩
  · simp only [List.getElem?_eq_getElem hj, Option.map_some, Option.getD_some] at hu
    have hi : i < 2 := by
      have := (List.getElem?_eq_some_iff.1 hu).1; simpa [encP] using this
    have h := flat2_get l j i hj hi
    rw [hu] at h
    refine ⟨?_, frozen_of_row _ _ _ _ _ (heap_alloc_new w _)⟩
    show (w.alloc _).cell? ⟨w.heap.size, 0 + j * 2 + i, none⟩ = some u
    rw [cell_of_row (w.alloc _) w.heap.size (0 + j * 2 + i) _ _ (0, 0) (heap_alloc_new w _)]
    rw [Nat.zero_add]; simpa using h
  · show (Option.map encP l[j]?).getD [] = encP p
    rw [hj]; rfl

theorem inR_any (l : List (Int × Int)) (r : Int) (h : l.Pairwise (fun p q => p.2 < q.1)) : inR l r = l.any (fun p => decide (p.1 ≤ r) && decide (r ≤ p.2)) := by
  induction l with
  | nil => rfl
  | cons p t ih =>
    rw [List.pairwise_cons] at h
    rw [inR, List.any_cons]
    split
    · rename_i hr
      have hz : t.any (fun p => decide (p.1 ≤ r) && decide (r ≤ p.2)) = false := by
        rw [List.any_eq_false]
        intro q hq
        have := h.1 q hq
        simp; intro h1; omega
      rw [hz]; simp [hr]
    · rename_i hr
      rw [ih h.2]; simp [hr]
theorem isC_any (c : Nat) (hc : c = 2 ∨ c = 3) (r : Int) : isC c r = (rangesL c).any (fun p => decide (p.1 ≤ r) && decide (r ≤ p.2)) := by
  unfold isC
  rcases hc with rfl | rfl
  · exact inR_any _ r (by decide)
  · exact inR_any _ r (by decide)

set_option maxRecDepth 100000 in
set_option maxHeartbeats 2000000 in
theorem ranges2_any (w : World) : Calls Tryz.prog 152 #[.int .i64 2] w fun e w' => e = .returned (.slice (some ⟨w.heap.size, 0, none⟩) (rangesL 2).length (rangesL 2).length) ∧ RowK kPair w' (fun k => w.heap.size ≤ k) (some ⟨w.heap.size, 0, none⟩) (rangesL 2) ∧ Below w.heap.size w w' := by
  go_enter Tryz.func152, Tryz.ntmps152
  go_wp2_with fail
  go_ret
  exact ⟨rfl, row_flat w (rangesL 2) _ _ rfl _ (Nat.le_refl _) (by decide), bl1 (Nat.le_refl _)⟩
set_option maxRecDepth 100000 in
set_option maxHeartbeats 2000000 in
theorem ranges3_any (w : World) : Calls Tryz.prog 152 #[.int .i64 3] w fun e w' => e = .returned (.slice (some ⟨w.heap.size, 0, none⟩) (rangesL 3).length (rangesL 3).length) ∧ RowK kPair w' (fun k => w.heap.size ≤ k) (some ⟨w.heap.size, 0, none⟩) (rangesL 3) ∧ Below w.heap.size w w' := by
  go_enter Tryz.func152, Tryz.ntmps152
  go_wp2_with fail
  go_ret
  exact ⟨rfl, row_flat w (rangesL 3) _ _ rfl _ (Nat.le_refl _) (by decide), bl1 (Nat.le_refl _)⟩

set_option maxHeartbeats 2000000 in
theorem rIs_any (c : Nat) (hc : c = 2 ∨ c = 3) (r : Int) (w : World) : Calls Tryz.prog 134 #[.int .i64 c, .int .i64 r] w fun e w' => e = .returned (.bool (isC c r)) ∧ Below w.heap.size w w' := by
  have HR : Hid (∀ w : World, Calls Tryz.prog 152 #[.int .i64 c] w fun e w' => e = .returned (.slice (some ⟨w.heap.size, 0, none⟩) (rangesL c).length (rangesL c).length) ∧ RowK kPair w' (fun k => w.heap.size ≤ k) (some ⟨w.heap.size, 0, none⟩) (rangesL c) ∧ Below w.heap.size w w') := by
    rcases hc with rfl | rfl
    · exact ranges2_any
    · exact ranges3_any
  rw [isC_any c hc r]
  generalize rangesL c = l at *
  go_enter Tryz.func134, Tryz.ntmps134
  go_wp2_with fail
  refine (HR.out _).mono ?_
  rintro e w1 ⟨rfl, hrow, hb1⟩
  have hlen := hrow.len
  go_wp2_with fail
  go_loopw [10] (fun i wr => ∃ k : Nat, k ≤ l.length ∧ i = .int .i64 k ∧ Hid (l.any (fun p => decide (p.1 ≤ r) && decide (r ≤ p.2)) = (l.drop k).any (fun p => decide (p.1 ≤ r) && decide (r ≤ p.2))) ∧ Below w1.heap.size w1 wr) (fun i _ => l.length - (intOf i).toNat)
  case atStart => exact ⟨0, Nat.zero_le _, rfl, rfl, Below.refl _ _⟩
  case round =>
    obtain ⟨k, hk, rfl, HE, hbr⟩ := hrel
    have hbR := hb1.trans (hbr.mono hb1.size)
    by_cases hlt : k < l.length
    · obtain ⟨b, off, cs, heq, hbw, hK, hcell⟩ := (hrow.below hbr).at k hlt
      obtain ⟨rfl, rfl⟩ : w.heap.size = b ∧ 0 = off := by simpa using heq
      clear heq
      have hd : (l.drop k).any (fun p => decide (p.1 ≤ r) && decide (r ≤ p.2)) = ((decide (l[k].1 ≤ r) && decide (r ≤ l[k].2)) || (l.drop (k + 1)).any (fun p => decide (p.1 ≤ r) && decide (r ≤ p.2))) := by
        rw [List.drop_eq_getElem_cons hlt, List.any_cons]
      generalize l[k] = p at hK hd
      obtain rfl : cs = _ := hK
      have c0 := hcell 0 _ rfl
      have c1 := hcell 1 _ rfl
      simp only [Nat.add_zero, Nat.zero_add, show kPair.sz = 2 from rfl] at c0 c1
      obtain ⟨lo, hi⟩ := p
      have HD := Lib.hid hd
      clear hd hcell
      have hbb : w.heap.size ≠ wr.heap.size := by omega
      have hbR2 := hbR.trans ((bl1 (o := Obj.cells #[.int .i64 lo, .int .i64 hi] 182) (Nat.le_refl _)).mono hbR.size)
      have hbr2 := hbr.trans ((bl1 (o := Obj.cells #[.int .i64 lo, .int .i64 hi] 182) (Nat.le_refl _)).mono hbr.size)
      by_cases h1 : lo ≤ r
      · by_cases h2 : r ≤ hi
        · have HA : Hid (l.any (fun p => decide (p.1 ≤ r) && decide (r ≤ p.2)) = true) := by unfold Hid; rw [HE.out, HD.out]; simp [h1, h2]
          go_wp2_with fail
          go_ret
          exact ⟨by rw [HA.out]; rfl, hbR2⟩
        · have HA : Hid (l.any (fun p => decide (p.1 ≤ r) && decide (r ≤ p.2)) = (l.drop (k + 1)).any (fun p => decide (p.1 ≤ r) && decide (r ≤ p.2))) := by unfold Hid; rw [HE.out, HD.out]; simp [h1, h2]
          go_wp2_with fail
          go_roundw
          case rel => exact ⟨k + 1, by omega, by go_num, HA, hbr2⟩
          case measure => simp [intOf]; omega
      · have HA : Hid (l.any (fun p => decide (p.1 ≤ r) && decide (r ≤ p.2)) = (l.drop (k + 1)).any (fun p => decide (p.1 ≤ r) && decide (r ≤ p.2))) := by unfold Hid; rw [HE.out, HD.out]; simp [h1]
        go_wp2_with fail
        go_roundw
        case rel => exact ⟨k + 1, by omega, by go_num, HA, hbr2⟩
        case measure => simp [intOf]; omega
    · have HF : Hid (l.any (fun p => decide (p.1 ≤ r) && decide (r ≤ p.2)) = false) := by unfold Hid; rw [HE.out, List.drop_of_length_le (by omega)]; rfl
      go_wp2_with fail
      go_ret
      exact ⟨by rw [HF.out]; rfl, hbR⟩

/-- a character's bytes -/
def bytesF (v : Nat) : List UInt8 :=
  if v < 128 then [UInt8.ofNat v]
  else if v < 2048 then [UInt8.ofNat (192 + v / 64), UInt8.ofNat (128 + v % 64)]
  else if v < 65536 then [UInt8.ofNat (224 + v / 4096), UInt8.ofNat (128 + v / 64 % 64), UInt8.ofNat (128 + v % 64)]
  else [UInt8.ofNat (240 + v / 262144), UInt8.ofNat (128 + v / 4096 % 64), UInt8.ofNat (128 + v / 64 % 64), UInt8.ofNat (128 + v % 64)]
theorem u8_ofNat (n : Nat) (h : n < 256) : ((UInt8.ofNat n).toNat : Int) = n := by simp; omega

theorem cells_u8 (w : World) (t : TypeId) (cs : Array Value) (l : List UInt8) (h : cs = (l.map fun b => Value.int .u8 (b.toNat : Int)).toArray) (j : Nat) (hj : j < l.length) : (w.alloc (.cells cs t)).cell? ⟨w.heap.size, j, none⟩ = some (.int .u8 (l[j].toNat : Int)) := by
  subst h
  rw [cell_of_row (w.alloc _) w.heap.size j _ _ (0, 0) (heap_alloc_new w _)]
  simp [hj]

set_option maxRecDepth 10000 in
set_option maxHeartbeats 4000000 in
theorem rBytes_any (v : Int) (h0 : 0 ≤ v) (hv : v ≤ 1114111) (w : World) : Calls Tryz.prog 151 #[.int .i64 v] w fun e w' => e = .returned (.slice (some ⟨w.heap.size, 0, none⟩) (bytesF v.toNat).length (bytesF v.toNat).length) ∧ (∀ j (hj : j < (bytesF v.toNat).length), w'.cell? ⟨w.heap.size, j, none⟩ = some (.int .u8 ((bytesF v.toNat)[j].toNat : Int))) ∧ Below w.heap.size w w' := by
  generalize hl : bytesF v.toNat = l
  have HL := Lib.hid hl
  have H0 := Lib.hid h0
  have HV := Lib.hid hv
  clear h0 hv hl
  go_enter Tryz.func151, Tryz.ntmps151
  go_upto_if 3 with fail
  by_cases h1 : v < 128
  · have h0 := H0.out
    have e : l = [UInt8.ofNat v.toNat] := by rw [← HL.out]; unfold bytesF; rw [if_pos (by omega)]
    have E := Lib.hid e
    clear e
    go_wp2_with fail
    go_ret
    refine ⟨by rw [E.out]; rfl, fun j hj => ?_, bl1 (Nat.le_refl _)⟩
    refine cells_u8 _ _ _ l ?_ j hj
    rw [E.out]
    obtain ⟨n, rfl⟩ := Int.eq_ofNat_of_zero_le H0.out
    simp
    omega
  · go_upto_if 9 with fail
    by_cases h2 : v < 2048
    · have e : l = [UInt8.ofNat (192 + v.toNat / 64), UInt8.ofNat (128 + v.toNat % 64)] := by rw [← HL.out]; unfold bytesF; rw [if_neg (by omega), if_pos (by omega)]
      have E := Lib.hid e
      clear e
      go_wp2_with fail
      go_ret
      refine ⟨by rw [E.out]; rfl, fun j hj => ?_, bl1 (Nat.le_refl _)⟩
      refine cells_u8 _ _ _ l ?_ j hj
      rw [E.out]
      obtain ⟨n, rfl⟩ := Int.eq_ofNat_of_zero_le H0.out
      simp
      omega
    · go_upto_if 21 with fail
      by_cases h3 : v < 65536
      · have e : l = [UInt8.ofNat (224 + v.toNat / 4096), UInt8.ofNat (128 + v.toNat / 64 % 64), UInt8.ofNat (128 + v.toNat % 64)] := by rw [← HL.out]; unfold bytesF; rw [if_neg (by omega), if_neg (by omega), if_pos (by omega)]
        have E := Lib.hid e
        clear e
        go_wp2_with fail
        go_ret
        refine ⟨by rw [E.out]; rfl, fun j hj => ?_, bl1 (Nat.le_refl _)⟩
        refine cells_u8 _ _ _ l ?_ j hj
        rw [E.out]
        obtain ⟨n, rfl⟩ := Int.eq_ofNat_of_zero_le H0.out
        simp
        omega
      · have hv := HV.out
        have h0 := H0.out
        have e : l = [UInt8.ofNat (240 + v.toNat / 262144), UInt8.ofNat (128 + v.toNat / 4096 % 64), UInt8.ofNat (128 + v.toNat / 64 % 64), UInt8.ofNat (128 + v.toNat % 64)] := by rw [← HL.out]; unfold bytesF; rw [if_neg (by omega), if_neg (by omega), if_neg (by omega)]
        have E := Lib.hid e
        clear e
        go_wp2_with fail
        go_ret
        refine ⟨by rw [E.out]; rfl, fun j hj => ?_, bl1 (Nat.le_refl _)⟩
        refine cells_u8 _ _ _ l ?_ j hj
        rw [E.out]
        obtain ⟨n, rfl⟩ := Int.eq_ofNat_of_zero_le H0.out
        simp
        omega
end Go.Proofs.YtbbmmeaicilabaaGreatDoor
