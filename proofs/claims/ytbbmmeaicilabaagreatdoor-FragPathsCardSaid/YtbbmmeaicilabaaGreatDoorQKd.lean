/- lexis.sign, runes.Mend, the place of a byte. Conditions: the tables lie as the text lays them. -/
import Derived.Test.YtbbmmeaicilabaaGreatDoorQKc
import Derived.Test.YtbbmmeaicilabaaGreatDoorQKa
import Derived.Shelf.Unicode.IsSpaceAny
import Derived.WalkSmall
set_option linter.unusedVariables false
set_option linter.unusedSimpArgs false
namespace Go.Proofs.YtbbmmeaicilabaaGreatDoor
open Go.RowKit

/-- all tables that the code reads -/
structure WOX (w : World) : Prop where
  base : WOK w
  spc : Lib.TabIs Tryz.prog w "strings.asciiSpace" .u8 Lib.asciiSpaceTab
  white : Lib.WhiteTab 5 w
  glob : 4 < w.heap.size
theorem WOX.below {w w1 : World} (hb : Below w.heap.size w w1) (h : WOX w) : WOX w1 :=
  ⟨h.base.below hb, var?_below hb (g := 4) (by kernel_rfl) h.glob h.spc, WhiteTab_below h.white hb, Nat.lt_of_lt_of_le h.glob hb.size⟩
theorem WOX.al {w : World} {o : Obj} (h : WOX w) : WOX (w.alloc o) := h.below (bl1 (Nat.le_refl _))

def signsL : List (List UInt8) := [[47, 47], [58, 58], [33, 61], [47], [91], [93], [40], [41], [64], [46], [42], [44], [61], [60], [62]]
def signGo (s : ByteArray) : List (List UInt8) → ByteArray
  | [] => ⟨#[]⟩
  | x :: r => if Lib.hasPrefix s.data.toList x then ⟨x.toArray⟩ else signGo s r
/-- the sign at the beginning -/
def signF (s : ByteArray) : ByteArray := signGo s signsL
theorem fields_signs : Lib.fieldsD [47, 47, 32, 58, 58, 32, 33, 61, 32, 47, 32, 91, 32, 93, 32, 40, 32, 41, 32, 64, 32, 46, 32, 42, 32, 44, 32, 61, 32, 60, 32, 62] = signsL := by kernel_rfl

set_option maxHeartbeats 2000000 in
theorem lsign_any (s : ByteArray) (w : World) (hT : WOX w) :
    Calls Tryz.prog 95 #[.string s] w fun e w' => e = .returned (.string (signF s)) ∧ Below w.heap.size w w' := by
  have HT := Lib.hid hT
  clear hT
  go_enter Tryz.func95, Tryz.ntmps95
  go_wp2_with fail
  refine (Tryz.strings_Fields_any _ w (by decide) HT.out.spc HT.out.white).mono ?_
  rintro e w1 ⟨Ab, rfl, hAb, hown, hb1⟩
  have hF : Lib.fieldsD (ByteArray.mk #[47, 47, 32, 58, 58, 32, 33, 61, 32, 47, 32, 91, 32, 93, 32, 40, 32, 41, 32, 64, 32, 46, 32, 42, 32, 44, 32, 61, 32, 60, 32, 62]).data.toList = signsL := fields_signs
  rw [hF] at hown ⊢
  have HF := Lib.hid hF
  clear hF
  have hl : signsL.length = 15 := rfl
  rw [hl] at hown ⊢
  clear hl
  go_wp2_with fail
  go_loopw [7] (fun i wr => ∃ k : Nat, k ≤ 15 ∧ i = .int .i64 k ∧ w1 = wr ∧ Hid (signF s = signGo s (signsL.drop k))) (fun i _ => 15 - (intOf i).toNat)
  case atStart => exact ⟨0, by omega, rfl, rfl, rfl⟩
  case round =>
    obtain ⟨k, hk, rfl, rfl, HE⟩ := hrel
    by_cases hlt : k < 15
    · have hlen : signsL.length = 15 := rfl
      obtain ⟨x, hx, hx2⟩ : ∃ x, signsL[k]? = some x ∧ signsL.drop k = x :: signsL.drop (k + 1) := ⟨signsL[k]'(by rw [hlen]; exact hlt), List.getElem?_eq_getElem _, List.drop_eq_getElem_cons _⟩
      have hc : w1.cell? ⟨Ab, k, none⟩ = some (.string ⟨x.toArray⟩) := by
        rw [hown.cellAt k (by omega)]
        rw [List.getElem?_map, hx]; rfl
      have HN : Hid (signF s = if Lib.hasPrefix s.data.toList x then ⟨x.toArray⟩ else signGo s (signsL.drop (k + 1))) := by
        unfold Hid
        rw [HE.out, hx2, signGo]
      clear hx2
      clear hx hlen
      go_wp2_with fail
      refine (Tryz.strings_HasPrefix s ⟨x.toArray⟩ w1).mono ?_
      rintro e w2 ⟨rfl, hw2⟩
      rw [hw2]
      clear hw2 w2
      have hxx : (ByteArray.mk x.toArray).data.toList = x := by simp
      rw [hxx]
      cases hp : Lib.hasPrefix s.data.toList x
      · have HN2 : Hid (signF s = signGo s (signsL.drop (k + 1))) := by unfold Hid; rw [HN.out, hp]; rfl
        clear hp
        go_wp2_with fail
        go_roundw
        case rel => exact ⟨k + 1, by omega, by go_num, trivial, HN2⟩
        case measure => simp [intOf]; omega
      · have HN2 : Hid (signF s = ⟨x.toArray⟩) := by unfold Hid; rw [HN.out, hp]; rfl
        clear hp
        go_wp2_with fail
        go_ret
        exact ⟨by rw [HN2.out]; rfl, hb1⟩
    · obtain rfl : k = 15 := by omega
      have HN2 : Hid (signF s = ⟨#[]⟩) := by unfold Hid; rw [HE.out]; rfl
      go_wp2_with fail
      go_ret
      exact ⟨by rw [HN2.out]; rfl, hb1⟩
end Go.Proofs.YtbbmmeaicilabaaGreatDoor

/- runes.Mend; the place of a byte, whatever the byte; lexis.fault. Conditions: the bytes lie in memory. -/
namespace Go.Proofs.YtbbmmeaicilabaaGreatDoor
open Go.RowKit

def runeL (s : ByteArray) : Nat → Nat → List Int
  | 0, _ => []
  | f + 1, i => if i < s.size then ((Utf8.decode s i).1 : Int) :: runeL s f (i + (Utf8.decode s i).2) else []
/-- the text with each wrong byte mended -/
def mendS (s : ByteArray) : ByteArray := runesBytes (runeL s s.size 0)
theorem runesFrom_eq (s : ByteArray) : ∀ (f i : Nat) (acc : Array Value), Conv.runesFrom s f i acc = acc ++ ((runeL s f i).map (Value.int .i32)).toArray
  | 0, _, acc => by simp [Conv.runesFrom, runeL]
  | f + 1, i, acc => by
    unfold Conv.runesFrom runeL
    split
    · show Conv.runesFrom s f (i + (Utf8.decode s i).2) (acc.push (.int .i32 (Int.ofNat (Utf8.decode s i).1))) = _
      rw [runesFrom_eq s f]; simp
    · simp

set_option maxRecDepth 100000 in
set_option maxHeartbeats 1000000 in
theorem mend_any (s : ByteArray) (w : World) (hs : s.size ≤ 70368744177664) : Calls Tryz.prog 64 #[.string s] w fun e w' => e = .returned (.string (mendS s)) ∧ Below w.heap.size w w' := by
  obtain ⟨zs, hzs⟩ : ∃ zs, zs = runeL s s.size 0 := ⟨_, rfl⟩
  have hR : Conv.runesFrom s s.size 0 #[] = (zs.map (Value.int .i32)).toArray := by rw [runesFrom_eq, hzs]; simp
  have hN : (Conv.runesFrom s s.size 0 #[]).size = zs.length := by rw [hR]; simp
  have h46 : (Conv.runesFrom s s.size 0 #[]).size ≤ 70368744177664 := by have := size_runesFrom s s.size 0 #[]; simp at this; omega
  have h1 := run_runes_of_string (P := Tryz.prog) w 9 128 21 s Tryz.underlying9 Tryz.underlying128 Tryz.underlying21 h46
  rw [hN] at h1
  obtain ⟨C, hC⟩ : ∃ C, C = Conv.runesFrom s s.size 0 #[] ++ Array.replicate (grownCap w zs.length 0 21 - zs.length) (.int .i32 0) := ⟨_, rfl⟩
  rw [← hC] at h1
  have hcell : ∀ j, j < zs.length → ((w.alloc (.cells C 21)).drew).cell? (Addr.add ⟨w.heap.size, 0, none⟩ j) = some (.int .i32 (zs.getD j 0)) := by
    intro j hj
    have e : (Addr.add ⟨w.heap.size, 0, none⟩ j) = ⟨w.heap.size, j, none⟩ := by unfold Addr.add; split <;> simp_all
    rw [e]
    have B := Blk.new w C 21
    have h := B.cell j
    have hCj : C[j]? = some (.int .i32 (zs.getD j 0)) := by
      rw [hC, hR, Array.getElem?_append_left (by simpa using hj)]
      simp [hj]
    exact h.trans hCj
  have h2 := run_convert_runes (P := Tryz.prog) ((w.alloc (.cells C 21)).drew) 128 9 21 ⟨w.heap.size, 0, none⟩ zs.length (grownCap w zs.length 0 21) zs (Nat.le_refl _) Tryz.underlying128 Tryz.underlying21 Tryz.underlying9 hcell
  rw [List.take_length] at h2
  have hM : runesBytes zs = mendS s := by unfold mendS; rw [hzs]
  rw [hM] at h2
  clear hM hcell hC h46 hN hR hzs hs
  go_enter Tryz.func64, Tryz.ntmps64
  go_wp2_with fail
  go_ret
  exact ⟨rfl, (Below.refl _ _).drew.alloc (Nat.le_refl _) _⟩

/-- it answers a place and a number -/
def PlaceE (e : Ending) : Prop := ∃ p0 p1 p2 p3 k, e = .returned (.tuple #[.agg #[.int .i64 p0, .int .i64 p1, .int .i64 p2, .int .i64 p3], .int .i64 k])
set_option maxHeartbeats 1000000 in
theorem at_any (A : Option Addr) (bs : List UInt8) (c : Nat) (at' : Int) (w : World) (hb : RowK kB w (fun _ => True) A bs) (hc : bs.length ≤ c) (hcm : c ≤ 9223372036854775807) :
    Calls Tryz.prog 37 #[.slice A bs.length c, .int .i64 at'] w fun e w' => PlaceE e ∧ Below w.heap.size w w' := by
  by_cases h : 0 ≤ at' ∧ at' ≤ bs.length
  · obtain ⟨m, rfl⟩ := Int.eq_ofNat_of_zero_le h.1
    exact (callsIn_wide.1 (at_in Fence.wide 3 trivial trivial trivial rfl (by omega) A bs c m w hb hc hcm (by omega))).mono fun e w' ⟨⟨p1, p2, p3, he⟩, hw⟩ => ⟨⟨_, p1, p2, p3, 0, he⟩, hw⟩
  · by_cases h0 : at' < 0
    · clear h hb
      go_enter Tryz.func37, Tryz.ntmps37
      go_wp2_with fail
      refine bodyPost_ret (v := .tuple #[.agg #[.int .i64 0, .int .i64 0, .int .i64 0, .int .i64 0], .int .i64 2]) ?h1 rfl ⟨⟨0, 0, 0, 0, 2, rfl⟩, bl2 (Nat.le_refl _)⟩
      case h1 => simp [results, Tryz.results37, go_sem]
    · have h1 : (bs.length : Int) < at' := by omega
      have hd0 : decide (at' < 0) = false := by rw [decide_eq_false_iff_not]; exact h0
      have hd1 : decide ((bs.length : Int) < at') = true := by rw [decide_eq_true_eq]; exact h1
      clear h hb
      go_enter Tryz.func37, Tryz.ntmps37
      go_wp2_with fail
      refine bodyPost_ret (v := .tuple #[.agg #[.int .i64 0, .int .i64 0, .int .i64 0, .int .i64 0], .int .i64 2]) ?h1 rfl ⟨⟨0, 0, 0, 0, 2, rfl⟩, bl2 (Nat.le_refl _)⟩
      case h1 => simp [results, Tryz.results37, go_sem]

set_option maxHeartbeats 1000000 in
theorem fault_any (A : Option Addr) (bs : List UInt8) (c : Nat) (at' why : Int) (w : World) (hb : RowK kB w (fun _ => True) A bs) (hc : bs.length ≤ c) (hcm : c ≤ 9223372036854775807) :
    Calls Tryz.prog 65 #[.slice A bs.length c, .int .i64 at', .int .i64 why] w fun e w' => (∃ g, e = .returned (.iface 71 (.pointer (some ⟨g, 0, none⟩))) ∧ w.heap.size ≤ g) ∧ Below w.heap.size w w' := by
  have HC := Lib.hid (at_any A bs c at' w hb hc hcm)
  clear hb
  go_enter Tryz.func65, Tryz.ntmps65
  go_wp2_with fail
  refine HC.out.mono ?_
  rintro e w1 ⟨⟨p0, p1, p2, p3, k, rfl⟩, hb1⟩
  have hs1 := hb1.size
  go_wp2_with fail
  go_ret
  exact ⟨⟨_, rfl, by first | omega | (simp; omega)⟩, (hb1.trans (bl2 hb1.size))⟩
end Go.Proofs.YtbbmmeaicilabaaGreatDoor
