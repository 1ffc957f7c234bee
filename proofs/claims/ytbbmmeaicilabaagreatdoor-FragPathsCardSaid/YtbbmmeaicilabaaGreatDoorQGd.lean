/- chars.Is: a character's class by the table of ranges. Conditions: the table lies as the text lays it. -/
import Derived.Test.YtbbmmeaicilabaaGreatDoorQGa
import Derived.Test.YtbbmmeaicilabaaGreatDoorProg
import Derived.Test.YtbbmmeaicilabaaGreatDoorQShelf
import Derived.Lib.OthersKept
set_option linter.unusedVariables false
set_option linter.unusedSimpArgs false
namespace Go.Proofs.YtbbmmeaicilabaaGreatDoor
open Go.RowKit

/-- flat items: no memory behind them -/
def kF {α : Type} (sz : Nat) (hp : 0 < sz) (enc : α → List Value) (hl : ∀ x, (enc x).length = sz) (h1 : ∀ x, ∀ u ∈ enc x, u.oneCell' = true) : Knd α :=
  { sz := sz, K := fun _ _ x cs => cs = enc x, pos := hp, len := fun h => by rw [h]; exact hl _, one := fun h => by rw [h]; exact h1 _, mono := fun _ h => h, move := fun _ _ h => h }
def kSpan : Knd (Int × Int) := kF 2 (by decide) (fun x => [.int .i32 x.1, .int .i32 x.2]) (fun _ => rfl) (fun x u hu => by simp at hu; rcases hu with rfl | rfl <;> rfl)

def rangesL : Nat → List (Int × Int)
  | 0 => [(9, 10), (13, 13), (32, 55295), (57344, 65533), (65536, 1114111)]
  | 1 => [(9, 10), (13, 13), (32, 32)]
  | 2 => [(65, 90), (95, 95), (97, 122), (192, 214), (216, 246), (248, 767), (880, 893), (895, 8191), (8204, 8205), (8304, 8591), (11264, 12271), (12289, 55295), (63744, 64975), (65008, 65533), (65536, 983039)]
  | 3 => [(45, 46), (48, 57), (65, 90), (95, 95), (97, 122), (183, 183), (192, 214), (216, 246), (248, 893), (895, 8191), (8204, 8205), (8255, 8256), (8304, 8591), (11264, 12271), (12289, 55295), (63744, 64975), (65008, 65533), (65536, 983039)]
  | 4 => [(48, 57)]
  | 5 => [(48, 57), (65, 70), (97, 102)]
  | _ => []
/-- the table of ranges lies in memory -/
def TabR (w : World) : Prop := ∀ c, c < 6 → ∃ A cap, w.cell? ⟨3, c, none⟩ = some (.slice A (rangesL c).length cap) ∧ RowK kSpan w (fun _ => True) A (rangesL c)
theorem TabR.below {w w1 : World} (hb : Below w.heap.size w w1) (h : TabR w) : TabR w1 := by
  intro c hc
  obtain ⟨A, cap, h1, h2⟩ := h c hc
  exact ⟨A, cap, by rw [hb.cell (cell_lt h1)]; exact h1, h2.below hb⟩
def inR : List (Int × Int) → Int → Bool
  | [], _ => false
  | p :: t, r => if r ≤ p.2 then decide (p.1 ≤ r) else inR t r
def isC (c : Nat) (r : Int) : Bool := inR (rangesL c) r
theorem inR_drop (l : List (Int × Int)) (k : Nat) (h : k < l.length) (r : Int) : inR (l.drop k) r = if r ≤ l[k].2 then decide (l[k].1 ≤ r) else inR (l.drop (k + 1)) r := by
  rw [List.drop_eq_getElem_cons h, inR]

set_option maxHeartbeats 400000 in
theorem charsOf_any (c : Int) (h0 : 0 ≤ c) (hc : c < 6) (w : World) (hT : TabR w) : Calls Tryz.prog 115 #[.int .i64 c] w fun e w' => ∃ A cap, e = .returned (.slice A (rangesL c.toNat).length cap) ∧ RowK kSpan w (fun _ => True) A (rangesL c.toNat) ∧ w' = w := by
  obtain ⟨n, rfl⟩ := Int.eq_ofNat_of_zero_le h0
  obtain ⟨A, cap, hcell, hrow⟩ := hT n (by omega)
  clear hT
  go_enter Tryz.func115, Tryz.ntmps115
  go_wp2_with fail
  go_ret
  exact ⟨A, cap, rfl, hrow, rfl⟩

set_option maxHeartbeats 1000000 in
theorem charsIs_any (c : Int) (h0 : 0 ≤ c) (hc : c < 6) (r : Int) (w : World) (hT : TabR w) : Calls Tryz.prog 92 #[.int .i64 c, .int .i32 r] w fun e w' => e = .returned (.bool (isC c.toNat r)) ∧ Below w.heap.size w w' := by
  have HC := charsOf_any c h0 hc w hT
  unfold isC
  generalize rangesL c.toNat = l at HC ⊢
  have HC' := Lib.hid HC
  clear HC hT
  go_enter Tryz.func92, Tryz.ntmps92
  go_wp2_with fail
  refine HC'.out.mono ?_
  rintro e w1 ⟨A, cap, rfl, hrow, rfl⟩
  clear HC'
  have hlen := hrow.len
  go_wp2_with fail
  go_loopw [10] (fun i wr => ∃ k : Nat, k ≤ l.length ∧ i = .int .i64 k ∧ Hid (inR l r = inR (l.drop k) r) ∧ Below w1.heap.size w1 wr) (fun i _ => l.length - (intOf i).toNat)
  case atStart => exact ⟨0, Nat.zero_le _, rfl, rfl, Below.refl _ _⟩
  case round =>
    obtain ⟨k, hk, rfl, HE, hbr⟩ := hrel
    by_cases hlt : k < l.length
    · obtain ⟨b, off, cs, rfl, hbw, hK, hcell⟩ := (hrow.below hbr).at k hlt
      have hd := inR_drop l k hlt r
      generalize l[k] = p at hK hd
      obtain rfl : cs = _ := hK
      have c0 := hcell 0 _ rfl
      have c1 := hcell 1 _ rfl
      simp only [Nat.add_zero, show kSpan.sz = 2 from rfl] at c0 c1
      obtain ⟨lo, hi⟩ := p
      have HD := Lib.hid hd
      clear hd hcell
      have hbb : b ≠ wr.heap.size := by omega
      by_cases hr : r ≤ hi
      · go_wp2_with fail
        go_ret
        exact ⟨by rw [HE.out, HD.out]; simp [hr], hbr.trans ((bl1 (Nat.le_refl _)).mono hbr.size)⟩
      · have HR : Hid (inR l r = inR (l.drop (k + 1)) r) := by unfold Hid; rw [HE.out, HD.out]; simp [hr]
        go_wp2_with fail
        go_roundw
        case rel => exact ⟨k + 1, by omega, by go_num, HR, hbr.trans ((bl1 (Nat.le_refl _)).mono hbr.size)⟩
        case measure => simp [intOf]; omega
    · have HF : Hid (inR l r = false) := by unfold Hid; rw [HE.out, List.drop_of_length_le (by omega)]; rfl
      go_wp2_with fail
      go_ret
      exact ⟨by rw [HF.out]; rfl, hbr⟩
end Go.Proofs.YtbbmmeaicilabaaGreatDoor

/- chars.Name and ask.goodText: what is a name, what can stand between quotes. Conditions: the tables lie as the text lays them; texts under four thousand million bytes. -/
namespace Go.Proofs.YtbbmmeaicilabaaGreatDoor
open Go.RowKit

/-- the tables that the code reads -/
structure WOK (w : World) : Prop where
  ranges : TabR w
  utf8 : Lib.Utf8Tabs 1 2 w
  maxlen : ∃ m, w.cell? ⟨6, 0, none⟩ = some (.int .i64 m)
theorem WOK.below {w w1 : World} (hb : Below w.heap.size w w1) (h : WOK w) : WOK w1 := by
  obtain ⟨h1, h2, m, h3⟩ := h
  exact ⟨h1.below hb, Utf8Tabs_below h2 hb, m, by rw [hb.cell (cell_lt h3)]; exact h3⟩
theorem WOK.al {w : World} {o : Obj} (h : WOK w) : WOK (w.alloc o) := h.below ((Below.refl _ _).alloc (Nat.le_refl _) _)

/-- the characters from 'pos' on: the first of class c, the others of class 3 -/
def nameGo (s : ByteArray) : Nat → Nat → Nat → Bool
  | 0, _, _ => true
  | f + 1, pos, c => if pos < s.size then isC c (Utf8.decode s pos).1 && nameGo s f (pos + (Utf8.decode s pos).2) 3 else true
def nameB (s : ByteArray) : Bool := nameGo s s.size 0 2 && (!decide (s.toList = []) && Lib.validD s.data.toList)
def goodTextB (s : ByteArray) : Bool := Lib.validD s.data.toList && !(Lib.contains s.data.toList [39] && Lib.contains s.data.toList [34])

set_option maxHeartbeats 1000000 in
theorem name_any (s : ByteArray) (w : World) (hs : s.size ≤ 9223372036854775807) (hT : WOK w) :
    Calls Tryz.prog 100 #[.string s] w fun e w' => e = .returned (.bool (nameB s)) ∧ Below w.heap.size w w' := by
  have HT := Lib.hid hT
  clear hT
  go_enter Tryz.func100, Tryz.ntmps100
  go_wp2_with fail
  go_loopw [3] (fun c wr => ∃ (pos fuel : Nat) (k : Nat), c = .int .i64 k ∧ k < 6 ∧ wr.heap[w.heap.size]? = some (.stringIter s pos) ∧ Below w.heap.size w wr ∧ Hid (nameGo s s.size 0 2 = nameGo s fuel pos k) ∧ s.size ≤ pos + fuel) (fun _ wr => s.size - wr.iterPos (w.heap.size))
  case atStart =>
    refine ⟨0, s.size, 2, rfl, by omega, ?_, bl1 (Nat.le_refl _), rfl, by omega⟩
    simpa using World.iter_heap w s 0
  case round =>
    obtain ⟨pos, fuel, k, rfl, hk, hit, hbw, HE, hfu⟩ := hrel
    have hsz : w.heap.size < wr.heap.size := (Array.getElem?_eq_some_iff.1 hit).1
    by_cases hp : pos < s.size
    · have hnx : ∀ ty, (Instr.next (.pointer (some ⟨w.heap.size, 0, none⟩)) true ty).run Tryz.prog wr = _ := fun ty => Lib.run_next_any_at wr w.heap.size s pos ty hit hp
      have hd1 := decode_le s pos
      have hit2 := Lib.iterAt_heap wr w.heap.size s pos (pos + (Utf8.decode s pos).2) hit
      have hbw2 := Lib.below_iterAt hbw (k := w.heap.size) (by omega) s (pos + (Utf8.decode s pos).2)
      obtain ⟨f, rfl⟩ : ∃ f, fuel = f + 1 := ⟨fuel - 1, by omega⟩
      have HN : Hid (nameGo s (f + 1) pos k = (isC k (Utf8.decode s pos).1 && nameGo s f (pos + (Utf8.decode s pos).2) 3)) := by unfold Hid; rw [nameGo, if_pos hp]
      have HT2 := HT.out.below (hbw2.mono (Nat.le_refl _))
      generalize (Utf8.decode s pos).1 = r at *
      generalize hw2 : wr.iterAt w.heap.size s (pos + (Utf8.decode s pos).2) = w2 at *
      have hwd := Lib.width_pos s pos
      go_wp2_with fail
      refine (charsIs_any (k : Int) (by omega) (by omega) r _ HT2.ranges).mono ?_
      rintro e w3 ⟨rfl, hb3⟩
      rw [Int.toNat_natCast]
      have hbw3 := hbw2.trans (hb3.mono hbw2.size)
      cases hc : isC k r
      · have HF : Hid (nameB s = false) := by unfold Hid nameB; rw [HE.out, HN.out, hc]; rfl
        clear hc
        go_wp2_with fail
        go_ret
        exact ⟨by rw [HF.out]; rfl, hbw3⟩
      · have HN2 : Hid (nameGo s s.size 0 2 = nameGo s f (pos + (Utf8.decode s pos).2) 3) := by unfold Hid; rw [HE.out, HN.out, hc]; rfl
        have hit3 : w3.heap[w.heap.size]? = some (.stringIter s (pos + (Utf8.decode s pos).2)) := (hb3.block _ (by have := (Array.getElem?_eq_some_iff.1 hit2).1; exact this)).trans hit2
        have hip3 : w3.iterPos w.heap.size = pos + (Utf8.decode s pos).2 := by simp [World.iterPos, hit3]
        have hip : wr.iterPos w.heap.size = pos := by simp [World.iterPos, hit]
        clear hc
        go_wp2_with fail
        go_roundw
        case rel => exact ⟨_, f, 3, rfl, by omega, hit3, hbw3, HN2, by omega⟩
        case measure => rw [hip3, hip]; omega
    · have hnx : ∀ ty, (Instr.next (.pointer (some ⟨w.heap.size, 0, none⟩)) true ty).run Tryz.prog wr = _ := fun ty => Lib.run_next_end_at wr w.heap.size s pos ty hit hp
      have HN : Hid (nameB s = (!decide (s.toList = []) && Lib.validD s.data.toList)) := by
        unfold Hid nameB
        rw [HE.out]
        cases fuel
        · rw [nameGo]; rfl
        · rw [nameGo, if_neg hp]; rfl
      go_wp2_with fail
      · go_ret
        exact ⟨by rw [HN.out]; simp [*], hbw⟩
      · refine (Tryz.utf8_ValidString s _ hs (HT.out.below hbw).utf8).mono ?_
        rintro e w3 ⟨rfl, hb3⟩
        go_wp2_with fail
        go_ret
        exact ⟨by rw [HN.out]; simp [*], hbw.trans (hb3.mono hbw.size)⟩

set_option maxHeartbeats 1000000 in
theorem goodText_any (s : ByteArray) (w : World) (hs : s.size < 4294967281) (hT : WOK w) :
    Calls Tryz.prog 126 #[.string s] w fun e w' => e = .returned (.bool (goodTextB s)) ∧ Below w.heap.size w w' := by
  have HT := Lib.hid hT
  clear hT
  go_enter Tryz.func126, Tryz.ntmps126
  go_wp2_with fail
  refine (Tryz.utf8_ValidString s _ (by omega) HT.out.utf8).mono ?_
  rintro e w1 ⟨rfl, hb1⟩
  obtain ⟨m, hm⟩ := (HT.out.below hb1).maxlen
  cases hv : Lib.validD s.data.toList
  · go_wp2_with fail
    go_ret
    exact ⟨by simp [goodTextB, hv], hb1⟩
  · go_wp2_with fail
    refine (Tryz.strings_Contains s ⟨#[39]⟩ m _ (by omega) hm).mono ?_
    rintro e w2 ⟨rfl, rfl⟩
    cases hc : Lib.contains s.data.toList [39]
    · go_wp2_with fail
      go_ret
      exact ⟨by simp [goodTextB, hv, hc], hb1⟩
    · go_wp2_with fail
      refine (Tryz.strings_Contains s ⟨#[34]⟩ m _ (by omega) hm).mono ?_
      rintro e w2 ⟨rfl, rfl⟩
      go_wp2_with fail
      go_ret
      exact ⟨by simp [goodTextB, hv, hc], hb1⟩

theorem bracketed_any (a b : Int) (w : World) :
    Calls Tryz.prog 98 #[.int .i64 a, .int .i64 b] w fun e w' => e = .returned (.bool (if b = 1 then !decide (a = 2) || (decide (a = 0) && decide (b = 0)) else decide (a = 0) && decide (b = 0))) ∧ w' = w := by
  go_enter Tryz.func98, Tryz.ntmps98
  go_wp2_with fail
  all_goals
    go_ret
    refine ⟨congrArg (fun b => Ending.returned (.bool b)) ?_, rfl⟩
    rw [Bool.eq_iff_iff]
    try simp [*]
end Go.Proofs.YtbbmmeaicilabaaGreatDoor
