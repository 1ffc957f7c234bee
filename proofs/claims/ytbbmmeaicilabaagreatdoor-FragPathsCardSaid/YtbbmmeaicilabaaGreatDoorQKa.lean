/- runes.All: Go's own range over a string, as an iterator. Conditions: none. -/
import Derived.RangeFuncNested
import Derived.RangeFuncBound
import Derived.RangeFuncCalls
import Derived.RangeFuncLeaves
import Derived.RangeFuncFrom
import Derived.Shelf.Abstract
import Derived.Shelf.RegionOpen
import Derived.WalkKit
import Derived.OwnWalkIn
import Derived.TacticsInMore
import Derived.LoopNIn
import Derived.LoopIn
import Derived.Outline
import Derived.Lib.OthersKept
import Derived.Lib.TrimU
import Derived.Test.YtbbmmeaicilabaaGreatDoorQGa
import Derived.Test.YtbbmmeaicilabaaGreatDoorProg
import Derived.Test.YtbbmmeaicilabaaGreatDoorQGd
import Derived.Lib.BufferRead
import Derived.Laws.IdiomStrings
set_option linter.unusedVariables false
set_option linter.unusedSimpArgs false
namespace Go.Proofs.YtbbmmeaicilabaaGreatDoor
open Go.RowKit Go.Shelf
attribute [local go_sem] Oper.semAt_some

/-- a place in a text and what stands there -/
abbrev At (N : Nat) : Type := { x : Nat × Int // x.1 < N }
theorem iterAt_grown (w : World) (k : Nat) (s : ByteArray) (pos : Nat) : w.grownBy (w.iterAt k s pos) (some k) :=
  ⟨rfl, rfl, rfl, by rw [Lib.iterAt_size]; exact Nat.le_refl _, fun i _ hi => Lib.iterAt_other w k i s pos (fun e => hi (by rw [e]))⟩

set_option maxRecDepth 100000 in
set_option maxHeartbeats 1000000 in
theorem all1_stops (F : Fence) (n : Nat) (hf : F.fn 87) (hro : F.round = none) (hn : 1 ≤ n) (s : ByteArray) (Bn : Nat) (w0 : World) (hb : Bn < w0.heap.size) (hs : w0.cell? ⟨Bn, 0, none⟩ = some (.string s)) :
    SeqStopsK F n Tryz.prog 87 #[.pointer (some ⟨Bn, 0, none⟩)] (fun x : At s.size => #[.int .i64 (x.1.1 : Int), .int .i32 x.1.2]) KeepsWalks (fun _ => True) (fun _ => True) (s.size + 1) w0 := by
  intro l J Jx W hW hJ hJx hY h0
  have hBn : W.cell? ⟨Bn, 0, none⟩ = some (.string s) := (hW.cell (p := ⟨Bn, 0, none⟩) hb).trans hs
  refine callsIn_of_wp Tryz.func87 rfl hf ?_ hro
  simp only [Tryz.ntmps87, List.size_toArray, List.length_cons, List.length_nil, Nat.reduceAdd, Nat.reduceSub, Array.replicate_succ, Array.replicate_zero, List.push_toArray, List.append_toArray, List.nil_append, List.cons_append]
  gi_wp2
  gi_loopw [3] (fun _ wr => ∃ (pre : List (At s.size)) (pos : Nat), wr.heap[W.heap.size]? = some (.stringIter s pos) ∧ J pre wr ∧ pre.length ≤ pos ∧ pre.length ≤ s.size) (fun _ wr => s.size - wr.iterPos W.heap.size)
  case atStart => exact ⟨[], 0, by simpa using World.iter_heap W s 0, hJ [] W _ none h0 (World.grownBy_alloc W _ none) (fun r e => by cases e), Nat.le_refl _, Nat.zero_le _⟩
  case round =>
    obtain ⟨pre, pos, hit, hJs, hle, hls⟩ := hrel
    by_cases hp : pos < s.size
    · have hnx : ∀ ty, (Instr.next (.pointer (some ⟨W.heap.size, 0, none⟩)) true ty).run Tryz.prog wr = _ := fun ty => Lib.run_next_any_at wr W.heap.size s pos ty hit hp
      have hit2 := Lib.iterAt_heap wr W.heap.size s pos (pos + (Utf8.decode s pos).2) hit
      have hJ2 : J pre (wr.iterAt W.heap.size s (pos + (Utf8.decode s pos).2)) := hJ pre wr _ _ hJs (iterAt_grown _ _ _ _) (fun r e => by cases e; exact ⟨Nat.le_refl _, _, hit, rfl⟩)
      have hwd := Lib.width_pos s pos
      have hip : wr.iterPos W.heap.size = pos := by simp [World.iterPos, hit]
      have HIP := Lib.hid hip
      clear hip
      generalize (Utf8.decode s pos).1 = r at *
      generalize (Utf8.decode s pos).2 = k at *
      obtain ⟨fn, tmps, assign, body, hy, hR⟩ := hY pre ⟨(pos, r), hp⟩ _ hJ2 (by omega)
      dsimp only at hy
      gi_wp2
      refine hR.mono ?_
      rintro e W3 (⟨rfl, hJ3, hk3⟩ | ⟨rfl, hJx3⟩)
      · have hit3 := hk3.same W.heap.size _ hit2 rfl
        have hip3 : W3.iterPos W.heap.size = pos + k := by simp [World.iterPos, hit3]
        have HIP3 := Lib.hid hip3
        clear hip3
        gi_wp2
        go_roundw
        case rel => exact ⟨pre ++ [⟨(pos, r), hp⟩], pos + k, hit3, hJ3, by simp; omega, by simp; omega⟩
        case measure => rw [HIP3.out, HIP.out]; omega
      · gi_wp2
        refine bodyPost_ret (results_none rfl _ _ _) rfl ?_
        exact ⟨⟨_, rfl⟩, .inr ⟨_, trivial, hJx3⟩⟩
    · have hnx : ∀ ty, (Instr.next (.pointer (some ⟨W.heap.size, 0, none⟩)) true ty).run Tryz.prog wr = _ := fun ty => Lib.run_next_end_at wr W.heap.size s pos ty hit hp
      gi_wp2
      go_end0
      exact ⟨⟨_, rfl⟩, .inl ⟨_, trivial, hJs⟩⟩
end Go.Proofs.YtbbmmeaicilabaaGreatDoor

/- runes.At: the place of a byte (which place, is left open). Conditions: the bytes lie in memory. -/
namespace Go.Proofs.YtbbmmeaicilabaaGreatDoor
open Go.RowKit Go.Shelf
attribute [local go_sem] Oper.semAt_some

def kB : Knd UInt8 := kF 1 (by decide) (fun x => [.int .u8 x.toNat]) (fun _ => rfl) (fun x u hu => by simp at hu; subst hu; rfl)
theorem RowK.allB {w : World} {ok : Nat → Prop} {A : Option Addr} {bs : List UInt8} (h : RowK kB w ok A bs) (hn : 0 < bs.length) :
    ∃ b off, A = some ⟨b, off, none⟩ ∧ b < w.heap.size ∧ ∀ j (hj : j < bs.length), w.cell? ⟨b, off + j, none⟩ = some (.int .u8 (bs[j].toNat : Int)) := by
  obtain ⟨f, hl, hr⟩ := h
  obtain ⟨b, off, rfl, ho, hlt, hc⟩ := hl.2 hn
  refine ⟨b, off, rfl, hlt, fun j hj => ?_⟩
  have h1 : f j = _ := hr j bs[j] (by simp [hj])
  have := (hc j hj 0 (.int .u8 (bs[j].toNat : Int)) (by rw [h1]; rfl)).1
  simpa [show kB.sz = 1 from rfl] using this

/-- what At's loop keeps -/
def AtI (w : World) (m : Nat) (A : Option Addr) (n c : Nat) (W : World) : Prop :=
  (Blk W w.heap.size #[.slice A n c] 22 ∧ Blk W (w.heap.size + 1) #[.int .i64 0, .int .i64 0, .int .i64 0, .int .i64 0] 68 ∧ ∃ p1 p2 p3 : Int, Blk W (w.heap.size + 1 + 1) #[.int .i64 m, .int .i64 p1, .int .i64 p2, .int .i64 p3] 68) ∧ Below w.heap.size w W
theorem AtI.set {w : World} {m : Nat} {A : Option Addr} {n c : Nat} {W : World} (h : AtI w m A n c W) (o : Nat) (ho : o = 1 ∨ o = 2 ∨ o = 3) (v : Int) : AtI w m A n c (W.setCell ⟨w.heap.size + 1 + 1, o, none⟩ (.int .i64 v)) := by
  obtain ⟨⟨h1, h2, p1, p2, p3, h3⟩, hb⟩ := h
  refine ⟨⟨h1.far (by simp; omega) _, h2.far (by simp) _, ?_⟩, hb.setCell (p := ⟨w.heap.size + 1 + 1, o, none⟩) (by simp; omega) _⟩
  have h4 := h3.set o (.int .i64 v)
  rcases ho with rfl | rfl | rfl
  · exact ⟨v, p2, p3, by simpa using h4⟩
  · exact ⟨p1, v, p3, by simpa using h4⟩
  · exact ⟨p1, p2, v, by simpa using h4⟩
theorem blk_kept {A B : World} {b : Nat} {cs : Array Value} {t : TypeId} {row : Option Nat} (h : Blk A b cs t) (hg : A.grownBy B row) (hr : ∀ r, row = some r → ∃ o : Obj, A.heap[r]? = some o ∧ o.isCells = false) : Blk B b cs t := by
  refine h.grown hg (fun e => ?_)
  obtain ⟨o, ho, hc⟩ := hr b e.symm
  have h' : A.heap[b]? = some (.cells cs t (0, 0)) := h
  rw [h'] at ho; cases ho; cases hc
theorem atI_own {α : Type} (w : World) (m : Nat) (A : Option Addr) (n c B : Nat) (hB : w.heap.size ≤ B) : OwnFrom B (fun (_ : List α) W => AtI w m A n c W) :=
  OwnFrom.and (Own.from (fun s X Y row hs hg hr => by
    obtain ⟨h1, h2, p1, p2, p3, h3⟩ := hs
    exact ⟨blk_kept h1 hg hr, blk_kept h2 hg hr, p1, p2, p3, blk_kept h3 hg hr⟩) _) (ownFrom_below (Nat.le_refl _) hB)

set_option maxRecDepth 100000 in
set_option maxHeartbeats 1000000 in
theorem all_in (F : Fence) (n : Nat) (h63 : F.fn 63) (hro : F.round = none) (s : ByteArray) (w : World) :
    CallsIn F n Tryz.prog 63 #[.string s] w fun e w' => e = .returned (.func (.func 87) #[] #[.pointer (some ⟨w.heap.size, 0, none⟩)]) ∧ w' = w.alloc (.cells #[.string s] 9) := by
  have hmf : ∀ (fn : Fn) (first cap : Array Value) (w : World), (Instr.makeFunc fn first cap).run Tryz.prog w = .ok (.func fn first cap) w := fun _ _ _ _ => rfl
  refine callsIn_of_wp Tryz.func63 rfl h63 ?_ hro
  simp only [Tryz.ntmps63, List.size_toArray, List.length_cons, List.length_nil, Nat.reduceAdd, Nat.reduceSub, Array.replicate_succ, Array.replicate_zero, List.push_toArray, List.append_toArray, List.nil_append, List.cons_append]
  gi_wp2
  go_ret
  exact ⟨rfl, rfl⟩

set_option maxRecDepth 100000 in
set_option maxHeartbeats 8000000 in
theorem at_in (F : Fence) (n : Nat) (h37 : F.fn 37) (h63 : F.fn 63) (h87 : F.fn 87) (hro : F.round = none) (hn : 3 ≤ n)
    (A : Option Addr) (bs : List UInt8) (c m : Nat) (w : World) (hb : RowK kB w (fun _ => True) A bs) (hc : bs.length ≤ c) (hcm : c ≤ 9223372036854775807) (hm : m ≤ bs.length) :
    CallsIn F n Tryz.prog 37 #[.slice A bs.length c, .int .i64 m] w fun e w' => (∃ p1 p2 p3, e = .returned (.tuple #[.agg #[.int .i64 m, .int .i64 p1, .int .i64 p2, .int .i64 p3], .int .i64 0])) ∧ Below w.heap.size w w' := by
  have h1 : 1 ≤ n := by omega
  have hmi : (m : Int) ≤ (bs.length : Int) := by omega
  have hmc : (m : Int) ≤ (c : Int) := by omega
  have hd0 : decide ((m : Int) < 0) = false := by rw [decide_eq_false_iff_not]; omega
  have hd1 : decide (bs.length < m) = false := by rw [decide_eq_false_iff_not]; omega
  have HB := Lib.hid hb
  have HM := Lib.hid hm
  obtain ⟨W3, hW3⟩ : ∃ W, W = ((w.alloc (.cells #[.slice A bs.length c] 22)).alloc (.cells #[.int .i64 0, .int .i64 0, .int .i64 0, .int .i64 0] 68)).alloc (.cells #[.int .i64 m, .int .i64 0, .int .i64 1, .int .i64 1] 68) := ⟨_, rfl⟩
  have hI3 : AtI w m A bs.length c W3 := by
    refine ⟨⟨?_, ?_, 0, 1, 1, ?_⟩, ?_⟩
    · rw [hW3]; exact ((Blk.new _ _ _).al _).al _
    · rw [hW3]; have h := (Blk.new (w.alloc (.cells #[.slice A bs.length c] 22)) #[.int .i64 0, .int .i64 0, .int .i64 0, .int .i64 0] 68).al (.cells #[.int .i64 m, .int .i64 0, .int .i64 1, .int .i64 1] 68); simpa using h
    · rw [hW3]; have h := Blk.new ((w.alloc (.cells #[.slice A bs.length c] 22)).alloc (.cells #[.int .i64 0, .int .i64 0, .int .i64 0, .int .i64 0] 68)) #[.int .i64 m, .int .i64 0, .int .i64 1, .int .i64 1] 68; simpa using h
    · rw [hW3]; exact (bl2 (Nat.le_refl _)).trans (bl1 (by simp; omega))
  have hs3 : W3.heap.size = w.heap.size + 1 + 1 + 1 := by rw [hW3]; simp
  obtain ⟨s, hs, hsz⟩ : ∃ s : ByteArray, (convert 22 9 (.slice A m c)).run Tryz.prog W3 = .ok (.string s) W3 ∧ s.size = m := by
    have hb3 := hb.below hI3.2
    have hlen : (bs.take m).length = m := by rw [List.length_take]; omega
    rcases Nat.eq_zero_or_pos m with h0 | h0
    · subst h0
      refine ⟨⟨#[]⟩, ?_, rfl⟩
      have hrn := Lib.run_convert_nil_bytes (P := Tryz.prog) W3 22 9 5 c Tryz.underlying22 Tryz.underlying5 Tryz.underlying9
      match A with
      | none => exact hrn
      | some a =>
        have h := run_convert_bytes_back (P := Tryz.prog) W3 22 9 5 a c [] Tryz.underlying22 Tryz.underlying5 Tryz.underlying9 (fun j hj => by simp at hj)
        exact h
    · obtain ⟨b, off, rfl, hlt, hcell⟩ := hb3.allB (by omega)
      refine ⟨⟨(bs.take m).toArray⟩, ?_, by simp [ByteArray.size]; omega⟩
      have h := run_convert_bytes_back (P := Tryz.prog) W3 22 9 5 ⟨b, off, none⟩ c (bs.take m) Tryz.underlying22 Tryz.underlying5 Tryz.underlying9 (fun j hj => by
        have hj2 : j < bs.length := by rw [List.length_take] at hj; omega
        have e : (Addr.add ⟨b, off, none⟩ j) = ⟨b, off + j, none⟩ := by unfold Addr.add; split <;> simp_all
        rw [e, hcell j hj2, List.getElem_take])
      rw [hlen] at h
      exact h
  have HSZ := Lib.hid hsz
  have HS3 := Lib.hid hs3
  clear hs3
  rw [hW3] at hs
  clear hb hm hsz
  refine callsIn_of_wp_marks Tryz.func37 rfl h37 ?_ hro
  simp only [Tryz.ntmps37, List.size_toArray, List.length_cons, List.length_nil, Nat.reduceAdd, Nat.reduceSub, Array.replicate_succ, Array.replicate_zero, List.push_toArray, List.append_toArray, List.nil_append, List.cons_append]
  gi_wp2_with (gi_at_call 63; refine (all_in F (n - 1) h63 hro s _).mono ?_; rintro e w' ⟨rfl, rfl⟩)
  rw [← hW3]
  clear hW3 hs
  refine wpIn_rangeFunc_ownF hro h1 (gf := 87) (lb := #[.pointer (some ⟨w.heap.size + 1 + 1 + 1, 0, none⟩)]) rfl h87 (enters_of Tryz.func87 (by kernel_rfl) rfl) (all1_stops F (n - 1) h87 hro (by omega) s (w.heap.size + 1 + 1 + 1) (W3.alloc (.cells #[.string s] 9)) (by rw [← HS3.out]; simp) (by rw [← HS3.out]; exact ((Blk.new W3 #[.string s] 9).cell 0).trans rfl)) walksK_t walksK_b (Below.refl _ _) (fun _ => rfl)
    (fun _ W => AtI w m A bs.length c W) (fun _ _ _ => False) (atI_own w m A bs.length c _ (by have := hI3.2.size; simp; omega)) (fun _ _ _ _ _ h _ _ => h)
    ?start
    (fun x => { tmps := #[.slice A bs.length c, .int .i64 m, .pointer (some ⟨w.heap.size, 0, none⟩), undef, .pointer (some ⟨w.heap.size + 1, 0, none⟩), .int .i64 0, .pointer (some ⟨w.heap.size + 1 + 1, 0, none⟩), .int .i64 (x.1.1 : Int), .int .i32 x.1.2, .int .i64 m, .bool false, .bool false, .int .i64 m, .slice A bs.length c, .int .i64 bs.length, .bool false, .bool false, undef, .int .i64 m, .agg #[.int .i64 m, .int .i64 0, .int .i64 1, .int .i64 1], .slice A bs.length c, .int .i64 m, .slice A m c, .string s, .func (.func 87) #[] #[.pointer (some ⟨w.heap.size + 1 + 1 + 1, 0, none⟩)], .int .i64 (x.1.1 : Int), .int .i32 x.1.2, undef, undef, undef, undef, undef, undef, undef, undef, undef, undef, undef, undef, undef, undef, undef, undef, undef, undef, undef, undef, undef, undef, undef, undef, undef, undef, undef, undef, undef, undef, undef, undef, undef, undef, undef], defers := [] }) ?assign ?body ?done ?stop
  case start =>
    obtain ⟨⟨a1, a2, p1, p2, p3, a3⟩, a4⟩ := hI3
    exact ⟨⟨a1.al _, a2.al _, p1, p2, p3, a3.al _⟩, a4.trans (bl1 a4.size)⟩
  case assign =>
    intro l x W K hK
    gi_wp2
    exact hK
  case body =>
    rintro l pre ⟨⟨i, r⟩, hx⟩ W hI _
    dsimp only at hx
    rw [HSZ.out] at hx
    have hm := HM.out
    obtain ⟨b, off, rfl, hbw, hcell⟩ := HB.out.allB (by omega)
    obtain ⟨⟨B2, B4, p1, p2, p3, B6⟩, hBW⟩ := id hI
    have q0 := (B6).cell 0
    have q1 := (B6).cell 1
    have q2 := (B6).cell 2
    have q3 := (B6).cell 3
    simp at q0 q1 q2 q3
    have qf := fun o => (B6).frozen o
    have z0 := (B2).cell 0
    simp at z0
    have zf := fun o => (B2).frozen o
    have hii : (i : Int) ≤ 9223372036854775806 := by omega
    dsimp only
    by_cases h10 : r = 10
    · have h10b : (r == 10) = true := by simp [h10]
      clear h10
      gi_wp2
      all_goals first
        | (exact ⟨by repeat' first | with_reducible exact KeepsOthers.refl _ | with_reducible refine KeepsOthers.trans ?_ (KeepsOthers.setCell _ _ _), KeepsOthers.walks (by repeat' first | with_reducible exact KeepsOthers.refl _ | with_reducible refine KeepsOthers.trans ?_ (KeepsOthers.setCell _ _ _)), by repeat' first | with_reducible exact hI | with_reducible refine AtI.set ?_ _ (by simp) _⟩)
        | (rename_i hu _; exact absurd hu (by simp [undef]))
        | (rename_i hu; exact absurd hu (by simp [undef]))
    · have h10b : (r == 10) = false := by simp [h10]
      clear h10
      by_cases h13 : r = 13
      · have h13b : (r == 13) = true := by simp [h13]
        clear h13
        by_cases hi : i + 1 < bs.length
        · have hci : W.cell? ⟨b, off + (i + 1), none⟩ = some (.int .u8 (bs[i + 1].toNat : Int)) := (hBW.cell (p := ⟨b, off + (i + 1), none⟩) hbw).trans (hcell (i + 1) hi)
          have hge : decide (bs.length ≤ i + 1) = false := by rw [decide_eq_false_iff_not]; omega
          have hii2 : (i : Int) + 1 < (bs.length : Int) := by omega
          generalize (bs[i + 1].toNat : Int) = v at *
          clear hcell
          by_cases hv : v = 10
          · have hvb : (v != 10) = false := by simp [hv]
            clear hv
            gi_wp2
            exact ⟨by repeat' first | with_reducible exact KeepsOthers.refl _ | with_reducible refine KeepsOthers.trans ?_ (KeepsOthers.setCell _ _ _), KeepsOthers.walks (by repeat' first | with_reducible exact KeepsOthers.refl _ | with_reducible refine KeepsOthers.trans ?_ (KeepsOthers.setCell _ _ _)), by repeat' first | with_reducible exact hI | with_reducible refine AtI.set ?_ _ (by simp) _⟩
          · have hvb : (v != 10) = true := by simp [hv]
            clear hv
            gi_wp2
            exact ⟨by repeat' first | with_reducible exact KeepsOthers.refl _ | with_reducible refine KeepsOthers.trans ?_ (KeepsOthers.setCell _ _ _), KeepsOthers.walks (by repeat' first | with_reducible exact KeepsOthers.refl _ | with_reducible refine KeepsOthers.trans ?_ (KeepsOthers.setCell _ _ _)), by repeat' first | with_reducible exact hI | with_reducible refine AtI.set ?_ _ (by simp) _⟩
        · have hge : decide (bs.length ≤ i + 1) = true := by rw [decide_eq_true_eq]; omega
          clear hcell
          gi_wp2
          exact ⟨by repeat' first | with_reducible exact KeepsOthers.refl _ | with_reducible refine KeepsOthers.trans ?_ (KeepsOthers.setCell _ _ _), KeepsOthers.walks (by repeat' first | with_reducible exact KeepsOthers.refl _ | with_reducible refine KeepsOthers.trans ?_ (KeepsOthers.setCell _ _ _)), by repeat' first | with_reducible exact hI | with_reducible refine AtI.set ?_ _ (by simp) _⟩
      · have h13b : (r == 13) = false := by simp [h13]
        clear h13
        gi_wp2
        exact ⟨by repeat' first | with_reducible exact KeepsOthers.refl _ | with_reducible refine KeepsOthers.trans ?_ (KeepsOthers.setCell _ _ _), KeepsOthers.walks (by repeat' first | with_reducible exact KeepsOthers.refl _ | with_reducible refine KeepsOthers.trans ?_ (KeepsOthers.setCell _ _ _)), by repeat' first | with_reducible exact hI | with_reducible refine AtI.set ?_ _ (by simp) _⟩
  case done =>
    rintro D xs W hD _ hI hK
    obtain ⟨⟨B2, B4, p1, p2, p3, B6⟩, hBW⟩ := id hI
    have q0 := (B6).cell 0
    have q1 := (B6).cell 1
    have q2 := (B6).cell 2
    have q3 := (B6).cell 3
    simp at q0 q1 q2 q3
    have qf := fun o => (B6).frozen o
    have z0 := (B4).cell 0
    have z1 := (B4).cell 1
    have z2 := (B4).cell 2
    have z3 := (B4).cell 3
    simp at z0 z1 z2 z3
    have zf := fun o => (B4).frozen o
    gi_wp2
    have hKO : KeepsOthers W ((((W.setCell ⟨w.heap.size + 1, 0, none⟩ (.int .i64 m)).setCell ⟨w.heap.size + 1, 1, none⟩ (.int .i64 p1)).setCell ⟨w.heap.size + 1, 2, none⟩ (.int .i64 p2)).setCell ⟨w.heap.size + 1, 3, none⟩ (.int .i64 p3)) := by
      repeat' first | with_reducible exact KeepsOthers.refl _ | with_reducible refine KeepsOthers.trans ?_ (KeepsOthers.setCell _ _ _)
    have hK2 := hKO.same D _ hK rfl
    have B5 := (((B4.set 0 (.int .i64 m)).set 1 (.int .i64 p1)).set 2 (.int .i64 p2)).set 3 (.int .i64 p3)
    simp only [List.setIfInBounds_toArray, List.set_cons_zero, List.set_cons_succ] at B5
    have hB5 : Below w.heap.size w ((((W.setCell ⟨w.heap.size + 1, 0, none⟩ (.int .i64 m)).setCell ⟨w.heap.size + 1, 1, none⟩ (.int .i64 p1)).setCell ⟨w.heap.size + 1, 2, none⟩ (.int .i64 p2)).setCell ⟨w.heap.size + 1, 3, none⟩ (.int .i64 p3)) :=
      (((hBW.setCell (p := ⟨w.heap.size + 1, 0, none⟩) (Nat.le_succ _) _).setCell (p := ⟨w.heap.size + 1, 1, none⟩) (Nat.le_succ _) _).setCell (p := ⟨w.heap.size + 1, 2, none⟩) (Nat.le_succ _) _).setCell (p := ⟨w.heap.size + 1, 3, none⟩) (Nat.le_succ _) _
    generalize (((W.setCell ⟨w.heap.size + 1, 0, none⟩ (.int .i64 m)).setCell ⟨w.heap.size + 1, 1, none⟩ (.int .i64 p1)).setCell ⟨w.heap.size + 1, 2, none⟩ (.int .i64 p2)).setCell ⟨w.heap.size + 1, 3, none⟩ (.int .i64 p3) = W5 at *
    have hDw : w.heap.size ≤ D := by have := hI3.2.size; simp at hD; omega
    refine ⟨by simp, .inl ⟨_, _, rfl, run_takeDeferred hK2, ?_⟩⟩
    have B6' := blk_kept B5 (grownBy_putObj' W5 D (.deferred none)) (fun r e => by cases e; exact ⟨_, hK2, rfl⟩)
    have hB6 : Below w.heap.size w (W5.putObj D (.deferred none)) := hB5.trans (belowK_b (w := w) (Nat.le_refl _) W5 D _ _ hDw hK2 rfl rfl)
    clear z0 z1 z2 z3 zf q0 q1 q2 q3 qf
    have z0 := (B6').cell 0
    have z1 := (B6').cell 1
    have z2 := (B6').cell 2
    have z3 := (B6').cell 3
    simp at z0 z1 z2 z3
    have zf := fun o => (B6').frozen o
    refine ⟨.tuple #[.agg #[.int .i64 m, .int .i64 p1, .int .i64 p2, .int .i64 p3], .int .i64 0], ?_, ⟨p1, p2, p3, rfl⟩, hB6⟩
    simp [results, Tryz.results37, go_sem, z0, z1, z2, z3]
  case stop =>
    rintro D c pre W _ _ h _
    exact h.elim
end Go.Proofs.YtbbmmeaicilabaaGreatDoor
