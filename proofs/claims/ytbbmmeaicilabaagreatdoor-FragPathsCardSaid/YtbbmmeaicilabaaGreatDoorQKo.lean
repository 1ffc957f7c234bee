/- gimletref11.IsExpr: the branch of and, or, not. Conditions: the expression lies in memory as a tree. -/
import Derived.Test.YtbbmmeaicilabaaGreatDoorQKm
set_option linter.unusedVariables false
set_option linter.unusedSimpArgs false
namespace Go.Proofs.YtbbmmeaicilabaaGreatDoor
open Go.RowKit

theorem iEs_min (op l : Int) (x : Expr) (r : List Expr) (h : op = 2 ∨ rb op x.op = true) : iEs op l (x :: r) = ((decide (0 ≤ l - 1) && iE (l - 1) x) && iEs op l r) := by rw [iEs, if_pos h]
theorem iEs_id (op l : Int) (x : Expr) (r : List Expr) (h : ¬ (op = 2 ∨ rb op x.op = true)) : iEs op l (x :: r) = ((decide (0 ≤ l) && iE l x) && iEs op l r) := by rw [iEs, if_neg h]

set_option maxRecDepth 100000 in
set_option maxHeartbeats 16000000 in
theorem isE_kids {N : Nat} (H : IsE N) (hM : N ≤ 1000000000) (op : Int) (xs : List Expr) (at' : ByteArray) (tx : ByteArray) (Aa : Option Addr) (ca : Nat) (As : Option Addr) (cs : Nat) (w : World) (ok : Nat → Prop) (l : Int)
    (hx1 : RowK kE w ok Aa xs) (hN : wtEs xs ≤ N) (hl0 : 0 ≤ l) (hl1 : l ≤ 1000) (hat : at'.toList.isEmpty = true) (htx : tx.toList.isEmpty = true)
    (hop : (op = 0 ∧ 2 ≤ xs.length) ∨ (op = 1 ∧ 2 ≤ xs.length) ∨ (op = 2 ∧ xs.length = 1)) :
    Calls Tryz.prog 83 #[.agg #[.int .i64 op, .slice Aa xs.length ca, .slice As 0 cs, .string at', .int .i64 0, .string tx, .int .i64 0], .int .i64 l] w fun e w' => e = .returned (.bool (iEs op l xs)) ∧ Below w.heap.size w w' := by
  have HH := Lib.hid H
  clear H
  have hlx := hx1.len
  obtain ⟨W0, hW0⟩ : ∃ W, W = w.alloc (.cells #[.int .i64 op, .slice Aa xs.length ca, .slice As 0 cs, .string at', .int .i64 0, .string tx, .int .i64 0] 64) := ⟨_, rfl⟩
  have BT : Blk W0 w.heap.size #[.int .i64 op, .slice Aa xs.length ca, .slice As 0 cs, .string at', .int .i64 0, .string tx, .int .i64 0] 64 := by rw [hW0]; exact Blk.new _ _ _
  have hb0 : Below w.heap.size w W0 := by rw [hW0]; exact bl1 (Nat.le_refl _)
  rcases hop with ⟨rfl, hop⟩ | ⟨rfl, hop⟩ | ⟨rfl, hop⟩
  · go_enter Tryz.func83, Tryz.ntmps83
    go_wp2_with fail
    rw [← hW0]
    clear hW0
    go_loopw [63] (fun i wr => ∃ k : Nat, k ≤ xs.length ∧ i = .int .i64 k ∧ Hid (iEs 0 l xs = iEs 0 l (xs.drop k)) ∧ Below w.heap.size w wr ∧ w.heap.size < wr.heap.size ∧ Below W0.heap.size W0 wr) (fun i _ => xs.length - (intOf i).toNat)
    case atStart => exact ⟨0, Nat.zero_le _, rfl, rfl, hb0, BT.lt, Below.refl _ _⟩
    case round =>
      obtain ⟨k, hk, rfl, HE, hbr, hsr, hBr⟩ := hrel
      obtain ⟨wi, rfl⟩ : ∃ wi : World, wi = wr := ⟨_, rfl⟩
      by_cases hlt : k < xs.length
      · have hb1 := hb0
        obtain ⟨x, b, off, Ab, c1, As2, c2, HX, rfl, hbw, hR, y0, y1, y2, y3, y4, y5, y6⟩ := (hx1.below hbr).atE k hlt
        have BTr := BT.below hBr
        have hwx := wtEs_get xs k hlt
        rw [HX.out] at hwx
        have hdr : xs.drop k = x :: xs.drop (k + 1) := by rw [← HX.out]; exact List.drop_eq_getElem_cons hlt
        have q0 := (BTr).cell 0
        have q1 := (BTr).cell 1
        have q2 := (BTr).cell 2
        have q3 := (BTr).cell 3
        have q4 := (BTr).cell 4
        have q5 := (BTr).cell 5
        have q6 := (BTr).cell 6
        simp at q0 q1 q2 q3 q4 q5 q6
        have qf := fun o => (BTr).frozen o
        have HE1 : Hid (iEs 0 l xs = iEs 0 l (x :: xs.drop (k + 1))) := by unfold Hid; rw [HE.out, hdr]
        clear hdr HE HX
        have hbb : b ≠ wi.heap.size := by omega

        go_wp2_with fail
        refine (show Calls Tryz.prog 110 #[.int .i64 0, .int .i64 x.op] _ (fun e w' => e = .returned (.bool (rb 0 x.op)) ∧ w' = _) from rbracketed_any 0 x.op _).mono ?_
        rintro e w2 ⟨rfl, rfl⟩
        cases hrb : rb 0 x.op
        · have HE2 : Hid (iEs 0 l xs = ((decide (0 ≤ l) && iE l x) && iEs 0 l (xs.drop (k + 1)))) := by unfold Hid; rw [HE1.out, iEs_id _ _ _ _ (by simp [hrb])]
          have HC := Lib.hid (HH.out x _ (wi.alloc (.cells (#[.int .i64 x.op, .slice Ab x.args.length c1, .slice As2 x.path.length c2, .string x.attr, .int .i64 x.cmp, .string x.text, .int .i64 x.num]) 64)) ok (l) (RE.al hR) (by omega) (by omega) (by omega))
          go_wp2_with fail
          refine HC.out.mono ?_
          rintro e w8 ⟨rfl, hb8⟩
          have hb9 : Below wi.heap.size wi w8 := (bl1 (Nat.le_refl _)).trans (hb8.mono (by simp))
          have hbr9 := hbr.trans (hb9.mono hbr.size)
          cases hi : iE (l) x
          · have HF : Hid (iEs 0 l xs = false) := by unfold Hid; rw [HE2.out, hi]; simp
            clear hi
            go_wp2_with fail
            go_ret
            exact ⟨by rw [HF.out]; rfl, hbr9⟩
          · have HE3 : Hid (iEs 0 l xs = iEs 0 l (xs.drop (k + 1))) := by unfold Hid; rw [HE2.out, hi, decide_eq_true (by omega)]; rfl
            clear hi
            go_wp2_with fail
            go_roundw
            case rel => exact ⟨k + 1, by omega, by go_num, HE3, hbr9, by have := hb9.size; omega, hBr.trans (hb9.mono (by have := hBr.size; omega))⟩
            case measure => simp [intOf]; omega
        · have HE2 : Hid (iEs 0 l xs = ((decide (0 ≤ l - 1) && iE (l - 1) x) && iEs 0 l (xs.drop (k + 1)))) := by unfold Hid; rw [HE1.out, iEs_min _ _ _ _ (by simp [hrb])]
          by_cases hl2 : 1 ≤ l
          · have HC := Lib.hid (HH.out x _ (wi.alloc (.cells (#[.int .i64 x.op, .slice Ab x.args.length c1, .slice As2 x.path.length c2, .string x.attr, .int .i64 x.cmp, .string x.text, .int .i64 x.num]) 64)) ok (l - 1) (RE.al hR) (by omega) (by omega) (by omega))
            go_wp2_with fail
            refine HC.out.mono ?_
            rintro e w8 ⟨rfl, hb8⟩
            have hb9 : Below wi.heap.size wi w8 := (bl1 (Nat.le_refl _)).trans (hb8.mono (by simp))
            have hbr9 := hbr.trans (hb9.mono hbr.size)
            cases hi : iE (l - 1) x
            · have HF : Hid (iEs 0 l xs = false) := by unfold Hid; rw [HE2.out, hi]; simp
              clear hi
              go_wp2_with fail
              go_ret
              exact ⟨by rw [HF.out]; rfl, hbr9⟩
            · have HE3 : Hid (iEs 0 l xs = iEs 0 l (xs.drop (k + 1))) := by unfold Hid; rw [HE2.out, hi, decide_eq_true (by omega)]; rfl
              clear hi
              go_wp2_with fail
              go_roundw
              case rel => exact ⟨k + 1, by omega, by go_num, HE3, hbr9, by have := hb9.size; omega, hBr.trans (hb9.mono (by have := hBr.size; omega))⟩
              case measure => simp [intOf]; omega
          · have HF : Hid (iEs 0 l xs = false) := by unfold Hid; rw [HE2.out, decide_eq_false (by omega)]; rfl
            go_wp2_with fail
            go_ret
            exact ⟨by rw [HF.out]; rfl, hbr.trans (bl1 hbr.size)⟩

      · have HF : Hid (iEs 0 l xs = true) := by unfold Hid; rw [HE.out, List.drop_of_length_le (by omega)]; rfl
        go_wp2_with fail
        go_ret
        exact ⟨by rw [HF.out]; rfl, hbr⟩
  · go_enter Tryz.func83, Tryz.ntmps83
    go_wp2_with fail
    rw [← hW0]
    clear hW0
    go_loopw [63] (fun i wr => ∃ k : Nat, k ≤ xs.length ∧ i = .int .i64 k ∧ Hid (iEs 1 l xs = iEs 1 l (xs.drop k)) ∧ Below w.heap.size w wr ∧ w.heap.size < wr.heap.size ∧ Below W0.heap.size W0 wr) (fun i _ => xs.length - (intOf i).toNat)
    case atStart => exact ⟨0, Nat.zero_le _, rfl, rfl, hb0, BT.lt, Below.refl _ _⟩
    case round =>
      obtain ⟨k, hk, rfl, HE, hbr, hsr, hBr⟩ := hrel
      obtain ⟨wi, rfl⟩ : ∃ wi : World, wi = wr := ⟨_, rfl⟩
      by_cases hlt : k < xs.length
      · have hb1 := hb0
        obtain ⟨x, b, off, Ab, c1, As2, c2, HX, rfl, hbw, hR, y0, y1, y2, y3, y4, y5, y6⟩ := (hx1.below hbr).atE k hlt
        have BTr := BT.below hBr
        have hwx := wtEs_get xs k hlt
        rw [HX.out] at hwx
        have hdr : xs.drop k = x :: xs.drop (k + 1) := by rw [← HX.out]; exact List.drop_eq_getElem_cons hlt
        have q0 := (BTr).cell 0
        have q1 := (BTr).cell 1
        have q2 := (BTr).cell 2
        have q3 := (BTr).cell 3
        have q4 := (BTr).cell 4
        have q5 := (BTr).cell 5
        have q6 := (BTr).cell 6
        simp at q0 q1 q2 q3 q4 q5 q6
        have qf := fun o => (BTr).frozen o
        have HE1 : Hid (iEs 1 l xs = iEs 1 l (x :: xs.drop (k + 1))) := by unfold Hid; rw [HE.out, hdr]
        clear hdr HE HX
        have hbb : b ≠ wi.heap.size := by omega

        go_wp2_with fail
        refine (show Calls Tryz.prog 110 #[.int .i64 1, .int .i64 x.op] _ (fun e w' => e = .returned (.bool (rb 1 x.op)) ∧ w' = _) from rbracketed_any 1 x.op _).mono ?_
        rintro e w2 ⟨rfl, rfl⟩
        cases hrb : rb 1 x.op
        · have HE2 : Hid (iEs 1 l xs = ((decide (0 ≤ l) && iE l x) && iEs 1 l (xs.drop (k + 1)))) := by unfold Hid; rw [HE1.out, iEs_id _ _ _ _ (by simp [hrb])]
          have HC := Lib.hid (HH.out x _ (wi.alloc (.cells (#[.int .i64 x.op, .slice Ab x.args.length c1, .slice As2 x.path.length c2, .string x.attr, .int .i64 x.cmp, .string x.text, .int .i64 x.num]) 64)) ok (l) (RE.al hR) (by omega) (by omega) (by omega))
          go_wp2_with fail
          refine HC.out.mono ?_
          rintro e w8 ⟨rfl, hb8⟩
          have hb9 : Below wi.heap.size wi w8 := (bl1 (Nat.le_refl _)).trans (hb8.mono (by simp))
          have hbr9 := hbr.trans (hb9.mono hbr.size)
          cases hi : iE (l) x
          · have HF : Hid (iEs 1 l xs = false) := by unfold Hid; rw [HE2.out, hi]; simp
            clear hi
            go_wp2_with fail
            go_ret
            exact ⟨by rw [HF.out]; rfl, hbr9⟩
          · have HE3 : Hid (iEs 1 l xs = iEs 1 l (xs.drop (k + 1))) := by unfold Hid; rw [HE2.out, hi, decide_eq_true (by omega)]; rfl
            clear hi
            go_wp2_with fail
            go_roundw
            case rel => exact ⟨k + 1, by omega, by go_num, HE3, hbr9, by have := hb9.size; omega, hBr.trans (hb9.mono (by have := hBr.size; omega))⟩
            case measure => simp [intOf]; omega
        · have HE2 : Hid (iEs 1 l xs = ((decide (0 ≤ l - 1) && iE (l - 1) x) && iEs 1 l (xs.drop (k + 1)))) := by unfold Hid; rw [HE1.out, iEs_min _ _ _ _ (by simp [hrb])]
          by_cases hl2 : 1 ≤ l
          · have HC := Lib.hid (HH.out x _ (wi.alloc (.cells (#[.int .i64 x.op, .slice Ab x.args.length c1, .slice As2 x.path.length c2, .string x.attr, .int .i64 x.cmp, .string x.text, .int .i64 x.num]) 64)) ok (l - 1) (RE.al hR) (by omega) (by omega) (by omega))
            go_wp2_with fail
            refine HC.out.mono ?_
            rintro e w8 ⟨rfl, hb8⟩
            have hb9 : Below wi.heap.size wi w8 := (bl1 (Nat.le_refl _)).trans (hb8.mono (by simp))
            have hbr9 := hbr.trans (hb9.mono hbr.size)
            cases hi : iE (l - 1) x
            · have HF : Hid (iEs 1 l xs = false) := by unfold Hid; rw [HE2.out, hi]; simp
              clear hi
              go_wp2_with fail
              go_ret
              exact ⟨by rw [HF.out]; rfl, hbr9⟩
            · have HE3 : Hid (iEs 1 l xs = iEs 1 l (xs.drop (k + 1))) := by unfold Hid; rw [HE2.out, hi, decide_eq_true (by omega)]; rfl
              clear hi
              go_wp2_with fail
              go_roundw
              case rel => exact ⟨k + 1, by omega, by go_num, HE3, hbr9, by have := hb9.size; omega, hBr.trans (hb9.mono (by have := hBr.size; omega))⟩
              case measure => simp [intOf]; omega
          · have HF : Hid (iEs 1 l xs = false) := by unfold Hid; rw [HE2.out, decide_eq_false (by omega)]; rfl
            go_wp2_with fail
            go_ret
            exact ⟨by rw [HF.out]; rfl, hbr.trans (bl1 hbr.size)⟩

      · have HF : Hid (iEs 1 l xs = true) := by unfold Hid; rw [HE.out, List.drop_of_length_le (by omega)]; rfl
        go_wp2_with fail
        go_ret
        exact ⟨by rw [HF.out]; rfl, hbr⟩
  · have hlb : ((xs.length : Int) != 1) = false := by simp [hop]
    clear hop
    go_enter Tryz.func83, Tryz.ntmps83
    go_wp2_with fail
    rw [← hW0]
    clear hW0
    go_loopw [63] (fun i wr => ∃ k : Nat, k ≤ xs.length ∧ i = .int .i64 k ∧ Hid (iEs 2 l xs = iEs 2 l (xs.drop k)) ∧ Below w.heap.size w wr ∧ w.heap.size < wr.heap.size ∧ Below W0.heap.size W0 wr) (fun i _ => xs.length - (intOf i).toNat)
    case atStart => exact ⟨0, Nat.zero_le _, rfl, rfl, hb0, BT.lt, Below.refl _ _⟩
    case round =>
      obtain ⟨k, hk, rfl, HE, hbr, hsr, hBr⟩ := hrel
      obtain ⟨wi, rfl⟩ : ∃ wi : World, wi = wr := ⟨_, rfl⟩
      by_cases hlt : k < xs.length
      · have hb1 := hb0
        obtain ⟨x, b, off, Ab, c1, As2, c2, HX, rfl, hbw, hR, y0, y1, y2, y3, y4, y5, y6⟩ := (hx1.below hbr).atE k hlt
        have BTr := BT.below hBr
        have hwx := wtEs_get xs k hlt
        rw [HX.out] at hwx
        have hdr : xs.drop k = x :: xs.drop (k + 1) := by rw [← HX.out]; exact List.drop_eq_getElem_cons hlt
        have q0 := (BTr).cell 0
        have q1 := (BTr).cell 1
        have q2 := (BTr).cell 2
        have q3 := (BTr).cell 3
        have q4 := (BTr).cell 4
        have q5 := (BTr).cell 5
        have q6 := (BTr).cell 6
        simp at q0 q1 q2 q3 q4 q5 q6
        have qf := fun o => (BTr).frozen o
        have HE1 : Hid (iEs 2 l xs = iEs 2 l (x :: xs.drop (k + 1))) := by unfold Hid; rw [HE.out, hdr]
        clear hdr HE HX
        have hbb : b ≠ wi.heap.size := by omega
        have hrb : True := trivial

        have HE2 : Hid (iEs 2 l xs = ((decide (0 ≤ l - 1) && iE (l - 1) x) && iEs 2 l (xs.drop (k + 1)))) := by unfold Hid; rw [HE1.out, iEs_min _ _ _ _ (by simp [hrb])]
        by_cases hl2 : 1 ≤ l
        · have HC := Lib.hid (HH.out x _ (wi.alloc (.cells (#[.int .i64 x.op, .slice Ab x.args.length c1, .slice As2 x.path.length c2, .string x.attr, .int .i64 x.cmp, .string x.text, .int .i64 x.num]) 64)) ok (l - 1) (RE.al hR) (by omega) (by omega) (by omega))
          go_wp2_with fail
          refine HC.out.mono ?_
          rintro e w8 ⟨rfl, hb8⟩
          have hb9 : Below wi.heap.size wi w8 := (bl1 (Nat.le_refl _)).trans (hb8.mono (by simp))
          have hbr9 := hbr.trans (hb9.mono hbr.size)
          cases hi : iE (l - 1) x
          · have HF : Hid (iEs 2 l xs = false) := by unfold Hid; rw [HE2.out, hi]; simp
            clear hi
            go_wp2_with fail
            go_ret
            exact ⟨by rw [HF.out]; rfl, hbr9⟩
          · have HE3 : Hid (iEs 2 l xs = iEs 2 l (xs.drop (k + 1))) := by unfold Hid; rw [HE2.out, hi, decide_eq_true (by omega)]; rfl
            clear hi
            go_wp2_with fail
            go_roundw
            case rel => exact ⟨k + 1, by omega, by go_num, HE3, hbr9, by have := hb9.size; omega, hBr.trans (hb9.mono (by have := hBr.size; omega))⟩
            case measure => simp [intOf]; omega
        · have HF : Hid (iEs 2 l xs = false) := by unfold Hid; rw [HE2.out, decide_eq_false (by omega)]; rfl
          go_wp2_with fail
          go_ret
          exact ⟨by rw [HF.out]; rfl, hbr.trans (bl1 hbr.size)⟩

      · have HF : Hid (iEs 2 l xs = true) := by unfold Hid; rw [HE.out, List.drop_of_length_le (by omega)]; rfl
        go_wp2_with fail
        go_ret
        exact ⟨by rw [HF.out]; rfl, hbr⟩
end Go.Proofs.YtbbmmeaicilabaaGreatDoor

/- gimletref11.IsExpr: the branch of a path. Conditions: the expression lies in memory as a tree. -/
namespace Go.Proofs.YtbbmmeaicilabaaGreatDoor
open Go.RowKit

set_option maxRecDepth 100000 in
set_option maxHeartbeats 16000000 in
theorem isE_leaf {N : Nat} (HP : IsP N) (hM : N ≤ 1000000000) (xs : List Expr) (ps : List Step) (at' : ByteArray) (cm : Int) (tx : ByteArray) (nu : Int) (Aa : Option Addr) (ca : Nat) (As : Option Addr) (cs : Nat) (w : World) (ok : Nat → Prop) (l : Int)
    (hx : RE w ok (.mk 3 xs ps at' cm tx nu) [.int .i64 3, .slice Aa xs.length ca, .slice As ps.length cs, .string at', .int .i64 cm, .string tx, .int .i64 nu]) (hx2 : RowK kS w ok As ps) (hxl : xs.length ≤ 1000000000) (hN : wtP ps ≤ N) (hla : at'.size ≤ 1000000000) (hlt : tx.size ≤ 1000000000) (hl0 : 0 ≤ l) (hl1 : l ≤ 1000) :
    Calls Tryz.prog 83 #[.agg #[.int .i64 3, .slice Aa xs.length ca, .slice As ps.length cs, .string at', .int .i64 cm, .string tx, .int .i64 nu], .int .i64 l] w fun e w' => e = .returned (.bool (iE l (.mk 3 xs ps at' cm tx nu))) ∧ Below w.heap.size w w' := by
  have HPP := Lib.hid HP
  clear HP
  have hg : iE l (.mk 3 xs ps at' cm tx nu) = (decide (0 ≤ (if 3 ≤ cm then l - 1 else l)) && (decide (xs.length = 0) && ((decide (0 < ps.length) && iP (if 3 ≤ cm then l - 1 else l) ps) && ((at'.toList.isEmpty || nameB at') && cmpB cm tx nu)))) := by rw [iE, if_pos rfl]
  generalize iE l (.mk 3 xs ps at' cm tx nu) = r at hg ⊢
  have HX := Lib.hid hx
  clear hx
  obtain ⟨W0, hW0⟩ : ∃ W, W = w.alloc (.cells #[.int .i64 3, .slice Aa xs.length ca, .slice As ps.length cs, .string at', .int .i64 cm, .string tx, .int .i64 nu] 64) := ⟨_, rfl⟩
  have BT : Blk W0 w.heap.size #[.int .i64 3, .slice Aa xs.length ca, .slice As ps.length cs, .string at', .int .i64 cm, .string tx, .int .i64 nu] 64 := by rw [hW0]; exact Blk.new _ _ _
  have hb0 : Below w.heap.size w W0 := by rw [hW0]; exact bl1 (Nat.le_refl _)
  go_enter Tryz.func83, Tryz.ntmps83
  go_wp2_with fail
  rw [← hW0]
  clear hW0
  refine (asks_any cm _).mono ?_
  rintro e w1 ⟨rfl, rfl⟩
  cases hcb : decide (3 ≤ cm)
  · have hcm : ¬ 3 ≤ cm := of_decide_eq_false hcb
    have HC0 : Hid (r = (decide (0 ≤ l) && (decide (xs.length = 0) && ((decide (0 < ps.length) && iP (l) ps) && ((at'.toList.isEmpty || nameB at') && cmpB cm tx nu))))) := by unfold Hid; rw [hg]; simp [hcm]
    clear hg
    have q0 := (BT).cell 0
    have q1 := (BT).cell 1
    have q2 := (BT).cell 2
    have q3 := (BT).cell 3
    have q4 := (BT).cell 4
    have q5 := (BT).cell 5
    have q6 := (BT).cell 6
    simp at q0 q1 q2 q3 q4 q5 q6
    have qf := fun o => (BT).frozen o

    have hlv : decide (0 ≤ l) = true := decide_eq_true (by omega)
    cases hxb : ((xs.length : Int) == 0)
    · have HC : Hid (r = false) := by
        have h : ¬ xs.length = 0 := by intro h; rw [h] at hxb; cases hxb
        unfold Hid; rw [HC0.out, hlv, decide_eq_false h]; rfl
      go_wp2_with fail
      go_ret
      exact ⟨by rw [HC.out]; rfl, hb0⟩
    have HC1 : Hid (r = ((decide (0 < ps.length) && iP (l) ps) && ((at'.toList.isEmpty || nameB at') && cmpB cm tx nu))) := by
      have h : xs.length = 0 := by have := of_decide_eq_true hxb; omega
      unfold Hid; rw [HC0.out, hlv, decide_eq_true h]; rfl
    clear HC0
    clear hlv
    go_wp2_with fail
    refine (HPP.out ps As cs w1 ok (l) (hx2.below hb0) (by omega) (by omega) (by omega)).mono ?_
    rintro e w2 ⟨rfl, hb2⟩
    have B2 := BT.below hb2
    have hb02 := hb0.trans (hb2.mono hb0.size)
    clear q0 q1 q2 q3 q4 q5 q6 qf
    have q0 := (B2).cell 0
    have q1 := (B2).cell 1
    have q2 := (B2).cell 2
    have q3 := (B2).cell 3
    have q4 := (B2).cell 4
    have q5 := (B2).cell 5
    have q6 := (B2).cell 6
    simp at q0 q1 q2 q3 q4 q5 q6
    have qf := fun o => (B2).frozen o
    cases hpi : decide (0 < ps.length) && iP (l) ps
    · have HC : Hid (r = false) := by unfold Hid; rw [HC1.out, hpi]; rfl
      go_wp2_with fail
      go_ret
      exact ⟨by rw [HC.out]; rfl, hb02⟩
    have HC2 : Hid (r = ((at'.toList.isEmpty || nameB at') && cmpB cm tx nu)) := by unfold Hid; rw [HC1.out, hpi]; rfl
    clear HC1
    cases hat : at'.toList.isEmpty
    case' false =>
      go_wp2_with fail
      refine (refName_any at' w2 hla).mono ?_
      rintro e w3 ⟨rfl, hb3⟩
      have B3 := B2.below hb3
      have hb03 := hb02.trans (hb3.mono hb02.size)
      clear q0 q1 q2 q3 q4 q5 q6 qf
      have q0 := (B3).cell 0
      have q1 := (B3).cell 1
      have q2 := (B3).cell 2
      have q3 := (B3).cell 3
      have q4 := (B3).cell 4
      have q5 := (B3).cell 5
      have q6 := (B3).cell 6
      simp at q0 q1 q2 q3 q4 q5 q6
      have qf := fun o => (B3).frozen o
      cases hn : nameB at'
      · have HC : Hid (r = false) := by unfold Hid; rw [HC2.out, hat, hn]; rfl
        go_wp2_with fail
        go_ret
        exact ⟨by rw [HC.out]; rfl, hb03⟩
      have HC3 : Hid (r = cmpB cm tx nu) := by unfold Hid; rw [HC2.out, hn, Bool.or_true]; rfl
      clear HC2 hn
    case' true =>
      have HC3 : Hid (r = cmpB cm tx nu) := by unfold Hid; rw [HC2.out, hat]; rfl
      clear HC2
      have hb03 := hb02
      obtain ⟨w3, rfl⟩ : ∃ w3, w3 = w2 := ⟨_, rfl⟩
    all_goals
      go_wp2_with fail
      refine (isCompare_any (.mk 3 xs ps at' cm tx nu) _ w3 ok (RE.bel hb03 HX.out) hlt).mono ?_
      rintro e w4 ⟨rfl, hb4⟩
      go_wp2_with fail
      go_ret
      exact ⟨by rw [HC3.out]; rfl, hb03.trans (hb4.mono hb03.size)⟩
  · have hcm : 3 ≤ cm := of_decide_eq_true hcb
    have HC0 : Hid (r = (decide (0 ≤ l - 1) && (decide (xs.length = 0) && ((decide (0 < ps.length) && iP (l - 1) ps) && ((at'.toList.isEmpty || nameB at') && cmpB cm tx nu))))) := by unfold Hid; rw [hg]; simp [hcm]
    clear hg
    have q0 := (BT).cell 0
    have q1 := (BT).cell 1
    have q2 := (BT).cell 2
    have q3 := (BT).cell 3
    have q4 := (BT).cell 4
    have q5 := (BT).cell 5
    have q6 := (BT).cell 6
    simp at q0 q1 q2 q3 q4 q5 q6
    have qf := fun o => (BT).frozen o
    by_cases hlv : 1 ≤ l
    rotate_left
    · have HC : Hid (r = false) := by unfold Hid; rw [HC0.out, decide_eq_false (by omega)]; rfl
      have hlv2 : l < 1 := by omega
      go_wp2_with fail
      go_ret
      exact ⟨by rw [HC.out]; rfl, hb0⟩

    have hlv : decide (0 ≤ l - 1) = true := decide_eq_true (by omega)
    cases hxb : ((xs.length : Int) == 0)
    · have HC : Hid (r = false) := by
        have h : ¬ xs.length = 0 := by intro h; rw [h] at hxb; cases hxb
        unfold Hid; rw [HC0.out, hlv, decide_eq_false h]; rfl
      go_wp2_with fail
      go_ret
      exact ⟨by rw [HC.out]; rfl, hb0⟩
    have HC1 : Hid (r = ((decide (0 < ps.length) && iP (l - 1) ps) && ((at'.toList.isEmpty || nameB at') && cmpB cm tx nu))) := by
      have h : xs.length = 0 := by have := of_decide_eq_true hxb; omega
      unfold Hid; rw [HC0.out, hlv, decide_eq_true h]; rfl
    clear HC0
    clear hlv
    go_wp2_with fail
    refine (HPP.out ps As cs w1 ok (l - 1) (hx2.below hb0) (by omega) (by omega) (by omega)).mono ?_
    rintro e w2 ⟨rfl, hb2⟩
    have B2 := BT.below hb2
    have hb02 := hb0.trans (hb2.mono hb0.size)
    clear q0 q1 q2 q3 q4 q5 q6 qf
    have q0 := (B2).cell 0
    have q1 := (B2).cell 1
    have q2 := (B2).cell 2
    have q3 := (B2).cell 3
    have q4 := (B2).cell 4
    have q5 := (B2).cell 5
    have q6 := (B2).cell 6
    simp at q0 q1 q2 q3 q4 q5 q6
    have qf := fun o => (B2).frozen o
    cases hpi : decide (0 < ps.length) && iP (l - 1) ps
    · have HC : Hid (r = false) := by unfold Hid; rw [HC1.out, hpi]; rfl
      go_wp2_with fail
      go_ret
      exact ⟨by rw [HC.out]; rfl, hb02⟩
    have HC2 : Hid (r = ((at'.toList.isEmpty || nameB at') && cmpB cm tx nu)) := by unfold Hid; rw [HC1.out, hpi]; rfl
    clear HC1
    cases hat : at'.toList.isEmpty
    case' false =>
      go_wp2_with fail
      refine (refName_any at' w2 hla).mono ?_
      rintro e w3 ⟨rfl, hb3⟩
      have B3 := B2.below hb3
      have hb03 := hb02.trans (hb3.mono hb02.size)
      clear q0 q1 q2 q3 q4 q5 q6 qf
      have q0 := (B3).cell 0
      have q1 := (B3).cell 1
      have q2 := (B3).cell 2
      have q3 := (B3).cell 3
      have q4 := (B3).cell 4
      have q5 := (B3).cell 5
      have q6 := (B3).cell 6
      simp at q0 q1 q2 q3 q4 q5 q6
      have qf := fun o => (B3).frozen o
      cases hn : nameB at'
      · have HC : Hid (r = false) := by unfold Hid; rw [HC2.out, hat, hn]; rfl
        go_wp2_with fail
        go_ret
        exact ⟨by rw [HC.out]; rfl, hb03⟩
      have HC3 : Hid (r = cmpB cm tx nu) := by unfold Hid; rw [HC2.out, hn, Bool.or_true]; rfl
      clear HC2 hn
    case' true =>
      have HC3 : Hid (r = cmpB cm tx nu) := by unfold Hid; rw [HC2.out, hat]; rfl
      clear HC2
      have hb03 := hb02
      obtain ⟨w3, rfl⟩ : ∃ w3, w3 = w2 := ⟨_, rfl⟩
    all_goals
      go_wp2_with fail
      refine (isCompare_any (.mk 3 xs ps at' cm tx nu) _ w3 ok (RE.bel hb03 HX.out) hlt).mono ?_
      rintro e w4 ⟨rfl, hb4⟩
      go_wp2_with fail
      go_ret
      exact ⟨by rw [HC3.out]; rfl, hb03.trans (hb4.mono hb03.size)⟩
end Go.Proofs.YtbbmmeaicilabaaGreatDoor

/- gimletref11.IsExpr joined. Conditions: the expression lies in memory as a tree. -/
namespace Go.Proofs.YtbbmmeaicilabaaGreatDoor
open Go.RowKit

set_option maxRecDepth 100000 in
set_option maxHeartbeats 16000000 in
theorem isE_any {N : Nat} (H : IsE N) (HP : IsP N) (hM : N ≤ 1000000000) : IsE (N + 1) := by
  intro x cx w ok l hx hN hl0 hl1
  obtain ⟨Aa, ca, As, cs, rfl, hx1, hx2⟩ := hx.rows
  have HX := Lib.hid hx
  clear hx
  have hwx : wtE x = 1 + x.attr.size + x.text.size + wtEs x.args + wtP x.path := by cases x; rfl
  obtain ⟨op, xs, ps, at', cm, tx, nu⟩ := x
  simp only [Expr.op, Expr.args, Expr.path, Expr.attr, Expr.cmp, Expr.text, Expr.num, wtE] at *
  have hg : iE l (.mk op xs ps at' cm tx nu) = if op = 3 then decide (0 ≤ (if 3 ≤ cm then l - 1 else l)) && (decide (xs.length = 0) && ((decide (0 < ps.length) && iP (if 3 ≤ cm then l - 1 else l) ps) && ((at'.toList.isEmpty || nameB at') && cmpB cm tx nu)))
    else ((((decide (ps.length = 0) && at'.toList.isEmpty) && decide (cm = 0)) && tx.toList.isEmpty) && decide (nu = 0)) && ((if op = 0 ∨ op = 1 then decide (2 ≤ xs.length) else decide (op = 2) && decide (xs.length = 1)) && iEs op l xs) := by rw [iE]
  by_cases h3 : op = 3
  · subst h3
    clear hg
    exact isE_leaf HP hM xs ps at' cm tx nu Aa ca As cs w ok l HX.out hx2 (by have := wtEs_len xs; omega) (by omega) (by omega) (by omega) hl0 hl1
  · generalize iE l (.mk op xs ps at' cm tx nu) = r at hg ⊢
    rw [if_neg h3] at hg
    have dead : (¬ (ps.length = 0 ∧ at'.toList.isEmpty = true ∧ cm = 0 ∧ tx.toList.isEmpty = true ∧ nu = 0 ∧ (if op = 0 ∨ op = 1 then 2 ≤ xs.length else op = 2 ∧ xs.length = 1))) → r = false := by
      intro hn
      rw [hg]
      cases hb : ((((decide (ps.length = 0) && at'.toList.isEmpty) && decide (cm = 0)) && tx.toList.isEmpty) && decide (nu = 0)) && (if op = 0 ∨ op = 1 then decide (2 ≤ xs.length) else decide (op = 2) && decide (xs.length = 1))
      · rw [← Bool.and_assoc, hb]; rfl
      · refine absurd ?_ hn
        split at hb <;> rename_i ho <;> simp [ho] at hb ⊢ <;> simp [hb]
    by_cases hop : op = 0 ∨ op = 1 ∨ op = 2
    rotate_left
    · have HC : Hid (r = false) := dead (fun h => by have h6 := h.2.2.2.2.2; split at h6 <;> omega)
      have ho0 : ¬ op = 0 := by omega
      have ho1 : ¬ op = 1 := by omega
      have ho2 : ¬ op = 2 := by omega
      clear hg dead hop
      go_enter Tryz.func83, Tryz.ntmps83
      go_wp2_with fail
      go_ret
      exact ⟨by rw [HC.out]; rfl, bl1 (Nat.le_refl _)⟩
    by_cases hl : ps.length = 0
    rotate_left
    · have HC : Hid (r = false) := dead (fun h => hl h.1)
      clear hg dead
      rcases hop with rfl | rfl | rfl
      all_goals
        go_enter Tryz.func83, Tryz.ntmps83
        go_wp2_with fail
        go_ret
        exact ⟨by rw [HC.out]; rfl, bl1 (Nat.le_refl _)⟩
    cases hat : at'.toList.isEmpty
    · have HC : Hid (r = false) := dead (fun h => by rw [hat] at h; cases h.2.1)
      clear hg dead
      rcases hop with rfl | rfl | rfl
      all_goals
        go_enter Tryz.func83, Tryz.ntmps83
        go_wp2_with fail
        go_ret
        exact ⟨by rw [HC.out]; rfl, bl1 (Nat.le_refl _)⟩
    by_cases hcm : cm = 0
    rotate_left
    · have HC : Hid (r = false) := dead (fun h => hcm h.2.2.1)
      clear hg dead
      rcases hop with rfl | rfl | rfl
      all_goals
        go_enter Tryz.func83, Tryz.ntmps83
        go_wp2_with fail
        go_ret
        exact ⟨by rw [HC.out]; rfl, bl1 (Nat.le_refl _)⟩
    cases htx : tx.toList.isEmpty
    · have HC : Hid (r = false) := dead (fun h => by rw [htx] at h; cases h.2.2.2.1)
      clear hg dead
      rcases hop with rfl | rfl | rfl
      all_goals
        go_enter Tryz.func83, Tryz.ntmps83
        go_wp2_with fail
        go_ret
        exact ⟨by rw [HC.out]; rfl, bl1 (Nat.le_refl _)⟩
    by_cases hnu : nu = 0
    rotate_left
    · have HC : Hid (r = false) := dead (fun h => hnu h.2.2.2.2.1)
      clear hg dead
      rcases hop with rfl | rfl | rfl
      all_goals
        go_enter Tryz.func83, Tryz.ntmps83
        go_wp2_with fail
        go_ret
        exact ⟨by rw [HC.out]; rfl, bl1 (Nat.le_refl _)⟩
    by_cases ho : (if op = 0 ∨ op = 1 then 2 ≤ xs.length else op = 2 ∧ xs.length = 1)
    rotate_left
    · have HC : Hid (r = false) := dead (fun h => ho h.2.2.2.2.2)
      clear hg dead
      have hop : (op = 0 ∧ ¬ 2 ≤ xs.length) ∨ (op = 1 ∧ ¬ 2 ≤ xs.length) ∨ (op = 2 ∧ ¬ xs.length = 1) := by split at ho <;> omega
      clear ho
      rcases hop with ⟨rfl, hop⟩ | ⟨rfl, hop⟩ | ⟨rfl, hop⟩
      all_goals
        go_enter Tryz.func83, Tryz.ntmps83
        go_wp2_with fail
        go_ret
        exact ⟨by rw [HC.out]; rfl, bl1 (Nat.le_refl _)⟩
    have HC : Hid (r = iEs op l xs) := by
      unfold Hid
      rw [hg]
      split at ho <;> rename_i hh <;> simp [hl, hat, hcm, htx, hnu, hh, ho]
    clear hg dead
    have hop2 : (op = 0 ∧ 2 ≤ xs.length) ∨ (op = 1 ∧ 2 ≤ xs.length) ∨ (op = 2 ∧ xs.length = 1) := by split at ho <;> omega
    rw [hl, hcm, hnu, HC.out]
    exact isE_kids H hM op xs at' tx Aa ca As cs w ok l hx1 (by omega) hl0 hl1 hat htx hop2

theorem is_all (N : Nat) (hM : N ≤ 1000000000) : IsE N ∧ IsP N := by
  induction N with
  | zero =>
    have h : IsE 0 := by
      intro x cx w ok l hx hN hl0 hl1
      exfalso
      have : 1 ≤ wtE x := by cases x; simp only [wtE]; omega
      omega
    exact ⟨h, isP_any h (by omega)⟩
  | succ N ih =>
    have h := isE_any (ih (by omega)).1 (ih (by omega)).2 (by omega)
    exact ⟨h, isP_any h hM⟩
theorem good_any (p : List Step) (A : Option Addr) (ca : Nat) (w : World) (ok : Nat → Prop) (hp : RowK kS w ok A p) (hw : wtP p ≤ 1000000000) :
    Calls Tryz.prog 32 #[.agg #[.slice A p.length ca]] w fun e w' => e = .returned (.bool (isQ p)) ∧ Below w.heap.size w w' := by
  have HP := Lib.hid (is_all (wtP p) hw).2
  go_enter Tryz.func32, Tryz.ntmps32
  go_wp2_with fail
  refine (HP.out p A ca _ ok 200 hp.al (Nat.le_refl _) (by omega) (by omega)).mono ?_
  rintro e w2 ⟨rfl, hb2⟩
  go_wp2_with fail
  go_ret
  exact ⟨by rw [is_eq]; rfl, al1 (Nat.le_refl _) hb2⟩
theorem shallow_any (p : List Step) (A : Option Addr) (ca : Nat) (w : World) (ok : Nat → Prop) (hp : RowK kS w ok A p) (hw : wtP p ≤ 1000000000) :
    Calls Tryz.prog 15 #[.agg #[.slice A p.length ca]] w fun e w' => e = .returned (.bool (isQ p)) ∧ Below w.heap.size w w' := by
  go_enter Tryz.func15, Tryz.ntmps15
  go_wp2_with fail
  refine (good_any p A ca _ ok hp.al hw).mono ?_
  rintro e w2 ⟨rfl, hb2⟩
  go_wp2_with fail
  go_ret
  exact ⟨rfl, al1 (Nat.le_refl _) hb2⟩
end Go.Proofs.YtbbmmeaicilabaaGreatDoor
