/- lexis.Words: a text's words. Conditions: the bytes and the tables lie in memory; the text is cut to its end; at most a million bytes. -/
import Derived.Test.YtbbmmeaicilabaaGreatDoorQKg
import Derived.Test.YtbbmmeaicilabaaGreatDoorQGj
set_option linter.unusedVariables false
set_option linter.unusedSimpArgs false
namespace Go.Proofs.YtbbmmeaicilabaaGreatDoor
open Go.RowKit

theorem info_Word : (Tryz.prog.info? 109).map (fun i => (i.zero, i.size, i.bytes)) = some (some (.agg #[.int .i64 0, .string ⟨#[]⟩, .int .i64 0, .int .i64 0, .int .i64 0, .int .i64 0, .int .i64 0]), 7, 64) := by kernel_rfl
theorem OwnK.caps {α : Type} {d : Knd α} {e : TypeId} {w : World} {base : Nat} {ok : Nat → Prop} {A : Option Addr} {c : Nat} {xs : List α} (h : OwnK d e w base ok (.slice A xs.length c) xs) : xs.length ≤ c ∧ c ≤ 9223372036854775807 := by
  obtain ⟨h0, cs, ho, hr⟩ := h
  rcases ho.2 with ⟨he, h0'⟩ | ⟨g, cap, cur, he, hg, hh, h1, h2, h3, h4⟩
  · simp only [Value.slice.injEq] at he; omega
  · simp only [Value.slice.injEq] at he
    unfold maxLen at h2
    omega
/-- what Words does where it can -/
def WordsE (toks : List Wd) (w : World) (e : Ending) (w' : World) : Prop :=
  ∃ A' c' ws, e = .returned (.tuple #[.slice A' ws.length c', .nilIface]) ∧ RowK kW w' (fun k => w.heap.size ≤ k) A' ws ∧ ws.map strip = toks ∧ ws.length ≤ c' ∧ c' ≤ 9223372036854775807 ∧ Below w.heap.size w w'

set_option maxRecDepth 100000 in
set_option maxHeartbeats 8000000 in
theorem words_any (A : Option Addr) (bs : List UInt8) (c : Nat) (s : ByteArray) (hs : s = ⟨bs.toArray⟩) (toks : List Wd) (w : World) (hb : RowK kB w (fun _ => True) A bs) (hc : bs.length ≤ c) (hcm : c ≤ 9223372036854775807) (hlen : bs.length ≤ 1000000) (hT : WOX w) (hl : lexF s = some toks) :
    Calls Tryz.prog 38 #[.slice A bs.length c] w (WordsE toks w) := by
  have hsz : s.size = bs.length := by rw [hs]; rfl
  have hcv : (convert 22 9 (.slice A bs.length c)).run Tryz.prog w = .ok (.string s) w := by
    rw [hs]
    rcases Nat.eq_zero_or_pos bs.length with h0 | h0
    · obtain rfl := List.eq_nil_of_length_eq_zero h0
      match A with
      | none => exact Lib.run_convert_nil_bytes (P := Tryz.prog) w 22 9 5 c Tryz.underlying22 Tryz.underlying5 Tryz.underlying9
      | some a => exact run_convert_bytes_back (P := Tryz.prog) w 22 9 5 a c [] Tryz.underlying22 Tryz.underlying5 Tryz.underlying9 (fun j hj => by simp at hj)
    · obtain ⟨b, off, rfl, hlt, hcell⟩ := hb.allB h0
      exact run_convert_bytes_back (P := Tryz.prog) w 22 9 5 ⟨b, off, none⟩ c bs Tryz.underlying22 Tryz.underlying5 Tryz.underlying9 (fun j hj => by
        have e : (Addr.add ⟨b, off, none⟩ j) = ⟨b, off + j, none⟩ := by unfold Addr.add; split <;> simp_all
        rw [e, hcell j hj])
  have hm : mendS s = s := by unfold lexF at hl; split at hl; assumption; cases hl
  have hg : lexGo s (s.size + 1) (runF s 1) = some toks := by unfold lexF at hl; rw [if_pos hm] at hl; exact hl
  have hss : s.size ≤ 1000000 := by omega
  have HB := Lib.hid hb
  have HT := Lib.hid hT
  have HM := Lib.hid hm
  have HG := Lib.hid hg
  clear hb hT hm hg hl hs hsz
  go_enter Tryz.func38, Tryz.ntmps38
  go_wp2_with fail
  refine (mend_any s w (by omega)).mono ?_
  rintro e w1 ⟨rfl, hb1⟩
  rw [HM.out]
  clear hcv
  go_wp2_with fail
  refine (run_any s 1 (by omega) (by omega) w1 (by omega) (HT.out.below hb1).base.ranges).mono ?_
  rintro e w2 ⟨rfl, hb2⟩
  simp only [show (1 : Int).toNat = 1 from rfl]
  have hbw2 := hb1.trans (hb2.mono hb1.size)
  have hrl := runF_le s 1
  go_wp2_with fail
  go_loopw [5, 6] (fun v p wr => ∃ (acc : List Wd) (rest : List Wd) (at' fuel : Nat), p = .int .i64 at' ∧ at' ≤ s.size ∧ OwnK kW 109 wr w.heap.size (fun k => w.heap.size ≤ k) v acc ∧ Below w.heap.size w wr ∧ acc.length ≤ at' ∧ Hid (lexGo s fuel at' = some rest) ∧ Hid (acc.map strip ++ rest = toks)) (fun _ p _ => s.size - (intOf p).toNat)
  case atStart => exact ⟨[], toks, runF s 1, s.size + 1, rfl, hrl, OwnK.nil _ _ _ _ _, hbw2, Nat.zero_le _, HG, rfl⟩
  case round =>
    obtain ⟨acc, rest, at', fuel, rfl, hat, HO, hbr, hac, HL, HA⟩ := hrel
    obtain ⟨wo, rfl⟩ : ∃ wo : World, wo = wr := ⟨_, rfl⟩
    obtain ⟨A3, c3, rfl, hrow⟩ := HO.row
    by_cases hlt : at' < s.size
    · obtain ⟨f, rfl⟩ : ∃ f, fuel = f + 1 := by
        cases fuel with
        | zero => cases HL.out
        | succ f => exact ⟨f, rfl⟩
      have hes : (s.extract at' s.size).size = s.size - at' := by simp
      have hWL := word_len (s.extract at' s.size)
      have HLG : Hid (lexGo s (f + 1) at' = match wordF (s.extract at' s.size) with
        | ((k, t, n), c, true) =>
          (match lexGo s f (at' + c.toNat + runF (s.extract (at' + c.toNat) s.size) 1) with
          | some r => some (⟨k, t, n, 0, 0, 0, 0⟩ :: r)
          | none => none)
        | (_, _, false) => none) := by unfold Hid; rw [lexGo, if_pos hlt]; rfl
      have HWD := Lib.hid (word_any (s.extract at' s.size) wo (by omega) (HT.out.below hbr))
      have hati : (at' : Int) ≤ (s.size : Int) := by omega
      have hssi : (s.size : Int) ≤ 1000000 := by omega
      obtain ⟨⟨⟨k, t, n⟩, cn, okb⟩, hw⟩ : ∃ r, r = wordF (s.extract at' s.size) := ⟨_, rfl⟩
      rw [← hw] at HWD HLG hWL
      clear hw
      cases okb
      · have hbad : lexGo s (f + 1) at' = none := HLG.out
        rw [HL.out] at hbad
        cases hbad
      have hcn := hWL _ _ rfl
      rw [hes] at hcn
      obtain ⟨m, rfl⟩ := Int.eq_ofNat_of_zero_le (show 0 ≤ cn by omega)
      have HLG2 : Hid (lexGo s (f + 1) at' = match lexGo s f (at' + m + runF (s.extract (at' + m) s.size) 1) with
          | some r => some (⟨k, t, n, 0, 0, 0, 0⟩ :: r)
          | none => none) := HLG.out
      clear HLG hWL
      obtain ⟨rest2, hr2, hr3⟩ : ∃ rest2, lexGo s f (at' + m + runF (s.extract (at' + m) s.size) 1) = some rest2 ∧ rest = ⟨k, t, n, 0, 0, 0, 0⟩ :: rest2 := by
        have h := HLG2.out
        rw [HL.out] at h
        split at h
        · rename_i r2 hr; cases h; exact ⟨r2, hr, rfl⟩
        · cases h
      subst hr3
      have HR2 := Lib.hid hr2
      clear hr2 HLG2 HL hes
      go_wp2_with fail
      refine HWD.out.mono ?_
      rintro e w3 ⟨rfl, hb3⟩
      obtain ⟨W4, hW4⟩ : ∃ W, W = w3.alloc (.cells #[.int .i64 k, .string t, .int .i64 n, .int .i64 0, .int .i64 0, .int .i64 0, .int .i64 0] 109) := ⟨_, rfl⟩
      have B4 : Blk W4 w3.heap.size #[.int .i64 k, .string t, .int .i64 n, .int .i64 0, .int .i64 0, .int .i64 0, .int .i64 0] 109 := by rw [hW4]; exact Blk.new _ _ _
      have hb4 : Below wo.heap.size wo W4 := by rw [hW4]; exact hb3.trans (bl1 hb3.size)
      have hbw4 := hbr.trans (hb4.mono hbr.size)
      dsimp only
      go_wp2_with fail
      rw [← hW4]
      clear hW4
      refine (at_any A bs c (at' : Int) W4 (HB.out.below hbw4) hc hcm).mono ?_
      rintro e w5 ⟨⟨p0, p1, p2, p3, kk, rfl⟩, hb5⟩
      have B5 := B4.below hb5
      have hl4 := B4.lt
      have hs3 := hb3.size
      have hsr := hbr.size
      have hb45 : Below wo.heap.size wo w5 := hb4.trans (hb5.mono hb4.size)
      have z0 := (B5).cell 0
      have z1 := (B5).cell 1
      have z2 := (B5).cell 2
      have z3 := (B5).cell 3
      have z4 := (B5).cell 4
      have z5 := (B5).cell 5
      have z6 := (B5).cell 6
      simp at z0 z1 z2 z3 z4 z5 z6
      have zf := fun o => (B5).frozen o
      go_upto_region 12 with fail
      have B6 := (((B5.set 3 (.int .i64 p0)).set 4 (.int .i64 p1)).set 5 (.int .i64 p2)).set 6 (.int .i64 p3)
      simp only [List.setIfInBounds_toArray, List.set_cons_zero, List.set_cons_succ] at B6
      have hb6 : Below wo.heap.size wo ((((w5.setCell ⟨w3.heap.size, 3, none⟩ (.int .i64 p0)).setCell ⟨w3.heap.size, 4, none⟩ (.int .i64 p1)).setCell ⟨w3.heap.size, 5, none⟩ (.int .i64 p2)).setCell ⟨w3.heap.size, 6, none⟩ (.int .i64 p3)) := by
        repeat' first | with_reducible exact hb45 | with_reducible refine Below.setCell ?_ ?_ _ | exact hs3
      clear z0 z1 z2 z3 z4 z5 z6 zf
      generalize (((w5.setCell ⟨w3.heap.size, 3, none⟩ (.int .i64 p0)).setCell ⟨w3.heap.size, 4, none⟩ (.int .i64 p1)).setCell ⟨w3.heap.size, 5, none⟩ (.int .i64 p2)).setCell ⟨w3.heap.size, 6, none⟩ (.int .i64 p3) = W6 at *
      have hbw6 := hbr.trans (hb6.mono hbr.size)
      have HO6 := HO.below hb6
      have hs6 := hb6.size
      have z0 := (B6).cell 0
      have z1 := (B6).cell 1
      have z2 := (B6).cell 2
      have z3 := (B6).cell 3
      have z4 := (B6).cell 4
      have z5 := (B6).cell 5
      have z6 := (B6).cell 6
      simp at z0 z1 z2 z3 z4 z5 z6
      have zf := fun o => (B6).frozen o
      have C4 : (acc.length + 1) * 64 ≤ 140737488355328 := by omega
      have hmi : (m : Int) ≤ 1000000 := by omega
      have hmi2 : (at' : Int) + (m : Int) ≤ (s.size : Int) := by omega
      go_wp2_with (at_builtin; go_loud (refine append_ownK kW w.heap.size (fun k => w.heap.size ≤ k) (fun _ => False) rfl _ _ 74 109 _ 64 rfl Tryz.underlying74 info_Word rfl (.slice A3 acc.length c3) acc ⟨k, t, n, p0, p1, p2, p3⟩ [.int .i64 k, .string t, .int .i64 n, .int .i64 p0, .int .i64 p1, .int .i64 p2, .int .i64 p3] rfl rfl HO6 rfl (fun j hj => hj.elim) (fun j hj => by omega) (by omega) C4 (by decide) ?_; intro v1 w7 HO7 hg7 hat7))
      have hbw7 := hbw6.grown hg7 (by omega) (fun j hj => (HO6.lt j hj).1)
      have he2 : (s.extract (at' + m) s.size).size = s.size - (at' + m) := by simp
      have hrl2 := runF_le (s.extract (at' + m) s.size) 1
      rw [he2] at hrl2
      refine (run_any (s.extract (at' + m) s.size) 1 (by omega) (by omega) w7 (by omega) (HT.out.below hbw7).base.ranges).mono ?_
      rintro e w8 ⟨rfl, hb8⟩
      simp only [show (1 : Int).toNat = 1 from rfl]
      generalize runF (s.extract (at' + m) s.size) 1 = q at *
      clear he2
      have hqi : (at' : Int) + (m : Int) + (q : Int) ≤ (s.size : Int) := by omega
      have HO8 := HO7.below hb8
      have hbw8 := hbw7.trans (hb8.mono hbw7.size)
      have HA8 : Hid ((acc ++ [Wd.mk k t n p0 p1 p2 p3]).map strip ++ rest2 = toks) := by unfold Hid; rw [← HA.out]; simp [strip]
      go_wp2_with fail
      go_roundw
      case rel => exact ⟨acc ++ [⟨k, t, n, p0, p1, p2, p3⟩], rest2, at' + m + q, f, by go_num, by omega, HO8, hbw8, by simp; omega, HR2, HA8⟩
      case measure => simp [intOf]; omega
    · have hre : rest = [] := by
        have h := HL.out
        cases fuel with
        | zero => cases h
        | succ f => rw [lexGo, if_neg hlt] at h; cases h; rfl
      subst hre
      have hcap := HO.caps
      go_wp2_with fail
      go_ret2
      exact ⟨A3, c3, acc, rfl, hrow, by have := HA.out; rwa [List.append_nil] at this, hcap.1, hcap.2, hbr⟩
end Go.Proofs.YtbbmmeaicilabaaGreatDoor
