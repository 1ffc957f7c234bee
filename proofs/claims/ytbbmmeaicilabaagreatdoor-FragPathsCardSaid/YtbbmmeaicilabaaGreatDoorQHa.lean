/- gimletref02.Read, All, Name. Conditions: texts under a thousand million bytes. -/
import Derived.Test.YtbbmmeaicilabaaGreatDoorQGz
set_option linter.unusedVariables false
set_option linter.unusedSimpArgs false
namespace Go.Proofs.YtbbmmeaicilabaaGreatDoor
open Go.RowKit

theorem extract_list (s : ByteArray) (i n : Nat) : (s.extract i (i + n)).data.toList = (s.data.toList.drop i).take n := by
  rw [ByteArray.data_extract, Array.toList_extract]
  simp [List.extract_eq_take_drop]
theorem bytesWorld_below (w : World) (e : TypeId) (s : ByteArray) : Below w.heap.size w (Lib.bytesWorld w e s) := by
  refine ⟨?_, ?_, ?_, ?_, fun k hk => Lib.bytesWorld_at_old w e s k hk⟩
  · rfl
  · rfl
  · rfl
  · rw [Lib.bytesWorld_size]; omega
theorem span_nat (b : UInt8) (t : List UInt8) (h : (spanF b t).1 = (spanF b t).2) : 0 ≤ (spanF b t).1 ∧ (spanF b t).1 ≤ 1114111 := by
  have h2 : 0 ≤ (spanF b t).1 ∧ (spanF b t).2 ≤ 1114111 := by
    unfold spanF
    split
    · simp
    · split
      · simp
      · simp only; constructor <;> omega
  omega

set_option maxRecDepth 100000 in
set_option maxHeartbeats 16000000 in
theorem rRead_any (s : ByteArray) (i : Nat) (hi : i ≤ s.size) (hs : s.size ≤ 1000000000) (w : World) : Calls Tryz.prog 133 #[.string s, .int .i64 i] w fun e w' => e = .returned (.tuple #[.int .i64 (readF s i).1, .int .i64 (readF s i).2]) ∧ Below w.heap.size w w' := by
  have hcv := fun (w : World) (x : ByteArray) => Lib.run_convert_string_bytes (P := Tryz.prog) w 9 22 5 x Tryz.underlying9 Tryz.underlying22 Tryz.underlying5
  have HR : Hid (readF s i = readGo s i 4 1) := rfl
  generalize readF s i = r at HR ⊢
  go_enter Tryz.func133, Tryz.ntmps133
  go_wp2_with fail
  go_loopw [6] (fun v wr => ∃ n : Nat, 1 ≤ n ∧ n ≤ 5 ∧ v = .int .i64 n ∧ Hid (r = readGo s i (5 - n) n) ∧ Below w.heap.size w wr) (fun v _ => 5 - (intOf v).toNat)
  case atStart => exact ⟨1, by omega, by omega, rfl, HR, Below.refl _ _⟩
  case round =>
    obtain ⟨n, hn1, hn5, rfl, HE, hbr⟩ := hrel
    by_cases h4 : n ≤ 4
    · have h4i : decide ((n : Int) ≤ 4) = true := by rw [decide_eq_true_eq]; omega
      obtain ⟨m, hm⟩ : ∃ m, 5 - n = m + 1 := ⟨4 - n, by omega⟩
      have hmn : 5 - (n + 1) = m := by omega
      by_cases hsz : i + n ≤ s.size
      · have hszi : decide ((i : Int) + n ≤ s.size) = true := by rw [decide_eq_true_eq]; omega
        have hE2 := HE.out
        rw [hm, readGo, if_pos hsz] at hE2
        have hxl := extract_list s i n
        have hlen : ((s.data.toList.drop i).take n).length = n := by
          rw [List.length_take, List.length_drop, Array.length_toList]; show min n (s.size - i) = n; omega
        obtain ⟨b, t, hbt⟩ : ∃ b t, (s.data.toList.drop i).take n = b :: t := by
          cases hh : (s.data.toList.drop i).take n with
          | nil => rw [hh] at hlen; simp at hlen; omega
          | cons b t => exact ⟨b, t, rfl⟩
        rw [hbt] at hE2 hlen hxl
        simp only [List.length_cons] at hlen
        have hE3 := Lib.hid hE2
        clear hE2 hbt
        have hj0 : (0 : Int) ≤ i := by omega
        have hj1 : (i : Int) ≤ (i : Int) + n := by omega
        have hj2 : (i : Int) + n ≤ s.size := by omega
        have hj3 : ((i : Int) + n).toNat = i + n := by omega
        have hj4 : (0 : Int) ≤ (i : Int) + n := by omega
        have hj5 : IntKind.i64.wrap ((i : Int) + n) = (i : Int) + n := by simp only [IntKind.wrap, IntKind.bits, IntKind.signed]; simp; omega
        have hxs : (s.extract i (i + n)).size = t.length + 1 := by
          show (s.extract i (i + n)).data.size = _
          rw [← Array.length_toList, hxl]; rfl
        go_wp2_with fail
        obtain ⟨W, hW⟩ : ∃ W, W = Lib.bytesWorld wr 5 (s.extract i (i + n)) := ⟨_, rfl⟩
        have hbW : Below wr.heap.size wr W := by rw [hW]; exact bytesWorld_below wr _ _
        have hbR := hbr.trans (hbW.mono hbr.size)
        have hcell : ∀ j, j < t.length + 1 → W.cell? ⟨wr.heap.size, j, none⟩ = some (.int .u8 ((b :: t).getD j 0).toNat) := by
          intro j hj
          have h := Lib.bytesWorld_cell wr 5 (s.extract i (i + n)) j (by rw [hxs]; exact hj)
          rw [hxl] at h
          rw [hW]; exact h
        have hcg := grownCap_ge wr n 0 5
        have hcm := grownCap_le_maxLen wr n 0 5 (by simp only [maxLen]; omega)
        have SP := rSpan_any b t (by omega) wr.heap.size (grownCap wr n 0 5) (by omega) (by simp only [maxLen] at hcm; omega) W (hcell 0 (by omega)) (fun j hj => by
          have h := hcell (1 + j) (by omega)
          rw [h, Nat.add_comm 1 j]; simp [List.getD, hj])
        rw [hlen] at SP
        rw [← hW]
        refine SP.mono ?_
        rintro e w3 ⟨rfl, rfl⟩
        clear SP hcell hW hcv
        have hsn := span_nat b t
        have hex : s.extract i (i + n) = ⟨(b :: t).toArray⟩ := by
          have : (s.extract i (i + n)).data = (b :: t).toArray := by rw [← hxl]
          cases hx : s.extract i (i + n) with | mk d => rw [hx] at this; simp only at this; rw [this]
        have hE5 := hE3.out
        rw [hit_cons] at hE5
        clear hE3
        generalize (spanF b t).1 = v1 at *
        generalize (spanF b t).2 = v2 at *
        by_cases hv : v1 = v2
        · subst hv
          obtain ⟨hv0, hv9⟩ := hsn rfl
          have hBY := Lib.hid (fun (w : World) => rBytes_any v1 hv0 hv9 w)
          simp only [true_and] at hE5
          generalize hbl : bytesF v1.toNat = bl at *
          go_wp2_with fail
          refine wp_region_held_drew (S := fun _ => True) (by kernel_rfl) trivial (fun hHeld => ?_)
          (refine wpAnyH_take (i := 0) (oi := { dst := some 32, op := _, type := _, pos := _, after := _, guard := _ }) (v := ?_) rfl (by kernel_rfl) (by kernel_rfl) (by kernel_rfl) (fun _ _ _ h => h) (Or.inl ⟨by rfl, ?_⟩) (by assumption) ?_; rotate_left; (intro w hSw; (try dsimp only at hSw); go_simp; try with_reducible rfl); simp only [Act.put, List.setIfInBounds_toArray, List.set_cons_zero, List.set_cons_succ])
          (refine wpAnyH_take (i := 1) (oi := { dst := some 33, op := _, type := _, pos := _, after := _, guard := _ }) (v := ?_) rfl (by kernel_rfl) (by kernel_rfl) (by kernel_rfl) (fun _ _ _ h => h) (Or.inl ⟨by rfl, ?_⟩) (by assumption) ?_; rotate_left; (intro w hSw; (try dsimp only at hSw); go_simp; try with_reducible rfl); simp only [Act.put, List.setIfInBounds_toArray, List.set_cons_zero, List.set_cons_succ])
          (refine wpAnyH_take (i := 2) (oi := { dst := some 34, op := _, type := _, pos := _, after := _, guard := _ }) (v := ?_) rfl (by kernel_rfl) (by kernel_rfl) (by kernel_rfl) (fun _ _ _ h => h) (Or.inl ⟨by rfl, ?_⟩) (by assumption) ?_; rotate_left; (intro w hSw; (try dsimp only at hSw); go_simp; try with_reducible rfl); simp only [Act.put, List.setIfInBounds_toArray, List.set_cons_zero, List.set_cons_succ])
          (refine wpAnyH_take (i := 3) (oi := { dst := some 35, op := _, type := _, pos := _, after := _, guard := _ }) (v := ?_) rfl (by kernel_rfl) (by kernel_rfl) (by kernel_rfl) (fun _ _ _ h => h) (Or.inl ⟨by rfl, ?_⟩) (by assumption) ?_; rotate_left; (intro w hSw; (try dsimp only at hSw); go_simp; try with_reducible rfl); simp only [Act.put, List.setIfInBounds_toArray, List.set_cons_zero, List.set_cons_succ])
          (refine wpAnyH_take (i := 4) (oi := { dst := some 36, op := _, type := _, pos := _, after := _, guard := _ }) (v := ?_) rfl (by kernel_rfl) (by kernel_rfl) (by kernel_rfl) (fun _ _ _ h => h) (Or.inl ⟨by rfl, ?_⟩) (by assumption) ?_; rotate_left; (intro w hSw; (try dsimp only at hSw); go_simp; try with_reducible rfl); simp only [Act.put, List.setIfInBounds_toArray, List.set_cons_zero, List.set_cons_succ])
          (refine wpAnyH_take (i := 7) (oi := { dst := some 39, op := _, type := _, pos := _, after := _, guard := _ }) (v := ?_) rfl (by kernel_rfl) (by kernel_rfl) (by kernel_rfl) (fun _ _ _ h => h) (Or.inl ⟨by rfl, ?_⟩) (by assumption) ?_; rotate_left; (intro w hSw; (try dsimp only at hSw); go_simp; try with_reducible rfl); simp only [Act.put, List.setIfInBounds_toArray, List.set_cons_zero, List.set_cons_succ])
          (refine wpAnyH_take (i := 8) (oi := { dst := some 40, op := _, type := _, pos := _, after := _, guard := _ }) (v := ?_) rfl (by kernel_rfl) (by kernel_rfl) (by kernel_rfl) (fun _ _ _ h => h) (Or.inl ⟨by rfl, ?_⟩) (by assumption) ?_; rotate_left; (intro w hSw; (try dsimp only at hSw); go_simp; try with_reducible rfl); simp only [Act.put, List.setIfInBounds_toArray, List.set_cons_zero, List.set_cons_succ])
          (refine wpAnyH_take (i := 9) (oi := { dst := some 41, op := _, type := _, pos := _, after := _, guard := _ }) (v := ?_) rfl (by kernel_rfl) (by kernel_rfl) (by kernel_rfl) (fun _ _ _ h => h) (Or.inl ⟨by rfl, ?_⟩) (by assumption) ?_; rotate_left; (intro w hSw; (try dsimp only at hSw); go_simp; try with_reducible rfl); simp only [Act.put, List.setIfInBounds_toArray, List.set_cons_zero, List.set_cons_succ])
          (refine wpAnyH_take (i := 10) (oi := { dst := some 42, op := _, type := _, pos := _, after := _, guard := _ }) (v := ?_) rfl (by kernel_rfl) (by kernel_rfl) (by kernel_rfl) (fun _ _ _ h => h) (Or.inl ⟨by rfl, ?_⟩) (by assumption) ?_; rotate_left; (intro w hSw; (try dsimp only at hSw); go_simp; try with_reducible rfl); simp only [Act.put, List.setIfInBounds_toArray, List.set_cons_zero, List.set_cons_succ])
          (refine wpAnyH_take (i := 11) (oi := { dst := some 43, op := _, type := _, pos := _, after := _, guard := _ }) (v := ?_) rfl (by kernel_rfl) (by kernel_rfl) (by kernel_rfl) (fun _ _ _ h => h) (Or.inl ⟨by rfl, ?_⟩) (by assumption) ?_; rotate_left; (intro w hSw; (try dsimp only at hSw); go_simp; try with_reducible rfl); simp only [Act.put, List.setIfInBounds_toArray, List.set_cons_zero, List.set_cons_succ])
          (refine wpAnyH_take (i := 12) (oi := { dst := some 44, op := _, type := _, pos := _, after := _, guard := _ }) (v := ?_) rfl (by kernel_rfl) (by kernel_rfl) (by kernel_rfl) (fun _ _ _ h => h) (Or.inl ⟨by rfl, ?_⟩) (by assumption) ?_; rotate_left; (intro w hSw; (try dsimp only at hSw); go_simp; try with_reducible rfl); simp only [Act.put, List.setIfInBounds_toArray, List.set_cons_zero, List.set_cons_succ])
          refine wpAnyH_ready (rs := [5]) (by kernel_rfl) (by simp) ?_
          refine AllReadyH.cons (o := { dst := some 37, op := _, type := _, pos := _, after := _, guard := _ }) rfl (fun K hK => ?_) AllReadyH.nil
          go_simp
          refine (hBY.out _).mono ?_
          rintro e w4 ⟨rfl, hc4, hb4⟩
          have hb4' : Below w3.heap.size w3 w4 := Below.trans (by repeat' (first | with_reducible exact Below.refl _ _ | with_reducible assumption | with_reducible refine Below.alloc ?_ ?_ _ | with_reducible refine Below.setCell ?_ ?_ _ | with_reducible refine Below.drew ?_ | with_reducible refine below_dn ?_ | omega | (simp; done) | (simp; omega))) (hb4.mono (by simp))
          refine hK.out _ _ trivial (fun hHeld4 => ?_)
          clear hK K
          try simp only [Act.put, List.setIfInBounds_toArray, List.set_cons_zero, List.set_cons_succ]
          refine wpAnyH_ready (rs := [6]) (by kernel_rfl) (by simp) ?_
          refine AllReadyH.cons (o := { dst := some 38, op := _, type := _, pos := _, after := _, guard := _ }) rfl (fun K hK => ?_) AllReadyH.nil
          have hcb := run_convert_bytes_back (P := Tryz.prog) w4 22 9 5 ⟨w3.heap.size, 0, none⟩ bl.length bl Tryz.underlying22 Tryz.underlying5 Tryz.underlying9 (fun j hj => by have h := hc4 j hj; have e : (Addr.add ⟨w3.heap.size, 0, none⟩ j) = ⟨w3.heap.size, j, none⟩ := (by unfold Addr.add; split <;> simp_all); rw [e]; exact h)
          go_simp
          refine hK.out _ _ trivial (fun hHeld6 => ?_)
          clear hK K hcb hc4
          try simp only [Act.put, List.setIfInBounds_toArray, List.set_cons_zero, List.set_cons_succ]
          have hsw : ∀ (X : World), Below w3.heap.size w3 w4 → Below w.heap.size w w4 := fun _ h => hbR.trans (h.mono hbR.size)
          have hB4 := hsw w4 hb4'
          have hb4d := hB4
          have hvv : (v1.toNat : Int) = v1 := by omega
          have hgn : r = (if bl = b :: t then (if 55296 ≤ v1.toNat ∧ v1.toNat ≤ 57343 then (0, 0) else (v1.toNat, n)) else readGo s i m (n + 1)) := by
            rw [hE5]
            by_cases hq : bl = b :: t
            · rw [if_pos hq, if_pos hq]
            · rw [if_neg hq, if_neg hq]
          have HG := Lib.hid hgn
          clear hE5 hgn hsn
          by_cases hq : bl = b :: t
          · subst hq
            (refine wpAnyH_take (i := 13) (oi := { dst := some 45, op := _, type := _, pos := _, after := _, guard := _ }) (v := ?_) rfl (by kernel_rfl) (by kernel_rfl) (by kernel_rfl) (fun _ _ _ h => h) (Or.inl ⟨by rfl, ?_⟩) (by assumption) ?_; rotate_left; (intro w hSw; (try dsimp only at hSw); go_simp; try with_reducible rfl); simp only [Act.put, List.setIfInBounds_toArray, List.set_cons_zero, List.set_cons_succ])
            (refine wpAnyH_take (i := 14) (oi := { dst := some 46, op := _, type := _, pos := _, after := _, guard := _ }) (v := ?_) rfl (by kernel_rfl) (by kernel_rfl) (by kernel_rfl) (fun _ _ _ h => h) (Or.inl ⟨by rfl, ?_⟩) (by assumption) ?_; rotate_left; (intro w hSw; (try dsimp only at hSw); go_simp; try with_reducible rfl); simp only [Act.put, List.setIfInBounds_toArray, List.set_cons_zero, List.set_cons_succ])
            refine wpAnyH_done (by kernel_rfl) ?_ _
            by_cases hs1 : 55296 ≤ v1 ∧ v1 ≤ 57343
            · have hr : r = (0, 0) := by rw [HG.out, if_pos rfl, if_pos (by omega)]
              subst hr
              obtain ⟨hs2, hs3⟩ := hs1
              go_wp2_with fail
              go_ret2
              exact ⟨rfl, hB4⟩
            · have hr : r = (v1.toNat, n) := by rw [HG.out, if_pos rfl, if_neg (by omega)]
              subst hr
              by_cases hs2 : 55296 ≤ v1
              · have hs3 : ¬ v1 ≤ 57343 := by omega
                go_wp2_with fail
                go_ret2
                exact ⟨by simp, hB4⟩
              · go_wp2_with fail
                go_ret2
                exact ⟨by simp, hB4⟩
          · have hne : ¬ (bl.toArray = (b :: t).toArray) := by intro h; exact hq (by simpa using h)
            have hne1 : ¬ (({ data := bl.toArray } : ByteArray) = { data := (b :: t).toArray }) := by intro h; exact hne (ByteArray.mk.inj h)
            have hne2 : ¬ (({ data := bl.toArray } : ByteArray).toList = ({ data := (b :: t).toArray } : ByteArray).toList) := by rw [← str_eq]; exact hne1
            have hne3 : (bl == b :: t) = false := by rw [beq_eq_false_iff_ne]; exact hq
            have HE6 : Hid (r = readGo s i m (n + 1)) := by unfold Hid; rw [HG.out, if_neg hq]
            (refine wpAnyH_take (i := 13) (oi := { dst := some 45, op := _, type := _, pos := _, after := _, guard := _ }) (v := ?_) rfl (by kernel_rfl) (by kernel_rfl) (by kernel_rfl) (fun _ _ _ h => h) (Or.inl ⟨by rfl, ?_⟩) (by assumption) ?_; rotate_left; (intro w hSw; (try dsimp only at hSw); go_simp; try with_reducible rfl); simp only [Act.put, List.setIfInBounds_toArray, List.set_cons_zero, List.set_cons_succ])
            (refine wpAnyH_take (i := 14) (oi := { dst := some 46, op := _, type := _, pos := _, after := _, guard := _ }) (v := ?_) rfl (by kernel_rfl) (by kernel_rfl) (by kernel_rfl) (fun _ _ _ h => h) (Or.inl ⟨by rfl, ?_⟩) (by assumption) ?_; rotate_left; (intro w hSw; (try dsimp only at hSw); go_simp; try with_reducible rfl); simp only [Act.put, List.setIfInBounds_toArray, List.set_cons_zero, List.set_cons_succ])
            refine wpAnyH_done (by kernel_rfl) ?_ _
            go_wp2_with fail
            go_roundw
            case rel => exact ⟨n + 1, by omega, by omega, by go_num, by rw [hmn]; exact HE6, hB4⟩
            case measure => simp [intOf]; omega
        · have hE4 : Hid (r = readGo s i m (n + 1)) := by unfold Hid; rw [hE5, if_neg (fun h => hv h.1)]
          clear hE5 hsn
          have hvb : (v1 == v2) = false := by rw [beq_eq_false_iff_ne]; exact hv
          go_wp2_with fail
          refine wp_region_held_drew (S := fun _ => True) (by kernel_rfl) trivial (fun hHeld => ?_)
          (refine wpAnyH_take (i := 0) (oi := { dst := some 32, op := _, type := _, pos := _, after := _, guard := _ }) (v := ?_) rfl (by kernel_rfl) (by kernel_rfl) (by kernel_rfl) (fun _ _ _ h => h) (Or.inl ⟨by rfl, ?_⟩) (by assumption) ?_; rotate_left; (intro w hSw; (try dsimp only at hSw); go_simp; try with_reducible rfl); simp only [Act.put, List.setIfInBounds_toArray, List.set_cons_zero, List.set_cons_succ])
          (refine wpAnyH_take (i := 1) (oi := { dst := some 33, op := _, type := _, pos := _, after := _, guard := _ }) (v := ?_) rfl (by kernel_rfl) (by kernel_rfl) (by kernel_rfl) (fun _ _ _ h => h) (Or.inl ⟨by rfl, ?_⟩) (by assumption) ?_; rotate_left; (intro w hSw; (try dsimp only at hSw); go_simp; try with_reducible rfl); simp only [Act.put, List.setIfInBounds_toArray, List.set_cons_zero, List.set_cons_succ])
          (refine wpAnyH_take (i := 2) (oi := { dst := some 34, op := _, type := _, pos := _, after := _, guard := _ }) (v := ?_) rfl (by kernel_rfl) (by kernel_rfl) (by kernel_rfl) (fun _ _ _ h => h) (Or.inl ⟨by rfl, ?_⟩) (by assumption) ?_; rotate_left; (intro w hSw; (try dsimp only at hSw); go_simp; try with_reducible rfl); simp only [Act.put, List.setIfInBounds_toArray, List.set_cons_zero, List.set_cons_succ])
          (refine wpAnyH_take (i := 3) (oi := { dst := some 35, op := _, type := _, pos := _, after := _, guard := _ }) (v := ?_) rfl (by kernel_rfl) (by kernel_rfl) (by kernel_rfl) (fun _ _ _ h => h) (Or.inl ⟨by rfl, ?_⟩) (by assumption) ?_; rotate_left; (intro w hSw; (try dsimp only at hSw); go_simp; try with_reducible rfl); simp only [Act.put, List.setIfInBounds_toArray, List.set_cons_zero, List.set_cons_succ])
          (refine wpAnyH_take (i := 4) (oi := { dst := some 36, op := _, type := _, pos := _, after := _, guard := _ }) (v := undef) rfl (by kernel_rfl) (by kernel_rfl) (by kernel_rfl) (fun _ _ _ h => h) (Or.inr ⟨by rfl, rfl⟩) (by assumption) ?_; simp only [Act.put, List.setIfInBounds_toArray, List.set_cons_zero, List.set_cons_succ])
          (refine wpAnyH_take (i := 5) (oi := { dst := some 37, op := _, type := _, pos := _, after := _, guard := _ }) (v := undef) rfl (by kernel_rfl) (by kernel_rfl) (by kernel_rfl) (fun _ _ _ h => h) (Or.inr ⟨by rfl, rfl⟩) (by assumption) ?_; simp only [Act.put, List.setIfInBounds_toArray, List.set_cons_zero, List.set_cons_succ])
          (refine wpAnyH_take (i := 6) (oi := { dst := some 38, op := _, type := _, pos := _, after := _, guard := _ }) (v := undef) rfl (by kernel_rfl) (by kernel_rfl) (by kernel_rfl) (fun _ _ _ h => h) (Or.inr ⟨by rfl, rfl⟩) (by assumption) ?_; simp only [Act.put, List.setIfInBounds_toArray, List.set_cons_zero, List.set_cons_succ])
          (refine wpAnyH_take (i := 7) (oi := { dst := some 39, op := _, type := _, pos := _, after := _, guard := _ }) (v := undef) rfl (by kernel_rfl) (by kernel_rfl) (by kernel_rfl) (fun _ _ _ h => h) (Or.inr ⟨by rfl, rfl⟩) (by assumption) ?_; simp only [Act.put, List.setIfInBounds_toArray, List.set_cons_zero, List.set_cons_succ])
          (refine wpAnyH_take (i := 8) (oi := { dst := some 40, op := _, type := _, pos := _, after := _, guard := _ }) (v := undef) rfl (by kernel_rfl) (by kernel_rfl) (by kernel_rfl) (fun _ _ _ h => h) (Or.inr ⟨by rfl, rfl⟩) (by assumption) ?_; simp only [Act.put, List.setIfInBounds_toArray, List.set_cons_zero, List.set_cons_succ])
          (refine wpAnyH_take (i := 9) (oi := { dst := some 41, op := _, type := _, pos := _, after := _, guard := _ }) (v := undef) rfl (by kernel_rfl) (by kernel_rfl) (by kernel_rfl) (fun _ _ _ h => h) (Or.inr ⟨by rfl, rfl⟩) (by assumption) ?_; simp only [Act.put, List.setIfInBounds_toArray, List.set_cons_zero, List.set_cons_succ])
          (refine wpAnyH_take (i := 10) (oi := { dst := some 42, op := _, type := _, pos := _, after := _, guard := _ }) (v := undef) rfl (by kernel_rfl) (by kernel_rfl) (by kernel_rfl) (fun _ _ _ h => h) (Or.inr ⟨by rfl, rfl⟩) (by assumption) ?_; simp only [Act.put, List.setIfInBounds_toArray, List.set_cons_zero, List.set_cons_succ])
          (refine wpAnyH_take (i := 11) (oi := { dst := some 43, op := _, type := _, pos := _, after := _, guard := _ }) (v := undef) rfl (by kernel_rfl) (by kernel_rfl) (by kernel_rfl) (fun _ _ _ h => h) (Or.inr ⟨by rfl, rfl⟩) (by assumption) ?_; simp only [Act.put, List.setIfInBounds_toArray, List.set_cons_zero, List.set_cons_succ])
          (refine wpAnyH_take (i := 12) (oi := { dst := some 44, op := _, type := _, pos := _, after := _, guard := _ }) (v := undef) rfl (by kernel_rfl) (by kernel_rfl) (by kernel_rfl) (fun _ _ _ h => h) (Or.inr ⟨by rfl, rfl⟩) (by assumption) ?_; simp only [Act.put, List.setIfInBounds_toArray, List.set_cons_zero, List.set_cons_succ])
          (refine wpAnyH_take (i := 13) (oi := { dst := some 45, op := _, type := _, pos := _, after := _, guard := _ }) (v := undef) rfl (by kernel_rfl) (by kernel_rfl) (by kernel_rfl) (fun _ _ _ h => h) (Or.inr ⟨by rfl, rfl⟩) (by assumption) ?_; simp only [Act.put, List.setIfInBounds_toArray, List.set_cons_zero, List.set_cons_succ])
          (refine wpAnyH_take (i := 14) (oi := { dst := some 46, op := _, type := _, pos := _, after := _, guard := _ }) (v := ?_) rfl (by kernel_rfl) (by kernel_rfl) (by kernel_rfl) (fun _ _ _ h => h) (Or.inl ⟨by rfl, ?_⟩) (by assumption) ?_; rotate_left; (intro w hSw; (try dsimp only at hSw); go_simp; try with_reducible rfl); simp only [Act.put, List.setIfInBounds_toArray, List.set_cons_zero, List.set_cons_succ])
          refine wpAnyH_done (by kernel_rfl) ?_ _
          go_wp2_with fail
          go_roundw
          case rel => exact ⟨n + 1, by omega, by omega, by go_num, by rw [hmn]; exact hE4, hbR.drew⟩
          case measure => simp [intOf]; omega
      · have hszi : decide ((i : Int) + n ≤ s.size) = false := by rw [decide_eq_false_iff_not]; omega
        have hr : r = (0, 0) := by rw [HE.out, hm, readGo, if_neg hsz]
        subst hr
        clear HE
        go_wp2_with fail
        go_ret2
        exact ⟨rfl, hbr⟩
    · have h4i : decide ((n : Int) ≤ 4) = false := by rw [decide_eq_false_iff_not]; omega
      have hr : r = (0, 0) := by
        obtain rfl : n = 5 := by omega
        rw [HE.out]; rfl
      subst hr
      clear HE
      go_wp2_with fail
      go_ret2
      exact ⟨rfl, hbr⟩
end Go.Proofs.YtbbmmeaicilabaaGreatDoor
