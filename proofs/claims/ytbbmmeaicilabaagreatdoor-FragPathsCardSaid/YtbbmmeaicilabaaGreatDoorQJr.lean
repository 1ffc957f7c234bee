/- ask's parser: or, and all that it calls, by induction on the number of words. Conditions: the words lie in memory. -/
import Derived.Test.YtbbmmeaicilabaaGreatDoorQJq
set_option linter.unusedVariables false
set_option linter.unusedSimpArgs false
namespace Go.Proofs.YtbbmmeaicilabaaGreatDoor
open Go.RowKit

theorem or_reads (ne : Int) (F : Nat) (hF : F ≤ 1000000) : ∀ n, n ≤ F → Reads 122 n ne (pOr ne F n)
  | 0, _ => fun _ _ _ _ _ _ _ _ _ _ _ hL => absurd hL (Nat.not_lt_zero _)
  | n + 1, hn => by
    have ih := or_reads ne F hF n (by omega)
    have hle := or_le ne F n
    have hst := step_any (n + 1) n F (Nat.le_refl _) ne (pOr ne F n) hle ih hn (by omega)
    have hsm := some_any (n + 1) F ne _ (step_le hle ne F) hst hn (by omega)
    have hone := one_any (n + 1) n (Nat.le_refl _) ne _ _ ih hsm
    have h1 := one_le hle (some_le (step_le hle ne F) F) ne
    have hand := pand_any (n + 1) ne _ (parts_one (n + 1) F ne ⟨#[97, 110, 100]⟩ 0 _ h1 hone hn (by omega))
    have hor := por_any (n + 1) ne _ (parts_and (n + 1) F ne ⟨#[111, 114]⟩ 1 _ (list_le h1 _ _ F) hand hn (by omega))
    exact hor
theorem step_reads (ne : Int) (F : Nat) (hF : F ≤ 1000000) : ReadsS F ne (pStep (pOr ne F F) ne F) :=
  step_any F F F (by omega) ne _ (or_le ne F F) (or_reads ne F hF F (Nat.le_refl _)) (Nat.le_refl _) hF
end Go.Proofs.YtbbmmeaicilabaaGreatDoor

/- ask's parser: query (all words). Conditions: the words lie in memory, fewer than a million. -/
namespace Go.Proofs.YtbbmmeaicilabaaGreatDoor
open Go.RowKit

/-- what query does -/
def QueryE (r : Option (List Step)) (pb : Nat) (w : World) (e : Ending) (w' : World) : Prop :=
  Chg (fun b => b = pb) w w' ∧ (match r with
    | some p => ∃ As cp, e = .returned (.agg #[.slice As p.length cp]) ∧ RowK kS w' (fun k => w.heap.size ≤ k) As p
    | none => Gave w.heap.size e)
def qEnd (a : Ans (List Step × ByteArray)) : Option (List Step) := match a with | some ((p, _), [], _) => some p | _ => none
section
variable {w0 : World} {pb : Nat} {ok : Nat → Prop} {ws : List Wd} {e0 e1 e2 e3 ne op : Int} {wx : World}
theorem St.of2 {p : Nat → Prop} {ws' : List Wd} {op' : Int} {w1 : World} {A : Option Addr} {c : Nat} (h : St w0 pb ok ws e0 e1 e2 e3 ne op wx) (hc : Chg p wx w1) (hp : ∀ k, p k → k = pb ∨ w0.heap.size ≤ k) (hps : PS w1 pb ok ws' A c e0 e1 e2 e3 ne op') (ho : 0 ≤ op' ∧ op' ≤ ne) : St w0 pb ok ws' e0 e1 e2 e3 ne op' w1 :=
  ⟨⟨A, c, hps⟩, ⟨hc.os.trans h.ch.os, hc.tape.trans h.ch.tape, hc.output.trans h.ch.output, Nat.le_trans h.sz hc.size, fun k hk hn => (hc.block k (Nat.lt_of_lt_of_le hk h.sz) (fun hh => by rcases hp k hh with e | e; exact hn e; omega)).trans (h.ch.block k hk hn)⟩, h.okl, h.pbl, ho.1, ho.2, h.opl.2.2⟩
theorem St.lost2 {p : Nat → Prop} {e : Ending} {w1 : World} (h : St w0 pb ok ws e0 e1 e2 e3 ne op wx) (hc : Chg p wx w1) (hp : ∀ k, p k → k = pb ∨ w0.heap.size ≤ k) (hg : Gave wx.heap.size e) : Lost w0 pb e w1 := by
  obtain ⟨g, rfl, hg⟩ := hg
  exact ⟨⟨hc.os.trans h.ch.os, hc.tape.trans h.ch.tape, hc.output.trans h.ch.output, Nat.le_trans h.sz hc.size, fun k hk hn => (hc.block k (Nat.lt_of_lt_of_le hk h.sz) (fun hh => by rcases hp k hh with e | e; exact hn e; omega)).trans (h.ch.block k hk hn)⟩, g, rfl, Nat.le_trans h.sz hg⟩
end

set_option maxRecDepth 100000 in
set_option maxHeartbeats 16000000 in
theorem query_any (F : Nat) (ne : Int) (hFm : F ≤ 1000000) (w : World) (pb : Nat) (ok : Nat → Prop) (ws : List Wd) (A : Option Addr) (c : Nat) (e0 e1 e2 e3 : Int) (hL : ws.length < F) (h : PS w pb ok ws A c e0 e1 e2 e3 ne 0) (hpw : ∀ b, ok b → b < w.heap.size) (h1 : 0 ≤ ne) (hne : ne ≤ 1000) :
    Calls Tryz.prog 40 #[.pointer (some ⟨pb, 0, none⟩)] w (QueryE (pQuery ne F ws) pb w) := by
  have hst := step_reads ne F hFm
  have hsh := step_le (or_le ne F F) ne F
  have hpb := h.blk.lt
  obtain ⟨W0, hW0⟩ : ∃ W, W = (w.alloc (.cells #[.slice none 0 0] 27)).alloc (.cells #[.slice none 0 0] 27) := ⟨_, rfl⟩
  have S0 : St w pb ok ws e0 e1 e2 e3 ne 0 W0 := by rw [hW0]; exact (St.start h hpw (Int.le_refl _) h1 hne).al.al
  have BT : Blk W0 w.heap.size #[.slice none 0 0] 27 := by rw [hW0]; exact (Blk.new _ _ _).al _
  have BP : Blk W0 (w.heap.size + 1) #[.slice none 0 0] 27 := by rw [hW0]; have h := Blk.new (w.alloc (.cells #[.slice none 0 0] 27)) #[.slice none 0 0] 27; simpa using h
  have hs0 := BP.lt
  have HST := Lib.hid hst
  have HSH := Lib.hid hsh
  clear h hst hsh
  obtain ⟨st, hst⟩ : ∃ st, st = pStep (pOr ne F F) ne F := ⟨_, rfl⟩
  rw [← hst] at HST HSH
  have HR : Hid (pQuery ne F ws = qEnd (if sg ws ⟨#[47, 47]⟩ then pPath st F false [.mk 2 3 ByteArray.empty []] ws.tail 0 else if sg ws ⟨#[47]⟩ then pPath st F false [] ws.tail 0 else pPath st F false [] ws 0)) := by
    unfold Hid; rw [hst]; rfl
  clear hst
  generalize pQuery ne F ws = r at *
  have hFz : 0 < F := by omega
  go_enter Tryz.func40, Tryz.ntmps40
  go_wp2_with fail
  rw [← hW0]
  clear hW0
  refine (S0.sign 0 ⟨#[47, 47]⟩).mono ?_
  rintro e w1 ⟨rfl, rfl⟩
  cases hs : signB ws 0 ⟨#[47, 47]⟩
  case' true =>
    obtain ⟨x0, t0, rfl⟩ := signB_cons hs
    have HR7 : Hid (r = qEnd (pPath st F false [.mk 2 3 ByteArray.empty []] t0 0)) := by unfold Hid; rw [HR.out]; simp only [sg, hs, if_true, List.tail_cons]
    have hbd : Below W0.heap.size W0 W0.drew := (Below.refl _ _).drew
    have BTd := BT.below hbd
    have BPd := BP.below hbd
    have Sd := S0.dr
    have p0 : W0.cell? ⟨w.heap.size + 1, 0, none⟩ = some (.slice none 0 0) := (BP.cell 0).trans rfl
    go_upto_region 3 with fail
    go_cut [10] (fun _ wx => ∃ A5 c5, OwnK kS 55 wx (w.heap.size + 2) (fun k => w.heap.size + 2 ≤ k) (.slice A5 ([Step.mk 2 3 ByteArray.empty []] : List Step).length c5) [.mk 2 3 ByteArray.empty []] ∧ Blk wx w.heap.size #[.slice none 0 0] 27 ∧ Blk wx (w.heap.size + 1) #[.slice A5 ([Step.mk 2 3 ByteArray.empty []] : List Step).length c5] 27 ∧ St w pb ok (x0 :: t0) e0 e1 e2 e3 ne 0 wx)
    case first =>
      go_region_law
        (first
          | (go_simp; go_at_call 70; refine (below_any _).mono ?_; rintro e w1 ⟨cs, rfl, hre, hb1⟩; have BP1 := BPd.below hb1; have BT1 := BTd.below hb1; have S1 := Sd.bel hb1; have k1 : w1.cell? ⟨w.heap.size + 1, 0, none⟩ = some (.slice none 0 0) := (BP1.cell 0).trans rfl; have ka1 : ∀ o, (w1.alloc o).cell? ⟨w.heap.size + 1, 0, none⟩ = some (.slice none 0 0) := fun o => ((BP1.al o).cell 0).trans rfl; have hre1 : RS w1 (fun k => W0.heap.size ≤ k ∧ k < w1.heap.size) (.mk 2 3 ByteArray.empty []) cs := Knd.move kS (w1 := w1) (Nat.le_refl _) (fun _ _ _ => rfl) hre; have hs1 : W0.heap.size ≤ w1.heap.size := hb1.size; obtain ⟨Aw, cw, rfl, -⟩ := hre.rows)
          | (refine step_append_rowK kS (w.heap.size + 2) (fun k => w.heap.size + 2 ≤ k) (fun k => (W0.heap.size ≤ k ∧ k < w1.heap.size) ∨ k = w1.heap.size) rfl _ _ 25 55 _ 56 rfl Tryz.underlying25 info_Step rfl (by decide) (.slice none 0 0) [] [.mk 2 3 ByteArray.empty []] (some ⟨w1.heap.size, 0, none⟩) 1 rfl rfl (OwnK.nil _ _ _ _ _) (row_lit1 hre1) (fun j h1 h2 => ⟨by omega, by simp [Value.ownBlock]⟩) (fun j hj => by have h6 : w1.heap.size + 1 ≤ j := (by simpa using hj); omega) (Nat.le_trans (show w.heap.size + 2 ≤ w1.heap.size by omega) (by simp)) (by simp) ?_; intro v1 w5 HO5 hg5 hat5; obtain ⟨A5, c5, rfl, -⟩ := HO5.row; have BP5 := (BP1.al _).grown hg5 (by simp [Value.ownBlock]); have BT5 := (BT1.al _).grown hg5 (by simp [Value.ownBlock]); have S5 := S1.al.far ((Chg.refl (fun _ => False) _).grown hg5 (by simp [Value.ownBlock])) (fun _ h => h.elim); have k5 : w5.cell? ⟨w.heap.size + 1, 0, none⟩ = some (.slice none 0 0) := (BP5.cell 0).trans rfl; have f5 := fun o => BP5.frozen o)
          | fail)
      all_goals
        have BP6 := BP5.set 0 (.slice A5 ([] ++ [Step.mk 2 3 ByteArray.empty []] : List Step).length c5)
        have BT6 := BT5.far (a := ⟨w.heap.size + 1, 0, none⟩) (by simp) (.slice A5 ([] ++ [Step.mk 2 3 ByteArray.empty []] : List Step).length c5)
        have S6 := S5.set (a := ⟨w.heap.size + 1, 0, none⟩) (u := .slice A5 ([] ++ [Step.mk 2 3 ByteArray.empty []] : List Step).length c5) (by simp)
        have HO6 := HO5.chg (p := fun k => k = w.heap.size + 1) (Chg.set (ad := ⟨w.heap.size + 1, 0, none⟩) (u := .slice A5 ([] ++ [Step.mk 2 3 ByteArray.empty []] : List Step).length c5) rfl (Chg.refl _ _)) (by intro k hk; omega)
        simp only [List.setIfInBounds_toArray, List.set_cons_zero] at BP6
        go_wp2_with fail
        go_meet
        case rel => exact ⟨A5, c5, by simpa using HO6, by simpa using BT6, by simpa using BP6, by simpa using S6⟩
    case' rest =>
      obtain ⟨A7, c7, HO6, BT6, BP6, S6⟩ := hcut
      go_wp2_with fail
      refine S6.take.mono ?_
      rintro e w7 ⟨rfl, hch7, S7⟩
      have HO7 := HO6.chg hch7 (by intro k hk; omega)
      have BT7 := BT6.chg hch7 (by omega)
      have BP7 := BP6.chg hch7 (by omega)
      have hl7 : t0.length < F := by simp at hL; omega
      have hacc7 : ([Step.mk 2 3 ByteArray.empty []] : List Step).length ≤ 10 := by simp
      have hsz7 : w.heap.size + 2 ≤ w7.heap.size := by have := BP7.lt; omega
      clear hbd BTd BPd Sd p0 S0 HO6 BT6 BP6 S6 HR hs BT BP
      generalize [Step.mk 2 3 ByteArray.empty []] = acc7 at *
      obtain ⟨ws7, rfl⟩ : ∃ l : List Wd, l = t0 := ⟨_, rfl⟩
      obtain ⟨W7, rfl⟩ : ∃ W : World, W = w7 := ⟨_, rfl⟩
  case' false =>
    go_wp2_with fail
    refine (S0.sign 0 ⟨#[47]⟩).mono ?_
    rintro e w1 ⟨rfl, rfl⟩
    cases hs2 : signB ws 0 ⟨#[47]⟩
    case' true =>
      obtain ⟨x0, t0, rfl⟩ := signB_cons hs2
      go_wp2_with fail
      refine S0.take.mono ?_
      rintro e w7 ⟨rfl, hch7, S7⟩
      have BT7 := BT.chg hch7 (by omega)
      have BP7' := BP.chg hch7 (by omega)
      obtain ⟨acc7, A7, c7, HO7, BP7, hacc7, HR7⟩ : ∃ (acc7 : List Step) (A7 : Option Addr) (c7 : Nat), OwnK kS 55 w7 (w.heap.size + 2) (fun k => w.heap.size + 2 ≤ k) (.slice A7 acc7.length c7) acc7 ∧ Blk w7 (w.heap.size + 1) #[.slice A7 acc7.length c7] 27 ∧ acc7.length ≤ 10 ∧ Hid (r = qEnd (pPath st F false acc7 t0 0)) :=
        ⟨[], none, 0, OwnK.nil _ _ _ _ _, BP7', by simp, by unfold Hid; rw [HR.out]; simp only [sg, hs, hs2, Bool.false_eq_true, if_false, if_true, List.tail_cons]⟩
      have hl7 : t0.length < F := by simp at hL; omega
      have hsz7 : w.heap.size + 2 ≤ w7.heap.size := by have := BP7.lt; omega
      clear S0 HR hs hs2 BT BP BP7'
      obtain ⟨ws7, rfl⟩ : ∃ l : List Wd, l = t0 := ⟨_, rfl⟩
      obtain ⟨W7, rfl⟩ : ∃ W : World, W = w7 := ⟨_, rfl⟩
    case' false =>
      obtain ⟨acc7, A7, c7, HO7, BP7, hacc7, HR7⟩ : ∃ (acc7 : List Step) (A7 : Option Addr) (c7 : Nat), OwnK kS 55 W0 (w.heap.size + 2) (fun k => w.heap.size + 2 ≤ k) (.slice A7 acc7.length c7) acc7 ∧ Blk W0 (w.heap.size + 1) #[.slice A7 acc7.length c7] 27 ∧ acc7.length ≤ 10 ∧ Hid (r = qEnd (pPath st F false acc7 ws 0)) :=
        ⟨[], none, 0, OwnK.nil _ _ _ _ _, BP, by simp, by unfold Hid; rw [HR.out]; simp only [sg, hs, hs2, Bool.false_eq_true, if_false]⟩
      have BT7 := BT
      have S7 := S0
      have hl7 := hL
      have hsz7 : w.heap.size + 2 ≤ W0.heap.size := by have := BP7.lt; omega
      go_upto_region 7 with fail
      clear S0 HR hs hs2 BT BP
      obtain ⟨ws7, rfl⟩ : ∃ l : List Wd, l = ws := ⟨_, rfl⟩
      obtain ⟨W7, rfl⟩ : ∃ W : World, W = W0 := ⟨_, rfl⟩
  all_goals
    obtain ⟨A9, c9, hps⟩ := S7.ps
    have HC := Lib.hid (path_read F F ne st HSH.out HST.out (Nat.le_refl _) hFm W7 pb ok ws7 A9 c9 e0 e1 e2 e3 0 hl7 hps S7.hk (Int.le_refl _) h1 hne false (w.heap.size + 2) A7 c7 acc7 HO7 hsz7 (by omega) (fun b hb => by have := hpw b hb; omega) hacc7)
    have hown : ∀ k, (Value.slice A7 acc7.length c7).ownBlock = some k → w.heap.size + 2 ≤ k := fun k hk => (HO7.lt k hk).1
    have p0 := (BP7).cell 0
    simp at p0
    have pf := fun o => (BP7).frozen o
    go_wp2_with fail
    refine HC.out.mono ?_
    rintro e w8 ⟨hch8, hm⟩
    cases hp : pPath st F false acc7 ws7 0
    · rw [hp] at hm
      have hr2 : r = none := by rw [HR7.out, hp]; rfl
      subst hr2
      obtain ⟨h1', g, rfl, hg⟩ := S7.lost2 hch8 (fun k hk => by rcases hk with h | h; exact .inl h; have := hown k h; right; omega) hm
      exact ⟨rfl, h1', g, rfl, hg⟩
    rename_i p8
    obtain ⟨⟨p, a⟩, t, o⟩ := p8
    rw [hp] at hm
    obtain ⟨As, cp, A8, c8, rfl, hrow, hps8, hop, -⟩ := hm
    subst hop
    have S8 := S7.of2 hch8 (fun k hk => by rcases hk with h | h; exact .inl h; have := hown k h; right; omega) hps8 ⟨Int.le_refl _, h1⟩
    have BT8 := BT7.chg hch8 (by rintro (h | h); omega; have := hown _ h; omega)
    have BP8 := BP7.chg hch8 (by rintro (h | h); omega; have := hown _ h; omega)
    have BP9 := BP8.set 0 (.slice As p.length cp)
    have BT9 := BT8.far (a := ⟨w.heap.size + 1, 0, none⟩) (by simp) (.slice As p.length cp)
    have S9 := S8.set (a := ⟨w.heap.size + 1, 0, none⟩) (u := .slice As p.length cp) (by simp)
    have hrow9 := hrow.chg (p := fun k => k = w.heap.size + 1) (Chg.set (ad := ⟨w.heap.size + 1, 0, none⟩) (u := .slice As p.length cp) rfl (Chg.refl _ _)) (by intro k hk; omega)
    simp only [List.setIfInBounds_toArray, List.set_cons_zero] at BP9
    clear p0 pf
    have p0 := (BP8).cell 0
    simp at p0
    have pf := fun o => (BP8).frozen o
    have HPP := Lib.hid hp
    clear hp
    go_upto_region 8 with fail
    clear p0 pf BP8 BT8 S8 hrow BP7 BT7 S7 hch8 HC hps HO7
    generalize w8.setCell ⟨w.heap.size + 1, 0, none⟩ (.slice As p.length cp) = W9 at *
    obtain ⟨A2, c2, hps9⟩ := S9.ps
    have hb9 := hps9.blk
    have q0 := (hb9).cell 0
    have q1 := (hb9).cell 1
    have q2 := (hb9).cell 2
    have q3 := (hb9).cell 3
    have q4 := (hb9).cell 4
    have q5 := (hb9).cell 5
    have q6 := (hb9).cell 6
    simp at q0 q1 q2 q3 q4 q5 q6
    have qf := fun o => (hb9).frozen o
    cases t with
    | nil =>
      have hr2 : r = some p := by rw [HR7.out, HPP.out]; rfl
      subst hr2
      have p0 := (BP9).cell 0
      simp at p0
      have pf := fun o => (BP9).frozen o
      have z0 := (BT9).cell 0
      simp at z0
      have zf := fun o => (BT9).frozen o
      go_wp2_with fail
      refine bodyPost_ret (v := .agg #[.slice As p.length cp]) ?h1 rfl ⟨?h2, ⟨As, cp, rfl, ?h3⟩⟩
      case h1 => simp [results, Tryz.results40, go_sem, z0]
      case h2 => exact S9.ch.setN (by simp)
      case h3 => exact (hrow9.chg (p := fun k => k = w.heap.size) (by repeat' (first | with_reducible exact Chg.refl _ _ | with_reducible assumption | with_reducible refine Chg.al ?_ | with_reducible refine Chg.set ?_ ?_ | with_reducible refine Chg.dr ?_ | with_reducible refine Chg.dn ?_ | with_reducible rfl | omega | (simp; done) | (simp; omega))) (by intro k hk; omega)).mono (by intro k hk; omega)
    | cons y t =>
      have hr2 : r = none := by rw [HR7.out, HPP.out]; rfl
      subst hr2
      obtain ⟨N, hN, hN0⟩ : ∃ N : Nat, N = (y :: t).length ∧ (0 : Int) < (N : Int) := ⟨_, rfl, by simp only [List.length_cons]; omega⟩
      rw [← hN] at q0
      have HN := Lib.hid hN
      clear hN
      go_wp2_with fail
      refine (S9.give 105).mono ?_
      rintro e w10 ⟨h1', g, rfl, hg⟩
      exact ⟨rfl, h1', g, rfl, hg⟩
end Go.Proofs.YtbbmmeaicilabaaGreatDoor
