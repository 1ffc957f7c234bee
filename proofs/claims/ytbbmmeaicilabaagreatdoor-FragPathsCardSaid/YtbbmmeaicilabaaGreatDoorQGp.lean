/- frag.Normal and frag.Plain: the normal form of a query's path, or ErrShape. Conditions: the path lies in memory as a tree, of weight a million at most; the tables lie as the text lays them. -/
import Derived.Test.YtbbmmeaicilabaaGreatDoorQGn
import Derived.Test.YtbbmmeaicilabaaGreatDoorQGk
set_option linter.unusedVariables false
set_option linter.unusedSimpArgs false
namespace Go.Proofs.YtbbmmeaicilabaaGreatDoor
open Go.RowKit

mutual
theorem gE_sh : ∀ x : Expr, gE x = true → shE x = true
  | .mk op xs ps a c t m => by
    have h1 := gEs_sh xs; have h2 := gP_sh ps
    intro h
    simp only [gE] at h
    simp only [shE]
    split at h
    · rename_i h3
      subst h3
      simp at h
      simp [h.1.1, h2 h.1.2.2]
      omega
    · simp at h
      obtain ⟨⟨⟨⟨⟨hp, -⟩, -⟩, -⟩, -⟩, ho, hx⟩ := h
      split at ho
      · rename_i ho2
        have ho' : 2 ≤ xs.length := ho
        simp [ho2, h1 hx, hp, ho']
      · rename_i ho2
        simp [ho.1, ho.2, h1 hx, hp]
theorem gEs_sh : ∀ x : List Expr, gEs x = true → shEs x = true
  | [] => by simp [shEs]
  | x :: r => by intro h; simp [gEs] at h; simp [shEs, gE_sh x h.1, gEs_sh r h.2]
theorem gS_sh : ∀ x : Step, gS x = true → shS x = true
  | .mk a t n w => by intro h; simp [gS] at h; simp [shS, gEs_sh w h.2.2]
theorem gP_sh : ∀ x : List Step, gP x = true → shP x = true
  | [] => by simp [shP]
  | x :: r => by intro h; simp [gP] at h; simp [shP, gS_sh x h.1, gP_sh r h.2]
end
theorem isQ_sh {p : List Step} (h : isQ p = true) : shP p = true := by
  simp [isQ] at h
  exact gP_sh p h.1.2

/-- the answer of Normal -/
def nrm (N : Nat) (p : List Step) : List Step := if isQ p = true then normP N p else []

set_option maxHeartbeats 1000000 in
/-- frag.Normal -/
theorem normal_calls (N : Nat) (hN : N ≤ 1000000) (p : List Step) (A : Option Addr) (ca : Nat) (w : World) (ok : Nat → Prop) (hx : RowK kS w ok A p) (hM : wtP p ≤ N) (hT : WOK w) :
    Calls Tryz.prog 9 #[.agg #[.slice A p.length ca]] w fun e w' => ∃ A' c', e = .returned (.tuple #[.agg #[.slice A' (nrm N p).length c'], .int .i64 (shapeE (isQ p))]) ∧ RowK kS w' (fun k => w.heap.size ≤ k) A' (nrm N p) ∧ Below w.heap.size w w' := by
  have HT := Lib.hid hT
  clear hT
  cases hq : isQ p
  · have hn : nrm N p = [] := by unfold nrm; rw [hq]; rfl
    have hc := check_calls p A ca
    rw [hq] at hc
    rw [hn]
    have HC := Lib.hid hc
    clear hc hn hq
    have e6 : shapeE false = 6 := rfl
    rw [e6] at HC ⊢
    clear e6
    go_enter Tryz.func9, Tryz.ntmps9
    go_wp2_with fail
    refine (HC.out _ ok (hx.below (bl2 (Nat.le_refl _))) (by omega) (HT.out.al.al)).mono ?_
    rintro e w2 ⟨rfl, hb2⟩
    have BR2 := (Blk.new (w.alloc (.cells #[.slice A p.length ca] 27)) #[.slice none 0 0] 27).below hb2
    simp only [World.size_alloc] at BR2
    have hq := fun o => BR2.cell o
    have hf := fun o => BR2.frozen o
    have hlt := BR2.lt
    go_wp2_with fail
    have BR3 := BR2.set 0 (.slice none 0 0)
    have h0 := BR3.cell 0
    simp at h0
    have hB := al2 (Nat.le_refl _) hb2
    refine bodyPost_ret (v := .tuple #[.agg #[.slice none 0 0], .int .i64 6]) ?h1 rfl ⟨none, 0, rfl, RowK.nil _ _ _, ?h3⟩
    case h1 => simp [results, Tryz.results9, go_sem, h0]
    case h3 => exact (by repeat' (first | with_reducible exact Below.refl _ _ | with_reducible assumption | with_reducible refine Below.alloc ?_ ?_ _ | with_reducible refine Below.setCell ?_ ?_ _ | with_reducible refine Below.drew ?_ | with_reducible refine below_dn ?_ | omega | (simp; done) | (simp; omega)))
  · have hn : nrm N p = normP N p := by unfold nrm; rw [hq]; rfl
    have hc := check_calls p A ca
    rw [hq] at hc
    rw [hn]
    have hP := frag_path N hN p (isQ_sh hq) hM
    unfold PathAt at hP
    have HC := Lib.hid hc
    clear hc hn hq
    have e6 : shapeE true = 0 := rfl
    rw [e6] at HC ⊢
    clear e6
    unfold normP
    generalize pathF (normE N) p = r at hP ⊢
    have HP := Lib.hid hP
    clear hP
    go_enter Tryz.func9, Tryz.ntmps9
    go_wp2_with fail
    refine (HC.out _ ok (hx.below (bl2 (Nat.le_refl _))) (by omega) (HT.out.al.al)).mono ?_
    rintro e w2 ⟨rfl, hb2⟩
    have hB := al2 (Nat.le_refl _) hb2
    have BR2 := (Blk.new (w.alloc (.cells #[.slice A p.length ca] 27)) #[.slice none 0 0] 27).below hb2
    simp only [World.size_alloc] at BR2
    have BA2 := ((Blk.new w #[.slice A p.length ca] 27).al (.cells #[.slice none 0 0] 27)).below hb2
    have ha := fun o => BA2.cell o
    go_wp2_with fail
    refine (HP.out A ca _ ok (hx.below hB)).mono ?_
    rintro e w3 ⟨A3, c3, rfl, hrow, hb3⟩
    have BR3 := BR2.below hb3
    have hf := fun o => BR3.frozen o
    have hlt := BR3.lt
    have hcell := fun o => BR3.cell o
    go_wp2_with fail
    have BR4 := BR3.set 0 (.slice A3 r.length c3)
    have h0 := BR4.cell 0
    simp at h0
    have hB3 := hB.trans (hb3.mono hB.size)
    have hsz2 := hb2.size
    simp at hsz2
    refine bodyPost_ret (v := .tuple #[.agg #[.slice A3 r.length c3], .int .i64 0]) ?h1 rfl ⟨A3, c3, rfl, ?h2, ?h3⟩
    case h1 => simp [results, Tryz.results9, go_sem, h0]
    case h3 => exact (by repeat' (first | with_reducible exact Below.refl _ _ | with_reducible assumption | with_reducible refine Below.alloc ?_ ?_ _ | with_reducible refine Below.setCell ?_ ?_ _ | with_reducible refine Below.drew ?_ | with_reducible refine below_dn ?_ | omega | (simp; done) | (simp; omega)))
    case h2 => exact (hrow.chg (p := fun k => k = w.heap.size + 1) (by repeat' (first | with_reducible exact Chg.refl _ _ | with_reducible assumption | with_reducible refine Chg.al ?_ | with_reducible refine Chg.set ?_ ?_ | with_reducible refine Chg.dr ?_ | with_reducible refine Chg.dn ?_ | with_reducible rfl | omega | (simp; done) | (simp; omega))) (by intro k hk; omega)).mono (by intro k hk; omega)

def plainB (p : List Step) : Bool := p.all fun s => decide (s.wh.length = 0)
theorem plainB_false {l : List Step} (k : Nat) (h : k < l.length) (hx : 0 < l[k].wh.length) : plainB l = false := by
  cases hb : plainB l
  · rfl
  · have := (List.all_eq_true.1 hb) _ (List.getElem_mem h)
    simp at this
    rw [this] at hx
    simp at hx
theorem plainB_all {l : List Step} (h : ∀ j, j < l.length → ∀ (h : j < l.length), l[j].wh.length = 0) : plainB l = true := by
  refine List.all_eq_true.2 fun x hx => ?_
  obtain ⟨j, hj, rfl⟩ := List.getElem_of_mem hx
  simpa using h j hj hj

set_option maxHeartbeats 1000000 in
/-- frag.Plain -/
theorem plain_calls (p : List Step) (A : Option Addr) (ca : Nat) (w : World) (ok : Nat → Prop) (hx : RowK kS w ok A p) (hM : wtP p < 4294967281) (hT : WOK w) :
    Calls Tryz.prog 13 #[.agg #[.slice A p.length ca]] w fun e w' => e = .returned (.tuple #[.bool (isQ p && plainB p), .int .i64 (shapeE (isQ p))]) ∧ Below w.heap.size w w' := by
  have HT := Lib.hid hT
  clear hT
  have hlx := hx.len
  cases hq : isQ p
  · have hc := check_calls p A ca
    rw [hq] at hc
    have e6 : shapeE false = 6 := rfl
    rw [e6] at hc ⊢
    rw [Bool.false_and]
    have HC := Lib.hid hc
    clear hc hq e6
    go_enter Tryz.func13, Tryz.ntmps13
    go_wp2_with fail
    refine (HC.out _ ok (hx.below (bl1 (Nat.le_refl _))) hM HT.out.al).mono ?_
    rintro e w2 ⟨rfl, hb2⟩
    go_wp2_with fail
    go_ret2
    exact ⟨rfl, al1 (Nat.le_refl _) hb2⟩
  · have hc := check_calls p A ca
    rw [hq] at hc
    have e6 : shapeE true = 0 := rfl
    rw [e6] at hc ⊢
    rw [Bool.true_and]
    have HC := Lib.hid hc
    clear hc hq e6
    go_enter Tryz.func13, Tryz.ntmps13
    go_wp2_with fail
    refine (HC.out _ ok (hx.below (bl1 (Nat.le_refl _))) hM HT.out.al).mono ?_
    rintro e w2 ⟨rfl, hb2⟩
    obtain ⟨hq, hf⟩ := bcell hb2
    have hB := al1 (Nat.le_refl _) hb2
    go_wp2_with fail
    clear hq hf
    go_loopw [15] (fun i wr => ∃ k : Nat, k ≤ p.length ∧ i = .int .i64 k ∧ Hid (∀ j, j < k → ∀ (h : j < p.length), p[j].wh.length = 0) ∧ Below w.heap.size w wr) (fun i _ => p.length - (intOf i).toNat)
    case atStart => exact ⟨0, Nat.zero_le _, rfl, fun j h => absurd h (by omega), hB⟩
    case round =>
      obtain ⟨k, hk, rfl, HE, hbr⟩ := hrel
      by_cases hlt : k < p.length
      · obtain ⟨x, b, off, Aw, cw, HX, rfl, hbw, hR, x0, x1, x2, x3⟩ := (hx.below hbr).atS k hlt
        have hbb : b ≠ wr.heap.size := by omega
        by_cases hl : 0 < x.wh.length
        · have HF : Hid (plainB p = false) := plainB_false k hlt (by rw [HX.out]; exact hl)
          go_wp2_with fail
          go_ret2
          exact ⟨by rw [HF.out]; rfl, hbr.trans (bl1 hbr.size)⟩
        · have HQ : Hid (∀ j, j < k + 1 → ∀ (h : j < p.length), p[j].wh.length = 0) := by
            intro j hj h
            rcases Nat.lt_or_ge j k with hjk | hjk
            · exact HE.out j hjk h
            · obtain rfl : j = k := by omega
              rw [HX.out]; omega
          go_wp2_with fail
          go_roundw
          case rel => exact ⟨k + 1, by omega, by go_num, HQ, hbr.trans (bl1 hbr.size)⟩
          case measure => simp [intOf]; omega
      · have HF : Hid (plainB p = true) := plainB_all fun j h => HE.out j (by omega)
        go_wp2_with fail
        go_ret2
        exact ⟨by rw [HF.out]; rfl, hbr⟩
end Go.Proofs.YtbbmmeaicilabaaGreatDoor
