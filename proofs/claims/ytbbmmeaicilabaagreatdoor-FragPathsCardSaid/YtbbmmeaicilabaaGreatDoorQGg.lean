/- frag: the parts of an And or an Or in normal form (the closure that turning makes), and, or. Conditions: the expressions lie in memory as trees; what expr answers for them is known. -/
import Derived.Test.YtbbmmeaicilabaaGreatDoorQGe
import Derived.Deep.DeepCutAuto
set_option linter.unusedVariables false
set_option linter.unusedSimpArgs false
namespace Go.Proofs.YtbbmmeaicilabaaGreatDoor
open Go.RowKit

theorem info_Expr : (Tryz.prog.info? 64).map (fun i => (i.zero, i.size, i.bytes)) = some (some (.agg #[.int .i64 0, .slice none 0 0, .slice none 0 0, .string ⟨#[]⟩, .int .i64 0, .string ⟨#[]⟩, .int .i64 0]), 7, 104) := by kernel_rfl
theorem info_Step : (Tryz.prog.info? 55).map (fun i => (i.zero, i.size, i.bytes)) = some (some (.agg #[.int .i64 0, .int .i64 0, .string ⟨#[]⟩, .slice none 0 0]), 4, 56) := by kernel_rfl
/-- what 'expr' answers of one expression -/
def ExprAt (f : Expr → Expr) (x : Expr) : Prop := ∀ (cs : List Value) (w : World) ok, RE w ok x cs → Calls Tryz.prog 131 #[.agg cs.toArray] w fun e w' => ∃ cs', e = .returned (.agg cs'.toArray) ∧ RE w' (fun k => w.heap.size ≤ k) (f x) cs' ∧ Below w.heap.size w w'

theorem any_take_succ (p : Expr → Bool) (l : List Expr) (m : Nat) (h : m < l.length) : (l.take (m + 1)).any p = ((l.take m).any p || p l[m]) := by
  rw [← List.take_append_getElem h, List.any_append]; simp
theorem filter_take_succ (p : Expr → Bool) (l : List Expr) (m : Nat) (h : m < l.length) : (l.take (m + 1)).filter p = (l.take m).filter p ++ (if p l[m] then [l[m]] else []) := by
  rw [← List.take_append_getElem h, List.filter_append]; simp [List.filter_cons]
theorem any_of_get (p : Expr → Bool) (l : List Expr) (m : Nat) (h : m < l.length) (hp : p l[m] = true) : l.any p = true := List.any_eq_true.2 ⟨_, List.getElem_mem h, hp⟩

set_option maxHeartbeats 8000000 in
theorem turning1_any (f : Expr → Expr) (op : Int) (out alone : Expr) (l : List Expr) (A : Option Addr) (ca : Nat) (bo ba bu B0 : Nat) (Aa As Ua Us : Option Addr) (ac sc uc tc : Nat) (w : World) (ok : Nat → Prop)
    (hl : RowK kE w ok A l) (hf : ∀ x ∈ l, ExprAt f x) (hsz : wtEs (spreadF f op l) ≤ 1000000)
    (ho : w.cell? ⟨bo, 0, none⟩ = some (.int .i64 op))
    (hal : ∀ o, w.cell? ⟨ba, o, none⟩ = ([.int .i64 alone.op, .slice Aa alone.args.length ac, .slice As alone.path.length sc, .string alone.attr, .int .i64 alone.cmp, .string alone.text, .int .i64 alone.num])[o]?) (hra : RE w (fun k => B0 ≤ k) alone [.int .i64 alone.op, .slice Aa alone.args.length ac, .slice As alone.path.length sc, .string alone.attr, .int .i64 alone.cmp, .string alone.text, .int .i64 alone.num])
    (hou : ∀ o, w.cell? ⟨bu, o, none⟩ = ([.int .i64 out.op, .slice Ua out.args.length uc, .slice Us out.path.length tc, .string out.attr, .int .i64 out.cmp, .string out.text, .int .i64 out.num])[o]?) (hru : RE w (fun k => B0 ≤ k) out [.int .i64 out.op, .slice Ua out.args.length uc, .slice Us out.path.length tc, .string out.attr, .int .i64 out.cmp, .string out.text, .int .i64 out.num]) (hB0 : B0 ≤ w.heap.size) :
    Calls Tryz.prog 130 #[.slice A l.length ca, .pointer (some ⟨bo, 0, none⟩), .pointer (some ⟨ba, 0, none⟩), .pointer (some ⟨bu, 0, none⟩)] w fun e w' => ∃ A' c', e = .returned (.slice A' (turnF f op out alone l).length c') ∧ RowK kE w' (fun k => B0 ≤ k) A' (turnF f op out alone l) ∧ Below w.heap.size w w' := by
  unfold turnF
  have hlen := hl.len
  have hbo := cell_lt ho
  have hF := Lib.hid hf
  have hAL := Lib.hid hal
  have hOU := Lib.hid hou
  clear hf hal hou
  go_enter Tryz.func130, Tryz.ntmps130
  go_wp2_with fail
  go_loopw [6, 18] (fun v6 i wr => ∃ k : Nat, k ≤ l.length ∧ i = .int .i64 k ∧ OwnK kE 64 wr w.heap.size (fun k => w.heap.size ≤ k) v6 (spreadF f op (l.take k)) ∧ Below w.heap.size w wr) (fun _ i _ => l.length - (intOf i).toNat)
  case atStart => exact ⟨0, Nat.zero_le _, rfl, OwnK.nil _ _ _ _ _, Below.refl _ _⟩
  case round =>
    obtain ⟨k, hk, rfl, HO, hbr⟩ := hrel
    obtain ⟨wo, rfl⟩ : ∃ wo : World, wo = wr := ⟨_, rfl⟩
    by_cases hlt : k < l.length
    · obtain ⟨x, b, off, Ax, c1, Asx, c2, HX, rfl, hbw, hR, x0, x1, x2, x3, x4, x5, x6⟩ := (hl.below hbr).atE k hlt
      have hbb : b ≠ wo.heap.size := by omega
      go_wp2_with fail
      refine (hF.out x (by rw [← HX.out]; exact List.getElem_mem hlt) _ _ ok hR.al).mono ?_
      rintro e w1 ⟨cs, rfl, hR1, hb1⟩
      obtain ⟨An, cn, Sn, dn, rfl, hn1, hn2⟩ := hR1.rows
      have hB1 : Below w.heap.size w w1 := hbr.trans (al1 hbr.size hb1)
      have ho1 : w1.cell? ⟨bo, 0, none⟩ = some (.int .i64 op) := by rw [hB1.cell (p := ⟨bo, 0, none⟩) hbo]; exact ho
      have hsp := spread_take f op l k hlt
      rw [HX.out] at hsp
      have hspl := spread_take_len f op l (k + 1)
      have hspw := wtEs_len (spreadF f op l)
      rw [hsp] at hspl
      have HSP := Lib.hid hsp
      clear hsp
      have hwr1 : wo.heap.size ≤ w1.heap.size := by have := hb1.size; simp at this; omega
      obtain ⟨A6, c6, rfl, -⟩ := HO.row
      have hbo1 : bo < w1.heap.size := by have := hbr.size; omega
      have HO1 : OwnK kE 64 w1 w.heap.size (fun k => w.heap.size ≤ k) (.slice A6 (spreadF f op (l.take k)).length c6) (spreadF f op (l.take k)) := HO.below (al1 (Nat.le_refl _) hb1)
      have hv6 : ∀ j, (Value.slice A6 (spreadF f op (l.take k)).length c6).ownBlock = some j → j < wo.heap.size := fun j hj => (HO.lt j hj).2
      generalize f x = n at *
      go_upto_if 29 with fail
      go_cut [10] (fun s10 wx => ∃ A2 c2, s10 = .slice A2 (nxt op n).length c2 ∧ RowK kE wx (fun k => wo.heap.size ≤ k) A2 (nxt op n) ∧ Below w1.heap.size w1 wx)
      case first =>
        by_cases hop : n.op = op
        · have hn : nxt op n = n.args := by unfold nxt; rw [if_pos hop]
          have hnb : (n.op == op) = true := by simp [hop]
          have HN := Lib.hid hn
          clear hn hop
          go_wp2_with fail
          go_meet
          case rel => exact ⟨An, cn, by rw [HN.out], by rw [HN.out]; exact ((hn1.mono (ok' := fun k => wo.heap.size ≤ k) (by simp; intros; omega)).below (bl2 (Nat.le_refl _))), bl2 (Nat.le_refl _)⟩
        · have hn : nxt op n = [n] := by unfold nxt; rw [if_neg hop]
          have hnb : (n.op == op) = false := by simp [hop]
          have HN := Lib.hid hn
          clear hn hop
          go_wp2_with fail
          go_meet
          case rel =>
            refine ⟨some ⟨w1.heap.size + 1, 0, none⟩, 1, by rw [HN.out]; rfl, ?_, bl2 (Nat.le_refl _)⟩
            rw [HN.out]
            refine RowK.oneEc n An cn Sn dn (by omega) ((hR1.al.al).mono (by simp; intros; omega)) ?_ ?_ ?_ ?_ ?_ ?_ ?_
            all_goals simp [go_sem]
      case rest =>
        obtain ⟨A2, c2, rfl, hrow2, hbx⟩ := hcut
        have hlen2 := hrow2.len
        have hrow2' := hrow2.move (w1 := wc) (Nat.le_refl _) (fun _ _ _ => rfl)
        have HO2 := HO1.below hbx
        generalize nxt op n = nx at *
        go_wp2_with fail
        go_loopw [6, 34] (fun v6 i wi => ∃ m : Nat, m ≤ nx.length ∧ i = .int .i64 m ∧ OwnK kE 64 wi w.heap.size (fun k => w.heap.size ≤ k) v6 (addAll (spreadF f op (l.take k)) (nx.take m)) ∧ Below w.heap.size w wi ∧ Chg (fun k => k < wo.heap.size) wc wi ∧ Hid (∀ j, v6.ownBlock = some j → j < wo.heap.size ∨ wc.heap.size ≤ j)) (fun _ i _ => nx.length - (intOf i).toNat)
        case atStart => exact ⟨0, Nat.zero_le _, rfl, by simpa [addAll] using HO2, (hB1.trans (hbx.mono hB1.size)), Chg.refl _ _, fun j hj => .inl (hv6 j hj)⟩
        case round =>
          obtain ⟨m, hm, rfl, HOi, hbi, hci, hvi⟩ := hrel
          by_cases hlt2 : m < nx.length
          · have hrow3 := hrow2'.chg hci (by intro k hk; omega)
            obtain ⟨y, b2, off2, Ay, cy, Sy, dy, HY, rfl, hbw2, hRy, y0, y1, y2, y3, y4, y5, y6⟩ := hrow3.atE m hlt2
            obtain ⟨Av, cv, rfl, hrv⟩ := HOi.row
            have hbb2 : b2 ≠ wr.heap.size := by omega
            have hta := addAll_take (spreadF f op (l.take k)) nx m hlt2
            rw [HY.out] at hta
            have htl := addAll_take_len (spreadF f op (l.take k)) nx (m + 1)
            rw [hta] at htl
            have HTA := Lib.hid hta
            clear hta
            generalize hacc : addAll (spreadF f op (l.take k)) (nx.take m) = acc at *
            clear hacc
            go_wp2_with fail
            refine (among_any acc y Av cv _ _ _ _ hrv.al hRy.al).mono ?_
            rintro e w2 ⟨rfl, hb2⟩
            have hbi2 : Below wr.heap.size wr w2 := al1 (Nat.le_refl _) hb2
            have HO2' := HOi.below hbi2
            obtain ⟨hqw2, hfw2⟩ := bcell hb2
            have hzw20 : wr.heap.size < w2.heap.size := by have := hb2.size; simp at this; omega
            cases hq : memE acc y
            · have hae : addE acc y = acc ++ [y] := by unfold addE; rw [hq]; rfl
              rw [hae] at htl HTA
              simp at htl
              clear hq hae
              have hsz2 := hb2.size
              simp at hsz2
              have hszi := hbi.size
              have hszr := hbr.size
              have C1 : Hid (∀ j, (wo.heap.size ≤ j ∧ j < wc.heap.size) → w.heap.size ≤ j ∧ some j ≠ (Value.slice Av acc.length cv).ownBlock) := by
                intro j hj
                refine ⟨by omega, fun e => ?_⟩
                rcases hvi.out j e.symm with h | h <;> omega
              have C4 : (acc.length + 1) * 104 ≤ 140737488355328 := by omega
              go_wp2_with (at_builtin; go_loud (refine append_ownK kE w.heap.size (fun k => w.heap.size ≤ k) (fun k => wo.heap.size ≤ k ∧ k < wc.heap.size) rfl _ _ 53 64 _ 104 rfl Tryz.underlying53 info_Expr rfl (.slice Av acc.length cv) acc y [.int .i64 y.op, .slice Ay y.args.length cy, .slice Sy y.path.length dy, .string y.attr, .int .i64 y.cmp, .string y.text, .int .i64 y.num] rfl rfl HO2' (hRy.bel hbi2) C1.out (fun j hj => by omega) (by omega) C4 (by decide) ?_; intro v1 w3 HO3 hg3 hat3))
              go_roundw
              case rel => exact ⟨m + 1, by omega, by go_num, by rw [HTA.out]; exact HO3, (hbi.trans (hbi2.mono hbi.size)).grown hg3 (by omega) (fun j hj => (HO2'.lt j hj).1), (hci.trans (Chg.of_below hbi2)).grown hg3 (fun j hj => hvi.out j hj), fun j hj => by
                  rcases hat3 with h | ⟨b3, h, hle⟩
                  · exact hvi.out j (by rw [← h]; exact hj)
                  · rw [h] at hj; have := Option.some.inj hj; have := hci.size; exact .inr (by omega)⟩
              case measure => simp [intOf]; omega
            · have hae : addE acc y = acc := by unfold addE; rw [hq]; rfl
              rw [hae] at HTA
              clear hq hae
              go_wp2_with fail
              go_roundw
              case rel => exact ⟨m + 1, by omega, by go_num, by rw [HTA.out]; exact HO2', hbi.trans (hbi2.mono hbi.size), hci.trans (Chg.of_below hbi2), hvi⟩
              case measure => simp [intOf]; omega
          · have htk : nx.take m = nx := List.take_of_length_le (by omega)
            rw [htk] at HOi
            go_wp2_with fail
            go_roundw
            case rel => exact ⟨k + 1, by omega, by go_num, by rw [HSP.out]; exact HOi, hbi⟩
            case measure => simp [intOf]; omega
    · have htk : l.take k = l := List.take_of_length_le (by omega)
      rw [htk] at HO
      have hlenw := wtEs_len (spreadF f op l)
      obtain ⟨Ap, cp, rfl, hrp⟩ := HO.row
      have hrp := hrp.mono (ok' := fun j => B0 ≤ j) (by intro j hj; omega)
      have hrp' := hrp.move (w1 := wo) (Nat.le_refl _) (fun _ _ _ => rfl)
      have HA := Lib.hid (box_below (by simp) hbr hAL.out)
      have HU := Lib.hid (box_below (by simp) hbr hOU.out)
      have hba := box_lt (by simp) HA.out
      have hbu := box_lt (by simp) HU.out
      clear HO htk hAL hOU
      have hlenp := hrp.len
      go_wp2_with fail
      go_loopw [13, 50] (fun v13 i wj => ∃ m : Nat, m ≤ (spreadF f op l).length ∧ i = .int .i64 m ∧ OwnK kE 64 wj wo.heap.size (fun k => B0 ≤ k) v13 (((spreadF f op l).take m).filter (fun y => !eqE y out)) ∧ Below wo.heap.size wo wj ∧ Hid (((spreadF f op l).take m).any (fun y => eqE y alone) = false)) (fun _ i _ => (spreadF f op l).length - (intOf i).toNat)
      case atStart => exact ⟨0, Nat.zero_le _, rfl, OwnK.nil _ _ _ _ _, Below.refl _ _, rfl⟩
      case round =>
        obtain ⟨m, hm, rfl, HOj, hbj, HN⟩ := hrel
        by_cases hlt : m < (spreadF f op l).length
        · obtain ⟨y, b, off, Ay, cy, Sy, dy, HY, rfl, hbw, hRy, y0, y1, y2, y3, y4, y5, y6⟩ := (hrp'.below hbj).atE m hlt
          have hbb : b ≠ wr.heap.size := by omega
          have hszr := hbr.size
          have hszj := hbj.size
          have hba1 : ba < wr.heap.size := by omega
          have hbu1 : bu < wr.heap.size := by omega
          have HAj := box_below (by simp) hbj HA.out
          have HUj := box_below (by simp) hbj HU.out
          have a0 := HAj 0
          have a1 := HAj 1
          have a2 := HAj 2
          have a3 := HAj 3
          have a4 := HAj 4
          have a5 := HAj 5
          have a6 := HAj 6
          simp at a0 a1 a2 a3 a4 a5 a6
          have u0 := HUj 0
          have u1 := HUj 1
          have u2 := HUj 2
          have u3 := HUj 3
          have u4 := HUj 4
          have u5 := HUj 5
          have u6 := HUj 6
          simp at u0 u1 u2 u3 u4 u5 u6
          clear HAj HUj
          have hbrj : Below w.heap.size w wr := hbr.trans (hbj.mono hszr)
          obtain ⟨Av, cv, rfl, -⟩ := HOj.row
          have hat := any_take_succ (fun y => eqE y alone) (spreadF f op l) m hlt
          have hft := filter_take_succ (fun y => !eqE y out) (spreadF f op l) m hlt
          rw [HN.out, HY.out, Bool.false_or] at hat
          rw [HY.out] at hft
          have hfl : (((spreadF f op l).take m).filter (fun y => !eqE y out)).length ≤ (spreadF f op l).length := Nat.le_trans (List.length_filter_le _ _) (List.length_take_le' _ _)
          generalize hacc : ((spreadF f op l).take m).filter (fun y => !eqE y out) = acc at *
          clear hacc
          go_wp2_with fail
          refine (alike_any y alone _ _ _ _ _ hRy.al (hra.bel (hbrj.trans (bl1 hbrj.size)))).mono ?_
          rintro e w2 ⟨rfl, hb2⟩
          have hbi2 : Below wr.heap.size wr w2 := al1 (Nat.le_refl _) hb2
          obtain ⟨hqw2, hfw2⟩ := bcell hb2
          have hzw20 : wr.heap.size < w2.heap.size := by have := hb2.size; simp at this; omega
          have hba2 : ba < w2.heap.size := by omega
          have hbu2 : bu < w2.heap.size := by omega
          have hbr2 : Below w.heap.size w w2 := hbrj.trans (hbi2.mono hbrj.size)
          cases hq : eqE y alone
          · have HN2 : Hid (((spreadF f op l).take (m + 1)).any (fun y => eqE y alone) = false) := by unfold Hid; rw [hat]; exact hq
            clear hq hat
            go_wp2_with fail
            refine (alike_any y out _ _ _ _ _ (hRy.bel hbi2) (hru.bel hbr2)).mono ?_
            rintro e w3 ⟨rfl, hb3⟩
            obtain ⟨hqw3, hfw3⟩ := bcell hb3
            have hzw3 : wr.heap.size < w3.heap.size := by have := hb3.size; omega
            have hbi3 : Below wr.heap.size wr w3 := hbi2.trans (hb3.mono hbi2.size)
            have HO3 := HOj.below hbi3
            cases hq2 : eqE y out
            · rw [hq2] at hft
              have HFT := Lib.hid hft
              clear hft hq2
              have C1 : Hid (∀ j, (B0 ≤ j ∧ j < wo.heap.size) → B0 ≤ j ∧ some j ≠ (Value.slice Av acc.length cv).ownBlock) := by
                intro j hj
                refine ⟨by omega, fun e => ?_⟩
                have := (HO3.lt j e.symm).1
                omega
              have C4 : (acc.length + 1) * 104 ≤ 140737488355328 := by omega
              have hsz3 := hbi3.size
              go_wp2_with (at_builtin; go_loud (refine append_ownK kE wo.heap.size (fun k => B0 ≤ k) (fun k => B0 ≤ k ∧ k < wo.heap.size) rfl _ _ 53 64 _ 104 rfl Tryz.underlying53 info_Expr rfl (.slice Av acc.length cv) acc y [.int .i64 y.op, .slice Ay y.args.length cy, .slice Sy y.path.length dy, .string y.attr, .int .i64 y.cmp, .string y.text, .int .i64 y.num] rfl rfl HO3 (hRy.bel hbi3) C1.out (fun j hj => by omega) (by omega) C4 (by decide) ?_; intro v1 w4 HO4 hg4 hat4))
              go_roundw
              case rel => exact ⟨m + 1, by omega, by go_num, by rw [HFT.out]; exact HO4, (hbj.trans (hbi3.mono hbj.size)).grown hg4 (by omega) (fun j hj => (HO3.lt j hj).1), HN2⟩
              case measure => simp [intOf]; omega
            · rw [hq2] at hft
              have HFT := Lib.hid hft
              clear hft hq2
              go_wp2_with fail
              go_roundw
              case rel => exact ⟨m + 1, by omega, by go_num, by rw [HFT.out]; simpa using HO3, hbj.trans (hbi3.mono hbj.size), HN2⟩
              case measure => simp [intOf]; omega
          · have hlf : leftF out alone (spreadF f op l) = [alone] := by
              unfold leftF; rw [if_pos (any_of_get _ (spreadF f op l) m hlt (by rw [HY.out]; exact hq))]
            have HLF := Lib.hid hlf
            clear hlf hq hat hft
            go_wp2_with fail
            go_ret
            refine ⟨some ⟨w2.heap.size, 0, none⟩, 1, by rw [HLF.out]; rfl, ?_, hbr2.trans (bl1 hbr2.size)⟩
            rw [HLF.out]
            refine RowK.oneEc alone Aa ac As sc (by have := hbr2.size; omega) ((hra.bel hbr2).al) ?_ ?_ ?_ ?_ ?_ ?_ ?_
            all_goals simp [go_sem]
        · have htk : (spreadF f op l).take m = (spreadF f op l) := List.take_of_length_le (by omega)
          rw [htk] at HOj HN
          have hlf : leftF out alone (spreadF f op l) = (spreadF f op l).filter (fun y => !eqE y out) := by unfold leftF; rw [HN.out]; rfl
          rw [← hlf] at HOj
          obtain ⟨Av, cv, rfl, hrv⟩ := HOj.row
          clear hlf htk
          go_wp2_with fail
          go_ret
          exact ⟨Av, cv, rfl, hrv, hbr.trans (hbj.mono hbr.size)⟩
end Go.Proofs.YtbbmmeaicilabaaGreatDoor
