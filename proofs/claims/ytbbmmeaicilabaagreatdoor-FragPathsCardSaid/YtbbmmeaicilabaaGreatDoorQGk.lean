/- frag.path. Conditions: the path lies in memory as a tree of a query's shape, of weight at most N ≤ 1000000; what expr answers for its expressions is known. -/
import Derived.Test.YtbbmmeaicilabaaGreatDoorQGh
import Derived.Test.YtbbmmeaicilabaaGreatDoorQGj
import Derived.Deep.RegionHeld3
import Derived.Deep.RegionLaw
set_option linter.unusedVariables false
set_option linter.unusedSimpArgs false
namespace Go.Proofs.YtbbmmeaicilabaaGreatDoor
open Go.RowKit

theorem snoc_cases {α : Type} (l : List α) : l = [] ∨ ∃ xs x, l = xs ++ [x] := by
  rcases l with _ | ⟨a, t⟩
  · exact .inl rfl
  · exact .inr ⟨(a :: t).dropLast, (a :: t).getLast (by simp), (List.dropLast_concat_getLast (by simp)).symm⟩
theorem putF_nil (f : Expr → Expr) (s : Step) (h : bareF s 3 = false) : putF f [] s = [s] := by unfold putF; rw [if_neg (by simp [h])]; rfl
theorem putF_meet (f : Expr → Expr) (xs : List Step) (last s : Step) (h : bareF s 3 = false) (ha : s.axis = 3) {t : Int} {nm : ByteArray} (hm : meetF last s = some (t, nm)) : putF f (xs ++ [last]) s = xs ++ [.mk last.axis t nm (andsF f (last.wh ++ s.wh))] := by
  unfold putF; rw [if_neg (by simp [h])]; simp [ha, hm]
theorem putF_self (f : Expr → Expr) (xs : List Step) (last s : Step) (h : bareF s 3 = false) (ha : s.axis = 3) (hm : meetF last s = none) : putF f (xs ++ [last]) s = xs ++ [last] ++ [s] := by
  unfold putF; rw [if_neg (by simp [h])]; simp [ha, hm]
theorem putF_dos (f : Expr → Expr) (xs : List Step) (last s : Step) (h : bareF s 3 = false) (ha : s.axis ≠ 3) (hm : bareF last 2 = true) : putF f (xs ++ [last]) s = xs ++ [if s.axis = 0 then .mk 1 s.test s.name s.wh else s] := by
  unfold putF; rw [if_neg (by simp [h])]; simp [ha, hm]
theorem putF_else (f : Expr → Expr) (xs : List Step) (last s : Step) (h : bareF s 3 = false) (ha : s.axis ≠ 3) (hm : bareF last 2 = false) : putF f (xs ++ [last]) s = xs ++ [last] ++ [s] := by
  unfold putF; rw [if_neg (by simp [h])]; simp [ha, hm]
theorem steps_take (f : Expr → Expr) (p : List Step) (k : Nat) (h : k < p.length) : stepsF f (p.take (k + 1)) = putF f (stepsF f (p.take k)) (whF f p[k]) := by
  unfold stepsF; rw [← List.take_append_getElem h, List.foldl_append]; rfl

set_option maxRecDepth 100000 in
set_option maxHeartbeats 16000000 in
theorem path_any (f : Expr → Expr) (N : Nat) (hN : N ≤ 1000000) (hE : ∀ y, shE y = true → wtE y ≤ N → Light f y ∧ ExprAt f y) (p : List Step) (hp : shP p = true) (hw : wtP p ≤ N) : PathAt f p := by
  intro A ca w ok hrow
  have hlen := hrow.len
  have HE := Lib.hid hE
  clear hE
  generalize hr : pathF f p = r
  have HR := Lib.hid hr
  clear hr
  go_enter Tryz.func25, Tryz.ntmps25
  go_wp2_with fail
  go_loopw [3, 13] (fun v3 i wr => ∃ k : Nat, k ≤ p.length ∧ i = .int .i64 k ∧ OwnK kS 55 wr (w.heap.size + 2) (fun k => w.heap.size + 2 ≤ k) v3 (stepsF f (p.take k)) ∧ Below (w.heap.size + 2) ((w.alloc (Obj.cells #[Value.slice A p.length ca] 27)).alloc (Obj.cells #[Value.slice none 0 0] 27)) wr) (fun _ i _ => p.length - (intOf i).toNat)
  case atStart => exact ⟨0, Nat.zero_le _, rfl, OwnK.nil _ _ _ _ _, Below.refl _ _⟩
  case round =>
    obtain ⟨k, hk, rfl, HO, hbr0⟩ := hrel
    obtain ⟨wo, rfl⟩ : ∃ wo : World, wo = wr := ⟨_, rfl⟩
    have hbr : Below w.heap.size w wo := (bl2 (Nat.le_refl _)).trans (hbr0.mono (by omega))
    have hszo : w.heap.size + 2 ≤ wo.heap.size := by have := hbr0.size; simp at this; omega
    by_cases hlt : k < p.length
    · obtain ⟨s0, b, off, Aw, cw, HX, rfl, hbw, hR, x0, x1, x2, x3⟩ := (hrow.below hbr).atS k hlt
      have hbb : b ≠ wo.heap.size := by omega
      have hst := steps_take f p k hlt
      rw [HX.out] at hst
      have hshs : shS s0 = true := by rw [← HX.out]; exact (shP_iff p).1 hp _ (List.getElem_mem hlt)
      have hw1 := wtP_take p k hlt
      have hw2 := wtP_take_le p (k + 1)
      rw [HX.out] at hw1
      have hlight := steps_light f (p.take k) [] N (by simp [shP]) (by rw [shP_iff] at *; exact fun x hx => hp x (List.mem_of_mem_take hx)) (by simp only [wtP]; omega) (fun x h1 h2 => (HE.out x h1 h2).1)
      have hE0 : ∀ y ∈ s0.wh, Light f y ∧ ExprAt f y := by
        intro y hy
        obtain ⟨a, t, n, wh⟩ := s0
        simp only [Step.wh, shS, wtS] at *
        exact HE.out y ((shEs_iff _).1 hshs y hy) (by have := wtEs_mem hy; omega)
      have hands := ands_light f s0.wh (fun y hy => (hE0 y hy).1)
      have hwS : wtEs s0.wh + 1 ≤ wtS s0 := by cases s0; simp only [wtS, Step.wh]; omega
      have hsp0 : wtEs (spreadF f 0 s0.wh) ≤ 1000000 := by have := (spread_light f (.inl rfl) s0.wh (fun y hy => (hE0 y hy).1)).2; omega
      obtain ⟨Aw', cw', he, hrw⟩ := hR.rows
      obtain ⟨rfl, rfl⟩ : Aw = Aw' ∧ cw = cw' := by simpa using he
      obtain ⟨s, hs⟩ : ∃ s, s = whF f s0 := ⟨_, rfl⟩
      have e1 : s0.axis = s.axis := by rw [hs]; rfl
      have e2 : s0.test = s.test := by rw [hs]; rfl
      have e3 : s0.name = s.name := by rw [hs]; rfl
      have e4 : andsF f s0.wh = s.wh := by rw [hs]; rfl
      rw [e1] at x0
      rw [e2] at x1
      rw [e3] at x2
      rw [← hs] at hst
      have hsS : shS s = true ∧ wtS s ≤ wtS s0 := by
        rw [hs]; obtain ⟨a2, t2, n2, w2⟩ := s0
        exact ⟨hands.1, by have := hands.2; simp only [whF, wtS, Step.wh, Step.name] at *; omega⟩
      have HW : Hid (∀ (W : World), RowK kE W ok Aw s0.wh → Calls Tryz.prog 46 #[.slice Aw s0.wh.length cw] W fun e w' => ∃ A' c', e = .returned (.slice A' s.wh.length c') ∧ RowK kE w' (fun k => W.heap.size ≤ k) A' s.wh ∧ Below W.heap.size W w') := by
        intro W hW; rw [← e4]; exact where_any f s0.wh Aw cw _ ok hW (fun y hy => (hE0 y hy).2) hsp0
      have HST := Lib.hid hst
      have HL1 : shP (stepsF f (p.take k)) = true := hlight.1
      have HL2 : wtP (stepsF f (p.take k)) ≤ wtP (p.take k) := by have := hlight.2; simp only [wtP, Nat.zero_add] at this; exact this
      have hal := wtP_len (stepsF f (p.take k))
      clear he hE0 hst hlight hp hands hsp0 hwS hshs hs e1 e2 e3 e4 HX
      generalize stepsF f (p.take k) = acc at *
      go_wp2_with fail
      refine (HW.out _ hrw.al).mono ?_
      rintro e w1 ⟨A1, c1, rfl, hr1, hb1⟩
      have B1 := (Blk.new wo #[.int .i64 s.axis, .int .i64 s.test, .string s.name, .slice Aw s0.wh.length cw] 55).below hb1
      have d0 := (B1).cell 0
      have d1 := (B1).cell 1
      have d2 := (B1).cell 2
      have d3 := (B1).cell 3
      simp at d0 d1 d2 d3
      have df := fun o => (B1).frozen o
      have hz1 := B1.lt
      clear x0 x1 x2 x3 HW
      go_wp2_with fail
      refine (bare_any s A1 c1 3 _).mono ?_
      rintro e w2 ⟨rfl, hb2⟩
      have B1' := B1.set 3 (.slice A1 s.wh.length c1)
      simp at B1'
      have B2 := B1'.below hb2
      clear d0 d1 d2 d3 df B1'
      have hbo1 : Below wo.heap.size wo w1 := al1 (Nat.le_refl _) hb1
      have hbo2 : Below wo.heap.size wo w2 := (hbo1.setCell (p := ⟨wo.heap.size, 3, none⟩) (Nat.le_refl _) _).trans (hb2.mono (by simp; exact hbo1.size))
      have HO2 := HO.below hbo2
      have HO2b := (HO.move (w1 := wo) (Nat.le_refl _) (fun _ _ _ => rfl)).below hbo2
      have hr2 : RowK kE w2 (fun k => wo.heap.size + 1 ≤ k) A1 s.wh := ((hr1.mono (ok' := fun k => wo.heap.size + 1 ≤ k) (by simp)).chg (p := fun k => k = wo.heap.size) (Chg.set (ad := ⟨wo.heap.size, 3, none⟩) rfl (Chg.refl _ _)) (by intro k hk; omega)).below hb2
      have b0 := (B2).cell 0
      have b1 := (B2).cell 1
      have b2 := (B2).cell 2
      have b3 := (B2).cell 3
      simp at b0 b1 b2 b3
      have bf := fun o => (B2).frozen o
      have hz2 := B2.lt
      have hbr2 := hbr0.trans (hbo2.mono hszo)
      clear hb1 hb2 B1 hr1 hbo1
      have hv3 : ∀ j, u3.ownBlock = some j → j < wo.heap.size := fun j hj => (HO.lt j hj).2
      cases hq : bareF s 3
      · rcases snoc_cases acc with rfl | ⟨xs, last, rfl⟩
        · have hput := putF_nil f s hq
          rw [hput] at HST
          clear hq hput
          obtain ⟨A3, c3, rfl, -⟩ := HO2.row
          have C1 : Hid (∀ j, (wo.heap.size + 1 ≤ j) → w.heap.size + 2 ≤ j ∧ some j ≠ (Value.slice A3 ([] : List Step).length c3).ownBlock) := by
            intro j hj
            refine ⟨by omega, fun e => ?_⟩
            have := hv3 j e.symm
            omega
          go_wp2_with (at_builtin; go_loud (refine append_ownK kS (w.heap.size + 2) (fun k => w.heap.size + 2 ≤ k) (fun k => wo.heap.size + 1 ≤ k) rfl _ _ 25 55 _ 56 rfl Tryz.underlying25 info_Step rfl (.slice A3 ([] : List Step).length c3) [] s [.int .i64 s.axis, .int .i64 s.test, .string s.name, .slice A1 s.wh.length c1] rfl rfl HO2 (RS.of_rows hr2) C1.out (fun j hj => by omega) (by omega) (by simp) (by decide) ?_; intro v1 w3 HO3 hg3 hat3))
          go_roundw
          case rel => exact ⟨k + 1, by omega, by go_num, by rw [HST.out]; exact HO3, hbr2.grown hg3 (by omega) (fun j hj => (HO2.lt j hj).1)⟩
          case measure => simp [intOf]; omega
        · obtain ⟨g, cap, L, rfl, HHb, hKlb, hg1, hg2⟩ := HO2b.toH
          have HH := HHb.mono (ok' := fun k => w.heap.size + 2 ≤ k) (fun _ h => h.1)
          have hKl : RS w2 (fun k => w.heap.size + 2 ≤ k ∧ k ≠ g) last L := RS.mono (fun k h => ⟨h.1.1, h.2⟩) hKlb
          clear hKlb
          have hgo : g < wo.heap.size := hv3 g rfl
          obtain ⟨Al, cl, rfl, hrl⟩ := RS.rows hKl
          have l0 := HH.cell 0 _ rfl
          have l1 := HH.cell 1 _ rfl
          have l2 := HH.cell 2 _ rfl
          have l3 := HH.cell 3 _ rfl
          simp only [show kS.sz = 4 from rfl, Nat.add_zero] at l0 l1 l2 l3
          have lf := fun o => HH.frozen o
          have hgB : g ≠ wo.heap.size := by omega
          have hln : ((xs.length : Int) + 1 == 0) = false := by rw [beq_eq_false_iff_ne]; omega
          have hshl : shP xs = true ∧ shS last = true := by rw [shP_append] at HL1; simpa [shP] using HL1
          have hwtl : wtP xs + wtS last ≤ wtP (p.take k) := by rw [wtP_append] at HL2; simpa [wtP] using HL2
          have hxl := wtP_len xs
          by_cases hax : s.axis = 3
          · have hxb : (s.axis == 3) = true := by rw [hax]; rfl
            cases hm : meetF last s
            · have hput := putF_self f xs last s hq hax hm
              rw [hput] at HST
              have HM := Lib.hid hm
              clear hq hput hax hm
              go_wp2_with fail
              go_region_held3 (fun w' => w'.cell? ⟨g, xs.length * 4, none⟩ = some (.int .i64 last.axis) ∧ w'.cell? ⟨g, xs.length * 4 + 1, none⟩ = some (.int .i64 last.test) ∧ w'.cell? ⟨g, xs.length * 4 + 2, none⟩ = some (.string last.name) ∧ w'.cell? ⟨g, xs.length * 4 + 3, none⟩ = some (.slice Al last.wh.length cl) ∧
                  w'.cell? ⟨wo.heap.size, 0, none⟩ = some (.int .i64 s.axis) ∧ w'.cell? ⟨wo.heap.size, 1, none⟩ = some (.int .i64 s.test) ∧ w'.cell? ⟨wo.heap.size, 2, none⟩ = some (.string s.name) ∧ w'.cell? ⟨wo.heap.size, 3, none⟩ = some (.slice A1 s.wh.length c1))
                (first | go_keep)
                (first | (go_at_call 48; refine (meet_any last s Al A1 cl c1 _).mono ?_; rintro e w3 ⟨hm3, hb3'⟩; have hb3 : Below w2.heap.size w2 w3 := Below.trans ((Below.refl _ _).drew) (hb3'.mono (by simp)); simp only [HM.out] at hm3; subst hm3; have H3 := HH.below hb3; have B3 := B2.below hb3; clear hb3'; have l0 := H3.cell 0 _ rfl; have l1 := H3.cell 1 _ rfl; have l2 := H3.cell 2 _ rfl; have l3 := H3.cell 3 _ rfl; simp only [show kS.sz = 4 from rfl, Nat.add_zero] at l0 l1 l2 l3; have b0 := B3.cell 0; have b1 := B3.cell 1; have b2 := B3.cell 2; have b3 := B3.cell 3; simp at b0 b1 b2 b3))
              have hrA : RowK kE w3 (fun k => wo.heap.size + 1 ≤ k) A1 s.wh := hr2.below hb3
              have C1 : Hid (∀ j, (wo.heap.size + 1 ≤ j) → w.heap.size + 2 ≤ j ∧ some j ≠ (Value.slice (some ⟨g, 0, none⟩) (xs.length + 1) cap).ownBlock) := by
                intro j hj
                refine ⟨by omega, fun e => ?_⟩
                have : j = g := by simpa [Value.ownBlock] using e
                omega
              have HOa : OwnK kS 55 w3 (w.heap.size + 2) (fun k => w.heap.size + 2 ≤ k) (.slice (some ⟨g, 0, none⟩) (xs.length + 1) cap) (xs ++ [last]) := H3.toK (RS.bel hb3 hKl)
              have hszw : wo.heap.size < w3.heap.size := Nat.lt_of_lt_of_le hz2 hb3.size
              go_wp2_with (at_builtin; go_loud (refine append_ownK kS (w.heap.size + 2) (fun k => w.heap.size + 2 ≤ k) (fun k => wo.heap.size + 1 ≤ k) rfl _ _ 25 55 _ 56 rfl Tryz.underlying25 info_Step rfl (.slice (some ⟨g, 0, none⟩) (xs.length + 1) cap) (xs ++ [last]) s [.int .i64 s.axis, .int .i64 s.test, .string s.name, .slice A1 s.wh.length c1] rfl rfl HOa (RS.of_rows hrA) C1.out (fun j hj => by omega) (by omega) (by simp; omega) (by decide) ?_; intro v1 w4 HO4 hg4 hat4))
              go_roundw
              case rel => exact ⟨k + 1, by omega, by go_num, by rw [HST.out]; exact HO4, (hbr2.trans (hb3.mono (by omega))).grown hg4 (by omega) (fun j hj => (HOa.lt j hj).1)⟩
              case measure => simp [intOf]; omega
            · rename_i tn
              obtain ⟨t, nm⟩ := tn
              have hput := putF_meet f xs last s hq hax hm
              rw [hput] at HST
              have HM := Lib.hid hm
              clear hq hput hax hm
              go_wp2_with fail
              go_region_held3 (fun w' => w'.cell? ⟨g, xs.length * 4, none⟩ = some (.int .i64 last.axis) ∧ w'.cell? ⟨g, xs.length * 4 + 1, none⟩ = some (.int .i64 last.test) ∧ w'.cell? ⟨g, xs.length * 4 + 2, none⟩ = some (.string last.name) ∧ w'.cell? ⟨g, xs.length * 4 + 3, none⟩ = some (.slice Al last.wh.length cl) ∧
                  w'.cell? ⟨wo.heap.size, 0, none⟩ = some (.int .i64 s.axis) ∧ w'.cell? ⟨wo.heap.size, 1, none⟩ = some (.int .i64 s.test) ∧ w'.cell? ⟨wo.heap.size, 2, none⟩ = some (.string s.name) ∧ w'.cell? ⟨wo.heap.size, 3, none⟩ = some (.slice A1 s.wh.length c1))
                (first | go_keep)
                (first | (go_at_call 48; refine (meet_any last s Al A1 cl c1 _).mono ?_; rintro e w3 ⟨hm3, hb3'⟩; have hb3 : Below w2.heap.size w2 w3 := Below.trans ((Below.refl _ _).drew) (hb3'.mono (by simp)); simp only [HM.out] at hm3; subst hm3; have H3 := HH.below hb3; have B3 := B2.below hb3; clear hb3'; have l0 := H3.cell 0 _ rfl; have l1 := H3.cell 1 _ rfl; have l2 := H3.cell 2 _ rfl; have l3 := H3.cell 3 _ rfl; simp only [show kS.sz = 4 from rfl, Nat.add_zero] at l0 l1 l2 l3; have b0 := B3.cell 0; have b1 := B3.cell 1; have b2 := B3.cell 2; have b3 := B3.cell 3; simp at b0 b1 b2 b3))
              have hwhl : wtEs last.wh + 1 ≤ wtS last := by cases last; simp only [wtS, Step.wh]; omega
              have hwhs : wtEs s.wh + 1 ≤ wtS s := by cases s; simp only [wtS, Step.wh]; omega
              have hsw : shEs last.wh = true ∧ shEs s.wh = true := ⟨by cases last; exact hshl.2, by cases s; exact hsS.1⟩
              have hlw := wtEs_len last.wh
              have hlw2 := wtEs_len s.wh
              have hEb : ∀ y ∈ last.wh ++ s.wh, Light f y ∧ ExprAt f y := by
                intro y hy
                rcases List.mem_append.1 hy with hy | hy
                · exact HE.out y ((shEs_iff _).1 hsw.1 y hy) (by have := wtEs_mem hy; omega)
                · exact HE.out y ((shEs_iff _).1 hsw.2 y hy) (by have := wtEs_mem hy; omega)
              have hspb : wtEs (spreadF f 0 (last.wh ++ s.wh)) ≤ 1000000 := by
                have := (spread_light f (.inl rfl) (last.wh ++ s.wh) (fun y hy => (hEb y hy).1)).2
                rw [wtEs_append] at this; omega
              have HEb := Lib.hid hEb
              clear hEb
              have lf3 := fun o => H3.frozen o
              have bf3 := fun o => B3.frozen o
              clear lf bf
              go_upto_region 14 with fail
              have H13 := (H3.set 1 (by decide) (.int .i64 t)).set 2 (by decide) (.string nm)
              have hC13 : Chg (fun k => k = g) w3 ((w3.setCell ⟨g, xs.length * 4 + 1, none⟩ (.int .i64 t)).setCell ⟨g, xs.length * 4 + 2, none⟩ (.string nm)) := Chg.set rfl (Chg.set rfl (Chg.refl _ _))
              have hBd := ((hbr2.trans (hb3.mono (by omega))).setCell (p := ⟨g, xs.length * 4 + 1, none⟩) hg1 (.int .i64 t)).setCell (p := ⟨g, xs.length * 4 + 2, none⟩) hg1 (.string nm)
              simp only [show kS.sz = 4 from rfl] at H13
              generalize hwd : (w3.setCell ⟨g, xs.length * 4 + 1, none⟩ (.int .i64 t)).setCell ⟨g, xs.length * 4 + 2, none⟩ (.string nm) = wd at *
              have B13 := B3.chg hC13 (fun e => hgB e.symm)
              have hrl13 : RowK kE wd (fun k => w.heap.size + 2 ≤ k ∧ k ≠ g) Al last.wh := (hrl.below hb3).chg hC13 (fun k hk => hk.2)
              have hrs13 : RowK kE wd (fun k => wo.heap.size + 1 ≤ k ∧ k < wd.heap.size) A1 s.wh := ((hr2.below hb3).chg hC13 (fun k hk e => by omega)).move (w1 := wd) (Nat.le_refl _) (fun _ _ _ => rfl)
              have l3' : wd.cell? ⟨g, xs.length * 4 + 3, none⟩ = some (.slice Al last.wh.length cl) := by have := H13.cell 3 _ rfl; simpa [show kS.sz = 4 from rfl] using this
              have lf' := fun o => H13.frozen o
              have b3' : wd.cell? ⟨wo.heap.size, 3, none⟩ = some (.slice A1 s.wh.length c1) := by have := B13.cell 3; simpa using this
              have hszd : wo.heap.size < wd.heap.size := B13.lt
              have hgd : g < wd.heap.size := H13.lt.2
              obtain ⟨both, hboth⟩ : ∃ l, l = last.wh ++ s.wh := ⟨_, rfl⟩
              rw [← hboth] at HEb hspb HST
              have HB := Lib.hid hboth
              clear hboth l0 l1 l2 l3 b0 b1 b2 b3 lf3 bf3 hwd H3 B3
              have HW : Hid (∀ (W : World) (A' : Option Addr) (c' : Nat) (ok' : Nat → Prop), RowK kE W ok' A' both → Calls Tryz.prog 46 #[.slice A' both.length c'] W fun e w' => ∃ A' c', e = .returned (.slice A' (andsF f both).length c') ∧ RowK kE w' (fun k => W.heap.size ≤ k) A' (andsF f both) ∧ Below W.heap.size W w') := by
                intro W A' c' ok' hW; exact where_any f both A' c' _ ok' hW (fun y hy => (HEb.out y hy).2) hspb
              go_region_law
                (first
                  | (refine step_append_rowK kE wd.heap.size (fun k => w.heap.size + 2 ≤ k) (fun k => w.heap.size + 2 ≤ k ∧ k ≠ g) rfl _ _ 53 64 _ 104 rfl Tryz.underlying53 info_Expr rfl (by decide) (.slice none 0 0) [] last.wh Al cl rfl rfl (OwnK.nil _ _ _ _ _) (hrl13.below ((Below.refl _ _).drew)) (fun j h1 h2 => ⟨h1.1, by simp [Value.ownBlock]⟩) (fun j h => by simp at h; omega) (by simp) (by simp; omega) ?_; intro v1 w4 HO4 hg4 hat4; have hB4 : Below wd.heap.size wd w4 := ((Below.refl wd.heap.size wd).drew).grown hg4 (by simp) (by simp [Value.ownBlock]); have k3 := (hB4.cell (p := ⟨g, xs.length * 4 + 3, none⟩) hgd).trans l3'; have k4 := (hB4.cell (p := ⟨wo.heap.size, 3, none⟩) hszd).trans b3'; have hlt4 := HO4.lt)
                  | (refine step_append_rowK kE wd.heap.size (fun k => w.heap.size + 2 ≤ k) (fun k => wo.heap.size + 1 ≤ k ∧ k < wd.heap.size) rfl _ _ 53 64 _ 104 rfl Tryz.underlying53 info_Expr rfl (by decide) v1 ([] ++ last.wh) s.wh A1 c1 rfl rfl HO4 (hrs13.below hB4) (fun j h1 h2 => ⟨by omega, fun e => by have := (hlt4 j e.symm).1; omega⟩) (fun j h => by have := hB4.size; omega) hB4.size (by simp; omega) ?_; intro v2 w5 HO5 hg5 hat5; have hB5 : Below wd.heap.size wd w5 := hB4.grown hg5 hB4.size (fun j hj => (hlt4 j hj).1); have HO5' : OwnK kE 64 w5 wd.heap.size (fun k => w.heap.size + 2 ≤ k) v2 both := (by rw [HB.out]; simpa using HO5); clear HO5; obtain ⟨A5, c5, rfl, hr5⟩ := HO5'.row; have k5 := (hB5.cell (p := ⟨g, xs.length * 4 + 3, none⟩) hgd).trans l3'; have k6 := (hB5.cell (p := ⟨wo.heap.size, 3, none⟩) hszd).trans b3')
                  | (go_simp; go_at_call 46; refine (HW.out _ A5 c5 _ hr5).mono ?_; rintro e w6 ⟨A6, c6, rfl, hr6, hb6⟩; have hB6 : Below wd.heap.size wd w6 := hB5.trans (hb6.mono hB5.size); have H16 := H13.below hB6; have lf6 := (fun o => H16.frozen o); have k7 := (hB6.cell (p := ⟨g, xs.length * 4 + 3, none⟩) hgd).trans l3'; have k8 := (hB6.cell (p := ⟨wo.heap.size, 3, none⟩) hszd).trans b3'))
              all_goals
                have H17 := H16.set 3 (by decide) (.slice A6 (andsF f both).length c6)
                have hr7 : RowK kE (w6.setCell ⟨g, xs.length * 4 + 3, none⟩ (.slice A6 (andsF f both).length c6)) (fun k => w.heap.size + 2 ≤ k ∧ k ≠ g) A6 (andsF f both) :=
                  (hr6.chg (p := fun k => k = g) (Chg.set rfl (Chg.refl _ _)) (fun k hk e => by have := hB5.size; omega)).mono (fun k hk => by have := hB5.size; have := hbo2.size; omega)
                have HKy : RS (w6.setCell ⟨g, xs.length * 4 + 3, none⟩ (.slice A6 (andsF f both).length c6)) (fun k => w.heap.size + 2 ≤ k ∧ k ≠ g) (.mk last.axis t nm (andsF f both)) [.int .i64 last.axis, .int .i64 t, .string nm, .slice A6 (andsF f both).length c6] := RS.of_rows (x := .mk last.axis t nm (andsF f both)) hr7
                have HK := OwnH.toK (y := Step.mk last.axis t nm (andsF f both)) H17 HKy
                have hbz := (hBd.trans (hB6.mono (by omega))).setCell (p := ⟨g, xs.length * 4 + 3, none⟩) hg1 (.slice A6 (andsF f both).length c6)
                clear lf6 k3 k4 k5 k6 k7 k8 l3' b3' lf'
                go_wp2_with fail
                go_roundw
                case rel => exact ⟨k + 1, by omega, by go_num, by rw [HST.out]; exact HK, hbz⟩
                case measure => simp [intOf]; omega
          · have hxb : (s.axis == 3) = false := by rw [beq_eq_false_iff_ne]; exact hax
            go_wp2_with fail
            refine (bare_any last Al cl 2 _).mono ?_
            rintro e w3 ⟨rfl, hb3⟩
            have H3 := HH.below hb3
            have B3 := B2.below hb3
            have l0 := H3.cell 0 _ rfl
            have l1 := H3.cell 1 _ rfl
            have l2 := H3.cell 2 _ rfl
            have l3 := H3.cell 3 _ rfl
            simp only [show kS.sz = 4 from rfl, Nat.add_zero] at l0 l1 l2 l3
            have b0 := (B3).cell 0
            have b1 := (B3).cell 1
            have b2 := (B3).cell 2
            have b3 := (B3).cell 3
            simp at b0 b1 b2 b3
            have bf := fun o => (B3).frozen o
            have lf := fun o => H3.frozen o
            have hz3 := B3.lt
            have hg3 : g < w3.heap.size := by omega
            cases hbd : bareF last 2
            · have hput := putF_else f xs last s hq hax hbd
              rw [hput] at HST
              clear hq hput hax hbd
              have hrA : RowK kE w3 (fun k => wo.heap.size + 1 ≤ k) A1 s.wh := hr2.below hb3
              have C1 : Hid (∀ j, (wo.heap.size + 1 ≤ j) → w.heap.size + 2 ≤ j ∧ some j ≠ (Value.slice (some ⟨g, 0, none⟩) (xs.length + 1) cap).ownBlock) := by
                intro j hj
                refine ⟨by omega, fun e => ?_⟩
                have : j = g := by simpa [Value.ownBlock] using e
                omega
              have HOa : OwnK kS 55 w3 (w.heap.size + 2) (fun k => w.heap.size + 2 ≤ k) (.slice (some ⟨g, 0, none⟩) (xs.length + 1) cap) (xs ++ [last]) := H3.toK (RS.bel hb3 hKl)
              have hszw : wo.heap.size < w3.heap.size := Nat.lt_of_lt_of_le hz2 hb3.size
              go_wp2_with (at_builtin; go_loud (refine append_ownK kS (w.heap.size + 2) (fun k => w.heap.size + 2 ≤ k) (fun k => wo.heap.size + 1 ≤ k) rfl _ _ 25 55 _ 56 rfl Tryz.underlying25 info_Step rfl (.slice (some ⟨g, 0, none⟩) (xs.length + 1) cap) (xs ++ [last]) s [.int .i64 s.axis, .int .i64 s.test, .string s.name, .slice A1 s.wh.length c1] rfl rfl HOa (RS.of_rows hrA) C1.out (fun j hj => by omega) (by omega) (by simp; omega) (by decide) ?_; intro v1 w4 HO4 hg4 hat4))
              go_roundw
              case rel => exact ⟨k + 1, by omega, by go_num, by rw [HST.out]; exact HO4, (hbr2.trans (hb3.mono (by omega))).grown hg4 (by omega) (fun j hj => (HOa.lt j hj).1)⟩
              case measure => simp [intOf]; omega
            · have hput := putF_dos f xs last s hq hax hbd
              rw [hput] at HST
              by_cases hc : s.axis = 0
              · have hcb : (s.axis == 0) = true := by rw [hc]; rfl
                rw [if_pos hc] at HST
                clear hq hput hax hbd hc
                have H4 := ((((((HHb.below hb3).chg (p := fun k => k = wo.heap.size) (Chg.set (ad := ⟨wo.heap.size, 0, none⟩) (u := .int .i64 1) rfl (Chg.refl _ _)) (fun k hk hl e => by omega)).mono (ok' := fun k => w.heap.size + 2 ≤ k) (fun _ h => h.1)).set 0 (by decide) (.int .i64 1)).set 1 (by decide) (.int .i64 s.test)).set 2 (by decide) (.string s.name)).set 3 (by decide) (.slice A1 s.wh.length c1)
                simp only [show kS.sz = 4 from rfl, Nat.add_zero] at H4
                have hC4 : Chg (fun k => k = g) (w3.setCell ⟨wo.heap.size, 0, none⟩ (.int .i64 1)) (((((w3.setCell ⟨wo.heap.size, 0, none⟩ (.int .i64 1)).setCell ⟨g, xs.length * 4, none⟩ (.int .i64 1)).setCell ⟨g, xs.length * 4 + 1, none⟩ (.int .i64 s.test)).setCell ⟨g, xs.length * 4 + 2, none⟩ (.string s.name)).setCell ⟨g, xs.length * 4 + 3, none⟩ (.slice A1 s.wh.length c1)) := Chg.set rfl (Chg.set rfl (Chg.set rfl (Chg.set rfl (Chg.refl _ _))))
                have hr7 := ((hr2.below hb3).chg (p := fun k => k = wo.heap.size) (Chg.set (ad := ⟨wo.heap.size, 0, none⟩) (u := .int .i64 1) rfl (Chg.refl _ _)) (fun k hk e => by omega)).chg hC4 (fun k hk e => by omega)
                have HKy := RS.of_rows (x := .mk 1 s.test s.name s.wh) (cw := c1) (hr7.mono (ok' := fun k => w.heap.size + 2 ≤ k ∧ k ≠ g) (fun k hk => by omega))
                have HK := OwnH.toK (y := Step.mk 1 s.test s.name s.wh) H4 HKy
                have hbz := ((hbr2.trans (hb3.mono (by omega))).setCell (p := ⟨wo.heap.size, 0, none⟩) hszo (.int .i64 1)).trans ((hC4.below (B := w.heap.size + 2) (by simp; omega) (fun k hk => by omega)))
                go_wp2_with fail
                go_roundw
                case rel => exact ⟨k + 1, by omega, by go_num, by rw [HST.out]; exact HK, hbz⟩
                case measure => simp [intOf]; omega
              · have hcb : (s.axis == 0) = false := by rw [beq_eq_false_iff_ne]; exact hc
                rw [if_neg hc] at HST
                clear hq hput hax hbd hc
                have H4 := ((((H3).set 0 (by decide) (.int .i64 s.axis)).set 1 (by decide) (.int .i64 s.test)).set 2 (by decide) (.string s.name)).set 3 (by decide) (.slice A1 s.wh.length c1)
                simp only [show kS.sz = 4 from rfl, Nat.add_zero] at H4
                have hC4 : Chg (fun k => k = g) w3 ((((w3.setCell ⟨g, xs.length * 4, none⟩ (.int .i64 s.axis)).setCell ⟨g, xs.length * 4 + 1, none⟩ (.int .i64 s.test)).setCell ⟨g, xs.length * 4 + 2, none⟩ (.string s.name)).setCell ⟨g, xs.length * 4 + 3, none⟩ (.slice A1 s.wh.length c1)) := Chg.set rfl (Chg.set rfl (Chg.set rfl (Chg.set rfl (Chg.refl _ _))))
                have hr7 := (hr2.below hb3).chg hC4 (fun k hk e => by omega)
                have HKy := RS.of_rows (x := .mk s.axis s.test s.name s.wh) (cw := c1) (hr7.mono (ok' := fun k => w.heap.size + 2 ≤ k ∧ k ≠ g) (fun k hk => by omega))
                have HK := OwnH.toK (y := Step.mk s.axis s.test s.name s.wh) H4 HKy
                rw [show Step.mk s.axis s.test s.name s.wh = s from by cases s; rfl] at HK
                have hbz := (hbr2.trans (hb3.mono (by omega))).trans ((hC4.below (B := w.heap.size + 2) (by omega) (fun k hk => by omega)))
                go_wp2_with fail
                go_roundw
                case rel => exact ⟨k + 1, by omega, by go_num, by rw [HST.out]; exact HK, hbz⟩
                case measure => simp [intOf]; omega
      · have hput : putF f acc s = acc := by unfold putF; rw [if_pos hq]
        rw [hput] at HST
        clear hq hput
        obtain ⟨A3, c3, rfl, -⟩ := HO2.row
        go_wp2_with fail
        go_roundw
        case rel => exact ⟨k + 1, by omega, by go_num, by rw [HST.out]; exact HO2, hbr2⟩
        case measure => simp [intOf]; omega
    · have htk : p.take k = p := List.take_of_length_le (by omega)
      rw [htk] at HO
      have hB0 := Blk.new (w.alloc (Obj.cells #[Value.slice A p.length ca] 27)) #[.slice none 0 0] 27
      rw [World.size_alloc] at hB0
      have BR : Blk wo (w.heap.size + 1) #[.slice none 0 0] 27 := (hbr0.block _ (by omega)).trans hB0
      clear hB0
      have hlw := steps_light f p [] N (by simp [shP]) hp (by simp only [wtP]; omega) (fun x h1 h2 => (HE.out x h1 h2).1)
      have hlw2 : wtP (stepsF f p) ≤ wtP p := by have := hlw.2; simp only [wtP, Nat.zero_add] at this; exact this
      have hal := wtP_len (stepsF f p)
      clear hlw htk
      by_cases hnil : (stepsF f p).isEmpty = true
      · have hrr : r = [sPoint] := by rw [← HR.out]; unfold pathF; rw [if_pos hnil]
        have hnl : stepsF f p = [] := by simpa using hnil
        rw [hnl] at HO
        have HRR := Lib.hid hrr
        clear hrr hnil hnl
        obtain ⟨A3, c3, rfl, -⟩ := HO.row
        have hn0 : (([] : List Step).length : Int) = 0 := rfl
        clear hn0
        go_wp2_with fail
        refine (point_any _).mono ?_
        rintro e w1 ⟨cs, rfl, hR1, hb1⟩
        obtain ⟨Ap, cp, rfl, -⟩ := hR1.rows
        have HO1 := HO.below hb1
        have BR1 := BR.below hb1
        have hsz1 := hb1.size
        have C1 : Hid (∀ j, (wo.heap.size ≤ j) → w.heap.size + 2 ≤ j ∧ some j ≠ (Value.slice A3 ([] : List Step).length c3).ownBlock) := by
          intro j hj
          refine ⟨by omega, fun e => ?_⟩
          have := (HO.lt j e.symm).2
          omega
        go_wp2_with (at_builtin; go_loud (refine append_ownK kS (w.heap.size + 2) (fun k => w.heap.size + 2 ≤ k) (fun k => wo.heap.size ≤ k) rfl _ _ 25 55 _ 56 rfl Tryz.underlying25 info_Step rfl (.slice A3 ([] : List Step).length c3) [] sPoint [.int .i64 sPoint.axis, .int .i64 sPoint.test, .string sPoint.name, .slice Ap sPoint.wh.length cp] rfl rfl HO1 hR1 C1.out (fun j hj => by omega) (by omega) (by simp) (by decide) ?_; intro v1 w3 HO3 hg3 hat3; obtain ⟨A5, c5, rfl, hrow5⟩ := HO3.row; have BR3 := BR1.grown hg3 (fun e => by have := (HO1.lt _ e.symm).1; omega); have hq := (fun o => BR3.cell o); have hf := (fun o => BR3.frozen o)))
        have h0 := hq 0
        simp at h0
        clear hq
        go_wp2_with fail
        have hB3 : Below w.heap.size w w3 := (hbr.trans (hb1.mono (by omega))).grown hg3 (by omega) (fun j hj => by have := (HO1.lt j hj).1; omega)
        refine bodyPost_ret (v := .agg #[.slice A5 ([] ++ [sPoint] : List Step).length c5]) ?h1 rfl ⟨A5, c5, by rw [HRR.out]; rfl, ?h2, ?h3⟩
        case h1 => simp [results, Tryz.results25, go_sem, h0]
        case h3 => exact (by repeat' (first | with_reducible exact Below.refl _ _ | with_reducible assumption | with_reducible refine Below.alloc ?_ ?_ _ | with_reducible refine Below.setCell ?_ ?_ _ | with_reducible refine Below.drew ?_ | with_reducible refine below_dn ?_ | omega | (simp; done) | (simp; omega)))
        case h2 =>
          rw [HRR.out]
          exact (hrow5.chg (p := fun k => k = w.heap.size + 1) (by repeat' (first | with_reducible exact Chg.refl _ _ | with_reducible assumption | with_reducible refine Chg.al ?_ | with_reducible refine Chg.set ?_ ?_ | with_reducible refine Chg.dr ?_ | with_reducible refine Chg.dn ?_ | with_reducible rfl | omega | (simp; done) | (simp; omega))) (by intro k hk; omega)).mono (by intro k hk; omega)
      · have hrr : r = stepsF f p := by rw [← HR.out]; unfold pathF; rw [if_neg hnil]
        have hln : ((stepsF f p).length == 0) = false := by rw [beq_eq_false_iff_ne]; intro h; exact hnil (by simp [List.eq_nil_of_length_eq_zero h])
        have hli : (((stepsF f p).length : Int) == 0) = false := by rw [beq_eq_false_iff_ne] at *; omega
        rw [← hrr] at HO hln hli
        clear hrr hnil hln
        obtain ⟨A3, c3, rfl, hrow5⟩ := HO.row
        have h0 := BR.cell 0
        simp at h0
        have hf := fun o => BR.frozen o
        go_wp2_with fail
        refine bodyPost_ret (v := .agg #[.slice A3 r.length c3]) ?h1 rfl ⟨A3, c3, rfl, ?h2, ?h3⟩
        case h1 => simp [results, Tryz.results25, go_sem, h0]
        case h3 => exact (by repeat' (first | with_reducible exact Below.refl _ _ | with_reducible assumption | with_reducible refine Below.alloc ?_ ?_ _ | with_reducible refine Below.setCell ?_ ?_ _ | with_reducible refine Below.drew ?_ | with_reducible refine below_dn ?_ | omega | (simp; done) | (simp; omega)))
        case h2 => exact (hrow5.chg (p := fun k => k = w.heap.size + 1) (by repeat' (first | with_reducible exact Chg.refl _ _ | with_reducible assumption | with_reducible refine Chg.al ?_ | with_reducible refine Chg.set ?_ ?_ | with_reducible refine Chg.dr ?_ | with_reducible refine Chg.dn ?_ | with_reducible rfl | omega | (simp; done) | (simp; omega))) (by intro k hk; omega)).mono (by intro k hk; omega)

theorem frag_all (N : Nat) (hN : N ≤ 1000000) : ∀ n, n ≤ N → ∀ x, shE x = true → wtE x ≤ n → ExprAt (normE n) x := by
  intro n
  induction n with
  | zero => intro _ x hx hw; have := wtE_pos x; omega
  | succ n ih =>
    intro hn x hx hw
    have ih := ih (by omega)
    have hE : ∀ y, shE y = true → wtE y ≤ n → Light (normE n) y ∧ ExprAt (normE n) y := fun y h1 h2 => ⟨norm_light n y h1 h2, ih y h1 h2⟩
    show ExprAt (exprF (normE n) (pathF (normE n))) x
    have hargs : ∀ y ∈ x.args, Light (normE n) y ∧ ExprAt (normE n) y := by
      intro y hy
      obtain ⟨op, xs, ps, a, c, t, m⟩ := x
      simp only [Expr.args] at hy
      simp only [shE] at hx
      simp only [wtE] at hw
      refine hE y ?_ (by have := wtEs_mem hy; omega)
      split at hx
      · simp at hx; exact (shEs_iff xs).1 hx.1.2 y hy
      · split at hx
        · simp at hx; exact (shEs_iff xs).1 hx.1.2 y hy
        · simp at hx; rw [hx.1.1.2] at hy; cases hy
    obtain ⟨op, xs, ps, a, c, t, m⟩ := x
    by_cases h0 : op = 0
    · exact expr_ands _ _ h0 (by omega) (fun y hy => (hargs y hy).1) (fun y hy => (hargs y hy).2)
    by_cases h1 : op = 1
    · exact expr_ors _ _ h1 (by omega) (fun y hy => (hargs y hy).1) (fun y hy => (hargs y hy).2)
    by_cases h2 : op = 2
    · refine expr_not _ _ h2 ?_ (fun y hy => (hargs y hy).1) (fun y hy => (hargs y hy).2)
      subst h2; simp [shE] at hx; exact hx.1.1
    · have h01 : ¬ (op = 0 ∨ op = 1) := by omega
      simp only [shE, h01, h2, if_false, Bool.and_eq_true, decide_eq_true_eq, List.isEmpty_iff] at hx
      obtain ⟨⟨⟨h3, h4⟩, hl⟩, hp⟩ := hx
      exact expr_some _ _ h3 h4 (path_any (normE n) n (by omega) hE ps hp (by simp only [wtE] at hw; omega))
/-- frag.path on a path of a query's shape: its normal form -/
theorem frag_path (N : Nat) (hN : N ≤ 1000000) (p : List Step) (hp : shP p = true) (hw : wtP p ≤ N) : PathAt (normE N) p :=
  path_any (normE N) N hN (fun y h1 h2 => ⟨norm_light N y h1 h2, frag_all N hN N (Nat.le_refl _) y h1 h2⟩) p hp hw
end Go.Proofs.YtbbmmeaicilabaaGreatDoor
