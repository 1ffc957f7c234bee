/- gimletref13: dos, meet, Path. Conditions: the path lies in memory as a tree of a query's shape; what Expr answers one level below is known. -/
import Derived.Test.YtbbmmeaicilabaaGreatDoorQGu
import Derived.Test.YtbbmmeaicilabaaGreatDoorQGk
set_option linter.unusedVariables false
set_option linter.unusedSimpArgs false
namespace Go.Proofs.YtbbmmeaicilabaaGreatDoor
open Go.RowKit

set_option maxHeartbeats 1000000 in
theorem dos_any (s : Step) (Aw : Option Addr) (cw : Nat) (w : World) :
    Calls Tryz.prog 58 #[.agg ([.int .i64 s.axis, .int .i64 s.test, .string s.name, .slice Aw s.wh.length cw]).toArray] w fun e w' => e = .returned (.bool (bareF s 2)) ∧ Below w.heap.size w w' := by
  go_enter Tryz.func58, Tryz.ntmps58
  go_wp2_with fail
  all_goals
    go_ret
    exact ⟨by simp [bareF, len_isEmpty, *], bl1 (Nat.le_refl _)⟩

set_option maxHeartbeats 4000000 in
theorem rmeet_any (s t : Step) (Aw Bw : Option Addr) (cw dw : Nat) (w : World) :
    Calls Tryz.prog 57 #[.agg ([.int .i64 s.axis, .int .i64 s.test, .string s.name, .slice Aw s.wh.length cw]).toArray, .agg ([.int .i64 t.axis, .int .i64 t.test, .string t.name, .slice Bw t.wh.length dw]).toArray] w (MeetRes s t w) := by
  go_enter Tryz.func57, Tryz.ntmps57
  go_wp2_with fail
  all_goals try (go_quiet (fail); go_wp2_with fail)
  all_goals
    go_ret3
    refine ⟨?_, (by repeat' (first | with_reducible exact Below.refl _ _ | with_reducible assumption | with_reducible refine Below.alloc ?_ ?_ _ | with_reducible refine Below.setCell ?_ ?_ _ | with_reducible refine Below.drew ?_ | with_reducible refine below_dn ?_ | omega | (simp; done) | (simp; omega)))⟩
    simp_all [meetF, str_eq]

theorem OwnK.empty {α : Type} (d : Knd α) (e : TypeId) (w : World) (ok : Nat → Prop) (h : ok w.heap.size) : OwnK d e (w.alloc (.cells #[] e)) w.heap.size ok (.slice (some ⟨w.heap.size, 0, none⟩) 0 0) ([] : List α) :=
  ⟨fun k hk => by simp [Value.ownBlock] at hk; subst hk; exact h, [], ⟨by simp, .inr ⟨w.heap.size, 0, #[], rfl, Nat.le_refl _, heap_alloc_new w _, Nat.le_refl _, by simp [maxLen], by simp, by simp⟩⟩, fun j p hj => by simp at hj⟩

set_option maxRecDepth 100000 in
set_option maxHeartbeats 32000000 in
theorem rpath_any (f : Expr → Expr) (N : Nat) (hN : N ≤ 1000000) (hE : ∀ y, shE y = true → wtE y ≤ N → Light f y ∧ RefAt f y) (p : List Step) (hp : shP p = true) (hw : wtP p ≤ N) : RPathAt f p := by
  intro A ca w ok hrow
  have hlen := hrow.len
  have HE := Lib.hid hE
  clear hE
  generalize hr : pathF f p = r
  have HR := Lib.hid hr
  clear hr
  go_enter Tryz.func33, Tryz.ntmps33
  go_wp2_with fail
  go_loopw [3, 4] (fun v3 i wr => ∃ k : Nat, k ≤ p.length ∧ i = .int .i64 k ∧ OwnK kS 55 wr (w.heap.size + 2) (fun k => w.heap.size + 2 ≤ k) v3 (stepsF f (p.take k)) ∧ Below (w.heap.size + 2) ((w.alloc (Obj.cells #[Value.slice A p.length ca] 27)).alloc (Obj.cells #[Value.slice none 0 0] 27)) wr) (fun _ i _ => p.length - (intOf i).toNat)
  case atStart => exact ⟨0, Nat.zero_le _, rfl, OwnK.nil _ _ _ _ _, Below.refl _ _⟩
  case round =>
    obtain ⟨k, hk, rfl, HO, hbr0⟩ := hrel
    obtain ⟨wo, rfl⟩ : ∃ wo : World, wo = wr := ⟨_, rfl⟩
    have hbr : Below w.heap.size w wo := (bl2 (Nat.le_refl _)).trans (hbr0.mono (by omega))
    have hszo : w.heap.size + 2 ≤ wo.heap.size := by have := hbr0.size; simp at this; omega
    have hc0 : wo.cell? ⟨w.heap.size, 0, none⟩ = some (.slice A p.length ca) := by rw [hbr0.cell (p := ⟨w.heap.size, 0, none⟩) (by simp)]; simp [go_sem]
    by_cases hlt : k < p.length
    · obtain ⟨s0, b, off, Aw, cw, HX, rfl, hbw, hR, x0, x1, x2, x3⟩ := (hrow.below hbr).atS k hlt
      have hbb : b ≠ wo.heap.size := by omega
      have hst := steps_take f p k hlt
      rw [HX.out] at hst
      have hshs : shS s0 = true := by rw [← HX.out]; exact (shP_iff p).1 hp _ (List.getElem_mem hlt)
      have hw1 := wtP_take p k hlt
      have hw2 := wtP_take_le p (k + 1)
      rw [HX.out] at hw1
      have hlight := steps_light f (p.take k) [] N (by simp [shP]) (by rw [shP_iff] at *; exact fun x hx => hp x (List.mem_of_mem_take hx)) (by simp only [wtP]; omega) (fun x h1 h2 => (HE.out x h1 h2).1)
      have hE0 : ∀ y ∈ s0.wh, Light f y ∧ RefAt f y := by
        intro y hy
        obtain ⟨a, t, n, wh⟩ := s0
        simp only [Step.wh, shS, wtS] at *
        exact HE.out y ((shEs_iff _).1 hshs y hy) (by have := wtEs_mem hy; omega)
      have hands := ands_light f s0.wh (fun y hy => (hE0 y hy).1)
      have hwS : wtEs s0.wh + 1 ≤ wtS s0 := by cases s0; simp only [wtS, Step.wh]; omega
      have hsp0 : wtEs (spreadF f 0 s0.wh) ≤ 1000000 := by have := (spread_light f (.inl rfl) s0.wh (fun y hy => (hE0 y hy).1)).2; omega
      obtain ⟨Aw', cw', he, hrw⟩ := hR.rows
      obtain ⟨rfl, rfl⟩ : Aw = Aw' ∧ cw = cw' := by simpa using he
      obtain ⟨s, hs⟩ : ∃ s, s = whF f s0 := ⟨_, rfl⟩
      have e1 : s0.axis = s.axis := by rw [hs]; rfl
      have e2 : s0.test = s.test := by rw [hs]; rfl
      have e3 : s0.name = s.name := by rw [hs]; rfl
      have e4 : andsF f s0.wh = s.wh := by rw [hs]; rfl
      rw [e1] at x0
      rw [e2] at x1
      rw [e3] at x2
      rw [← hs] at hst
      have hsS : shS s = true ∧ wtS s ≤ wtS s0 := by
        rw [hs]; obtain ⟨a2, t2, n2, w2⟩ := s0
        exact ⟨hands.1, by have := hands.2; simp only [whF, wtS, Step.wh, Step.name] at *; omega⟩
      have HW : Hid (∀ (W : World), RowK kE W ok Aw s0.wh → Calls Tryz.prog 56 #[.slice Aw s0.wh.length cw] W fun e w' => ∃ A' c', e = .returned (.slice A' s.wh.length c') ∧ RowK kE w' (fun k => W.heap.size ≤ k) A' s.wh ∧ Below W.heap.size W w') := by
        intro W hW; rw [← e4]; exact rwhere_any f s0.wh Aw cw _ ok hW (fun y hy => (hE0 y hy).2) hsp0
      have HST := Lib.hid hst
      have HL1 : shP (stepsF f (p.take k)) = true := hlight.1
      have HL2 : wtP (stepsF f (p.take k)) ≤ wtP (p.take k) := by have := hlight.2; simp only [wtP, Nat.zero_add] at this; exact this
      have hal := wtP_len (stepsF f (p.take k))
      clear he hE0 hst hlight hp hands hsp0 hwS hshs hs e1 e2 e3 e4 HX
      generalize stepsF f (p.take k) = acc at *
      go_wp2_with fail
      refine (HW.out _ hrw.al).mono ?_
      rintro e w1 ⟨A1, c1, rfl, hr1, hb1⟩
      have hl1 := hr1.len
      have B1 := (Blk.new wo #[.int .i64 s.axis, .int .i64 s.test, .string s.name, .slice Aw s0.wh.length cw] 55).below hb1
      have d0 := (B1).cell 0
      have d1 := (B1).cell 1
      have d2 := (B1).cell 2
      have d3 := (B1).cell 3
      simp at d0 d1 d2 d3
      have df := fun o => (B1).frozen o
      have hz1 := B1.lt
      have hbo1 : Below wo.heap.size wo w1 := al1 (Nat.le_refl _) hb1
      have hbo2' : Below wo.heap.size wo (w1.setCell ⟨wo.heap.size, 3, none⟩ (.slice A1 s.wh.length c1)) := hbo1.setCell (p := ⟨wo.heap.size, 3, none⟩) (Nat.le_refl _) _
      have B1' := B1.set 3 (.slice A1 s.wh.length c1)
      simp at B1'
      have hr2' : RowK kE (w1.setCell ⟨wo.heap.size, 3, none⟩ (.slice A1 s.wh.length c1)) (fun k => wo.heap.size + 1 ≤ k) A1 s.wh := (hr1.mono (ok' := fun k => wo.heap.size + 1 ≤ k) (by simp)).chg (p := fun k => k = wo.heap.size) (Chg.set (ad := ⟨wo.heap.size, 3, none⟩) rfl (Chg.refl _ _)) (by intro k hk; omega)
      have hlb : ((s.wh.length : Int) == 0) = s.wh.isEmpty := len_isEmpty s.wh
      clear x0 x1 x2 x3 HW
      go_upto_region 7 with fail
      go_cut [40] (fun v wx => v = .bool (bareF s 3) ∧ Below wo.heap.size wo wx ∧ Blk wx wo.heap.size #[.int .i64 s.axis, .int .i64 s.test, .string s.name, .slice A1 s.wh.length c1] 55 ∧ RowK kE wx (fun k => wo.heap.size + 1 ≤ k) A1 s.wh)
      case first =>
        go_wp2_with fail
        all_goals
          go_meet
          case rel => exact ⟨by simp [bareF, *], hbo2', B1', hr2'⟩
      case rest =>
      obtain ⟨rfl, hbo2, B2, hr2⟩ := hcut
      obtain ⟨w2, rfl⟩ : ∃ w2 : World, w2 = wc := ⟨_, rfl⟩
      clear d0 d1 d2 d3 df B1' B1 hr1 hb1 hbo1 hbo2' hr2' hlb
      have HO2 := HO.below hbo2
      have HO2b := (HO.move (w1 := wo) (Nat.le_refl _) (fun _ _ _ => rfl)).below hbo2
      have b0 := (B2).cell 0
      have b1 := (B2).cell 1
      have b2 := (B2).cell 2
      have b3 := (B2).cell 3
      simp at b0 b1 b2 b3
      have bf := fun o => (B2).frozen o
      have hz2 := B2.lt
      have hbr2 := hbr0.trans (hbo2.mono hszo)
      have hv3 : ∀ j, u3.ownBlock = some j → j < wo.heap.size := fun j hj => (HO.lt j hj).2
      cases hq : bareF s 3
      · rcases snoc_cases acc with rfl | ⟨xs, last, rfl⟩
        · have hput := putF_nil f s hq
          rw [hput] at HST
          clear hq hput
          obtain ⟨A3, c3, rfl, -⟩ := HO2.row
          have C1 : Hid (∀ j, (wo.heap.size + 1 ≤ j) → w.heap.size + 2 ≤ j ∧ some j ≠ (Value.slice A3 ([] : List Step).length c3).ownBlock) := by
            intro j hj
            refine ⟨by omega, fun e => ?_⟩
            have := hv3 j e.symm
            omega
          go_wp2_with (at_builtin; go_loud (refine append_ownK kS (w.heap.size + 2) (fun k => w.heap.size + 2 ≤ k) (fun k => wo.heap.size + 1 ≤ k) rfl _ _ 25 55 _ 56 rfl Tryz.underlying25 info_Step rfl (.slice A3 ([] : List Step).length c3) [] s [.int .i64 s.axis, .int .i64 s.test, .string s.name, .slice A1 s.wh.length c1] rfl rfl HO2 (RS.of_rows hr2) C1.out (fun j hj => by omega) (by omega) (by simp) (by decide) ?_; intro v1 w3 HO3 hg3 hat3))
          go_roundw
          case rel => exact ⟨k + 1, by omega, by go_num, by rw [HST.out]; exact HO3, hbr2.grown hg3 (by omega) (fun j hj => (HO2.lt j hj).1)⟩
          case measure => simp [intOf]; omega
        · obtain ⟨g, cap, L, rfl, HHb, hKlb, hg1, hg2⟩ := HO2b.toH
          have HH := HHb.mono (ok' := fun k => w.heap.size + 2 ≤ k) (fun _ h => h.1)
          have hKl : RS w2 (fun k => w.heap.size + 2 ≤ k ∧ k ≠ g) last L := RS.mono (fun k h => ⟨h.1.1, h.2⟩) hKlb
          clear hKlb
          have hgo : g < wo.heap.size := hv3 g rfl
          obtain ⟨Al, cl, rfl, hrl⟩ := RS.rows hKl
          have l0 := HH.cell 0 _ rfl
          have l1 := HH.cell 1 _ rfl
          have l2 := HH.cell 2 _ rfl
          have l3 := HH.cell 3 _ rfl
          simp only [show kS.sz = 4 from rfl, Nat.add_zero] at l0 l1 l2 l3
          have lf := fun o => HH.frozen o
          have hgB : g ≠ wo.heap.size := by omega
          have hln : ((xs.length : Int) + 1 == 0) = false := by rw [beq_eq_false_iff_ne]; omega
          have hix0 : (0 : Int) ≤ xs.length := by omega
          have hix1 : (xs.length : Int) < (xs.length + 1 : Nat) := by omega
          have hix2 : (xs.length : Int) < xs.length + 1 := by omega
          have hshl : shP xs = true ∧ shS last = true := by rw [shP_append] at HL1; simpa [shP] using HL1
          have hwtl : wtP xs + wtS last ≤ wtP (p.take k) := by rw [wtP_append] at HL2; simpa [wtP] using HL2
          have hxl := wtP_len xs
          by_cases hax : s.axis = 3
          · have hxb : (s.axis == 3) = true := by rw [hax]; rfl
            cases hm : meetF last s
            · have hput := putF_self f xs last s hq hax hm
              rw [hput] at HST
              have HM := Lib.hid hm
              clear hq hput hax hm
              go_wp2_with fail
              go_region_held3 (fun w' => w'.cell? ⟨g, xs.length * 4, none⟩ = some (.int .i64 last.axis) ∧ w'.cell? ⟨g, xs.length * 4 + 1, none⟩ = some (.int .i64 last.test) ∧ w'.cell? ⟨g, xs.length * 4 + 2, none⟩ = some (.string last.name) ∧ w'.cell? ⟨g, xs.length * 4 + 3, none⟩ = some (.slice Al last.wh.length cl) ∧
                  w'.cell? ⟨wo.heap.size, 0, none⟩ = some (.int .i64 s.axis) ∧ w'.cell? ⟨wo.heap.size, 1, none⟩ = some (.int .i64 s.test) ∧ w'.cell? ⟨wo.heap.size, 2, none⟩ = some (.string s.name) ∧ w'.cell? ⟨wo.heap.size, 3, none⟩ = some (.slice A1 s.wh.length c1))
                (first | go_keep)
                (first | (go_at_call 57; refine (rmeet_any last s Al A1 cl c1 _).mono ?_; rintro e w3 ⟨hm3, hb3'⟩; have hb3 : Below w2.heap.size w2 w3 := Below.trans ((Below.refl _ _).drew) (hb3'.mono (by simp)); simp only [HM.out] at hm3; subst hm3; have H3 := HH.below hb3; have B3 := B2.below hb3; clear hb3'; have l0 := H3.cell 0 _ rfl; have l1 := H3.cell 1 _ rfl; have l2 := H3.cell 2 _ rfl; have l3 := H3.cell 3 _ rfl; simp only [show kS.sz = 4 from rfl, Nat.add_zero] at l0 l1 l2 l3; have b0 := B3.cell 0; have b1 := B3.cell 1; have b2 := B3.cell 2; have b3 := B3.cell 3; simp at b0 b1 b2 b3))
              clear lf bf
              go_wp2_with fail
              refine (dos_any last Al cl _).mono ?_
              rintro e w4 ⟨rfl, hb4⟩
              have H4 := H3.below hb4
              have B4 := B3.below hb4
              have q0 := (B4).cell 0
              have q1 := (B4).cell 1
              have q2 := (B4).cell 2
              have q3 := (B4).cell 3
              simp at q0 q1 q2 q3
              have qf := fun o => (B4).frozen o
              have hb24 : Below w2.heap.size w2 w4 := hb3.trans (hb4.mono hb3.size)
              have hrA : RowK kE w4 (fun k => wo.heap.size + 1 ≤ k) A1 s.wh := hr2.below hb24
              have C1 : Hid (∀ j, (wo.heap.size + 1 ≤ j) → w.heap.size + 2 ≤ j ∧ some j ≠ (Value.slice (some ⟨g, 0, none⟩) (xs.length + 1) cap).ownBlock) := by
                intro j hj
                refine ⟨by omega, fun e => ?_⟩
                have : j = g := by simpa [Value.ownBlock] using e
                omega
              have HOa : OwnK kS 55 w4 (w.heap.size + 2) (fun k => w.heap.size + 2 ≤ k) (.slice (some ⟨g, 0, none⟩) (xs.length + 1) cap) (xs ++ [last]) := H4.toK (RS.bel hb24 hKl)
              have hszw : wo.heap.size < w4.heap.size := Nat.lt_of_lt_of_le hz2 hb24.size
              clear l0 l1 l2 l3 b0 b1 b2 b3
              cases hbd : bareF last 2
              all_goals
                clear hbd
                go_wp2_with (at_builtin; go_loud (refine append_ownK kS (w.heap.size + 2) (fun k => w.heap.size + 2 ≤ k) (fun k => wo.heap.size + 1 ≤ k) rfl _ _ 25 55 _ 56 rfl Tryz.underlying25 info_Step rfl (.slice (some ⟨g, 0, none⟩) (xs.length + 1) cap) (xs ++ [last]) s [.int .i64 s.axis, .int .i64 s.test, .string s.name, .slice A1 s.wh.length c1] rfl rfl HOa (RS.of_rows hrA) C1.out (fun j hj => by omega) (by omega) (by simp; omega) (by decide) ?_; intro v1 w5 HO5 hg5 hat5))
                go_roundw
                case rel => exact ⟨k + 1, by omega, by go_num, by rw [HST.out]; exact HO5, (hbr2.trans (hb24.mono (by omega))).grown hg5 (by omega) (fun j hj => (HOa.lt j hj).1)⟩
                case measure => simp [intOf]; omega
            · rename_i tn
              obtain ⟨t, nm⟩ := tn
              have hput := putF_meet f xs last s hq hax hm
              rw [hput] at HST
              have HM := Lib.hid hm
              clear hq hput hax hm
              go_wp2_with fail
              go_region_held3 (fun w' => w'.cell? ⟨g, xs.length * 4, none⟩ = some (.int .i64 last.axis) ∧ w'.cell? ⟨g, xs.length * 4 + 1, none⟩ = some (.int .i64 last.test) ∧ w'.cell? ⟨g, xs.length * 4 + 2, none⟩ = some (.string last.name) ∧ w'.cell? ⟨g, xs.length * 4 + 3, none⟩ = some (.slice Al last.wh.length cl) ∧
                  w'.cell? ⟨wo.heap.size, 0, none⟩ = some (.int .i64 s.axis) ∧ w'.cell? ⟨wo.heap.size, 1, none⟩ = some (.int .i64 s.test) ∧ w'.cell? ⟨wo.heap.size, 2, none⟩ = some (.string s.name) ∧ w'.cell? ⟨wo.heap.size, 3, none⟩ = some (.slice A1 s.wh.length c1))
                (first | go_keep)
                (first | (go_at_call 57; refine (rmeet_any last s Al A1 cl c1 _).mono ?_; rintro e w3 ⟨hm3, hb3'⟩; have hb3 : Below w2.heap.size w2 w3 := Below.trans ((Below.refl _ _).drew) (hb3'.mono (by simp)); simp only [HM.out] at hm3; subst hm3; have H3 := HH.below hb3; have B3 := B2.below hb3; clear hb3'; have l0 := H3.cell 0 _ rfl; have l1 := H3.cell 1 _ rfl; have l2 := H3.cell 2 _ rfl; have l3 := H3.cell 3 _ rfl; simp only [show kS.sz = 4 from rfl, Nat.add_zero] at l0 l1 l2 l3; have b0 := B3.cell 0; have b1 := B3.cell 1; have b2 := B3.cell 2; have b3 := B3.cell 3; simp at b0 b1 b2 b3))
              have hwhl : wtEs last.wh + 1 ≤ wtS last := by cases last; simp only [wtS, Step.wh]; omega
              have hwhs : wtEs s.wh + 1 ≤ wtS s := by cases s; simp only [wtS, Step.wh]; omega
              have hsw : shEs last.wh = true ∧ shEs s.wh = true := ⟨by cases last; exact hshl.2, by cases s; exact hsS.1⟩
              have hlw := wtEs_len last.wh
              have hlw2 := wtEs_len s.wh
              have hEb : ∀ y ∈ last.wh ++ s.wh, Light f y ∧ RefAt f y := by
                intro y hy
                rcases List.mem_append.1 hy with hy | hy
                · exact HE.out y ((shEs_iff _).1 hsw.1 y hy) (by have := wtEs_mem hy; omega)
                · exact HE.out y ((shEs_iff _).1 hsw.2 y hy) (by have := wtEs_mem hy; omega)
              have hspb : wtEs (spreadF f 0 (last.wh ++ s.wh)) ≤ 1000000 := by
                have := (spread_light f (.inl rfl) (last.wh ++ s.wh) (fun y hy => (hEb y hy).1)).2
                rw [wtEs_append] at this; omega
              have HEb := Lib.hid hEb
              clear hEb
              have lf3 := fun o => H3.frozen o
              have bf3 := fun o => B3.frozen o
              clear lf bf
              have hgw3 : g ≠ w3.heap.size := by have := hb3.size; omega
              have hbw3 : wo.heap.size ≠ w3.heap.size := by have := hb3.size; omega
              have hgd : g < w3.heap.size := H3.lt.2
              have hszd : wo.heap.size < w3.heap.size := B3.lt
              have HO0 := OwnK.empty kE 64 w3 (fun k => w.heap.size + 2 ≤ k) (by have := H3.lt.2; have := hb3.size; omega)
              have hrl3 : RowK kE w3 (fun k => (w.heap.size + 2 ≤ k ∧ k ≠ g) ∧ k < w3.heap.size) Al last.wh := (hrl.below hb3).move (w1 := w3) (Nat.le_refl _) (fun _ _ _ => rfl)
              have hrs3 : RowK kE w3 (fun k => wo.heap.size + 1 ≤ k ∧ k < w3.heap.size) A1 s.wh := (hr2.below hb3).move (w1 := w3) (Nat.le_refl _) (fun _ _ _ => rfl)
              obtain ⟨both, hboth⟩ : ∃ l, l = last.wh ++ s.wh := ⟨_, rfl⟩
              rw [← hboth] at HEb hspb HST
              have HB := Lib.hid hboth
              clear hboth
              have HW : Hid (∀ (W : World) (A' : Option Addr) (c' : Nat) (ok' : Nat → Prop), RowK kE W ok' A' both → Calls Tryz.prog 56 #[.slice A' both.length c'] W fun e w' => ∃ A' c', e = .returned (.slice A' (andsF f both).length c') ∧ RowK kE w' (fun k => W.heap.size ≤ k) A' (andsF f both) ∧ Below W.heap.size W w') := by
                intro W A' c' ok' hW; exact rwhere_any f both A' c' _ ok' hW (fun y hy => (HEb.out y hy).2) hspb
              go_wp2_with fail
              go_region_law
                (first
                  | (refine step_append_rowK kE w3.heap.size (fun k => w.heap.size + 2 ≤ k) (fun k => (w.heap.size + 2 ≤ k ∧ k ≠ g) ∧ k < w3.heap.size) rfl _ _ 53 64 _ 104 rfl Tryz.underlying53 info_Expr rfl (by decide) (.slice (some ⟨w3.heap.size, 0, none⟩) 0 0) [] last.wh Al cl rfl rfl (HO0.below (by repeat' (first | with_reducible exact Below.refl _ _ | with_reducible assumption | with_reducible refine Below.alloc ?_ ?_ _ | with_reducible refine Below.setCell ?_ ?_ _ | with_reducible refine Below.drew ?_ | with_reducible refine below_dn ?_ | omega | (simp; done) | (simp; omega)))) (hrl3.below (by repeat' (first | with_reducible exact Below.refl _ _ | with_reducible assumption | with_reducible refine Below.alloc ?_ ?_ _ | with_reducible refine Below.setCell ?_ ?_ _ | with_reducible refine Below.drew ?_ | with_reducible refine below_dn ?_ | omega | (simp; done) | (simp; omega)))) (fun j h1 h2 => ⟨h1.1.1, by simp [Value.ownBlock]; omega⟩) (fun j h => by simp at h; omega) (by simp) (by simp; omega) ?_; intro v1 w4 HO4 hg4 hat4; have hB4 : Below w3.heap.size w3 w4 := (show Below w3.heap.size w3 _ from (by repeat' (first | with_reducible exact Below.refl _ _ | with_reducible assumption | with_reducible refine Below.alloc ?_ ?_ _ | with_reducible refine Below.setCell ?_ ?_ _ | with_reducible refine Below.drew ?_ | with_reducible refine below_dn ?_ | omega | (simp; done) | (simp; omega)))).grown hg4 (by simp) (by simp [Value.ownBlock]); have k3 := (hB4.cell (p := ⟨g, xs.length * 4 + 3, none⟩) hgd).trans l3; have k4 := (hB4.cell (p := ⟨wo.heap.size, 3, none⟩) hszd).trans b3; have hlt4 := HO4.lt)
                  | (refine step_append_rowK kE w3.heap.size (fun k => w.heap.size + 2 ≤ k) (fun k => wo.heap.size + 1 ≤ k ∧ k < w3.heap.size) rfl _ _ 53 64 _ 104 rfl Tryz.underlying53 info_Expr rfl (by decide) v1 ([] ++ last.wh) s.wh A1 c1 rfl rfl HO4 (hrs3.below hB4) (fun j h1 h2 => ⟨by omega, fun e => by have := (hlt4 j e.symm).1; omega⟩) (fun j h => by have := hB4.size; omega) hB4.size (by simp; omega) ?_; intro v2 w5 HO5 hg5 hat5; have hB5 : Below w3.heap.size w3 w5 := hB4.grown hg5 hB4.size (fun j hj => (hlt4 j hj).1); have HO5' : OwnK kE 64 w5 w3.heap.size (fun k => w.heap.size + 2 ≤ k) v2 both := (by rw [HB.out]; simpa using HO5); clear HO5; obtain ⟨A5, c5, rfl, hr5⟩ := HO5'.row))
              all_goals
                have H5 := H3.below hB5
                have B5 := B3.below hB5
                have l0 := H5.cell 0 _ rfl
                have l1 := H5.cell 1 _ rfl
                have l2 := H5.cell 2 _ rfl
                have l3 := H5.cell 3 _ rfl
                simp only [show kS.sz = 4 from rfl, Nat.add_zero] at l0 l1 l2 l3
                have lf5 := fun o => H5.frozen o
                clear b0 b1 b2 b3 lf3 bf3 k3 k4
                go_wp2_with fail
                go_region_held3 (fun w' => w'.cell? ⟨g, xs.length * 4, none⟩ = some (.int .i64 last.axis))
                  (first | with_reducible assumption | (simp [go_sem]; done) | (simp [go_sem, *]; done))
                  (first | (go_at_call 56; refine (HW.out _ A5 c5 _ (hr5.below (by repeat' (first | with_reducible exact Below.refl _ _ | with_reducible assumption | with_reducible refine Below.alloc ?_ ?_ _ | with_reducible refine Below.setCell ?_ ?_ _ | with_reducible refine Below.drew ?_ | with_reducible refine below_dn ?_ | omega | (simp; done) | (simp; omega))))).mono ?_; rintro e w6 ⟨A6, c6, rfl, hr6, hb6⟩; have hB6 : Below w5.heap.size w5 w6 := Below.trans (by repeat' (first | with_reducible exact Below.refl _ _ | with_reducible assumption | with_reducible refine Below.alloc ?_ ?_ _ | with_reducible refine Below.setCell ?_ ?_ _ | with_reducible refine Below.drew ?_ | with_reducible refine below_dn ?_ | omega | (simp; done) | (simp; omega))) (hb6.mono (by simp)); have H16 := H5.below hB6; have lf6 := (fun o => H16.frozen o); have g0 := H16.cell 0 _ rfl; have g1 := H16.cell 1 _ rfl; have g2 := H16.cell 2 _ rfl; have g3 := H16.cell 3 _ rfl; simp only [show kS.sz = 4 from rfl, Nat.add_zero] at g0 g1 g2 g3))
                have H17 := (((H16.set 0 (by decide) (.int .i64 last.axis)).set 1 (by decide) (.int .i64 t)).set 2 (by decide) (.string nm)).set 3 (by decide) (.slice A6 (andsF f both).length c6)
                simp only [show kS.sz = 4 from rfl, Nat.add_zero] at H17
                have hC17 : Chg (fun k => k = g) w6 ((((w6.setCell ⟨g, xs.length * 4, none⟩ (.int .i64 last.axis)).setCell ⟨g, xs.length * 4 + 1, none⟩ (.int .i64 t)).setCell ⟨g, xs.length * 4 + 2, none⟩ (.string nm)).setCell ⟨g, xs.length * 4 + 3, none⟩ (.slice A6 (andsF f both).length c6)) := Chg.set rfl (Chg.set rfl (Chg.set rfl (Chg.set rfl (Chg.refl _ _))))
                have hB36 := hB5.trans (hB6.mono hB5.size)
                have hB26 := hb3.trans (hB36.mono hb3.size)
                have hsz35 := hB5.size
                have hsz56 := hB6.size
                have hsz26 := hB26.size
                have hr7 : RowK kE ((((w6.setCell ⟨g, xs.length * 4, none⟩ (.int .i64 last.axis)).setCell ⟨g, xs.length * 4 + 1, none⟩ (.int .i64 t)).setCell ⟨g, xs.length * 4 + 2, none⟩ (.string nm)).setCell ⟨g, xs.length * 4 + 3, none⟩ (.slice A6 (andsF f both).length c6)) (fun k => w.heap.size + 2 ≤ k ∧ k ≠ g) A6 (andsF f both) := ((RowK.mono (ok' := fun k => w5.heap.size ≤ k) (by simp) hr6).chg hC17 (fun k hk e => by omega)).mono (fun k hk => by omega)
                have HKy : RS ((((w6.setCell ⟨g, xs.length * 4, none⟩ (.int .i64 last.axis)).setCell ⟨g, xs.length * 4 + 1, none⟩ (.int .i64 t)).setCell ⟨g, xs.length * 4 + 2, none⟩ (.string nm)).setCell ⟨g, xs.length * 4 + 3, none⟩ (.slice A6 (andsF f both).length c6)) (fun k => w.heap.size + 2 ≤ k ∧ k ≠ g) (.mk last.axis t nm (andsF f both)) [.int .i64 last.axis, .int .i64 t, .string nm, .slice A6 (andsF f both).length c6] := RS.of_rows (x := .mk last.axis t nm (andsF f both)) hr7
                have HK := OwnH.toK (y := Step.mk last.axis t nm (andsF f both)) H17 HKy
                have hbz := (hbr2.trans (hB26.mono (by omega))).trans (hC17.below (B := w.heap.size + 2) (by omega) (fun k hk => by omega))
                clear lf5 l0 l1 l2 l3 lf6 g0 g1 g2 g3
                go_wp2_with fail
                go_roundw
                case rel => exact ⟨k + 1, by omega, by go_num, by rw [HST.out]; exact HK, hbz⟩
                case measure => simp [intOf]; omega
          · have hxb : (s.axis == 3) = false := by rw [beq_eq_false_iff_ne]; exact hax
            go_wp2_with fail
            refine (dos_any last Al cl _).mono ?_
            rintro e w3 ⟨rfl, hb3⟩
            have H3 := HH.below hb3
            have B3 := B2.below hb3
            have l0 := H3.cell 0 _ rfl
            have l1 := H3.cell 1 _ rfl
            have l2 := H3.cell 2 _ rfl
            have l3 := H3.cell 3 _ rfl
            simp only [show kS.sz = 4 from rfl, Nat.add_zero] at l0 l1 l2 l3
            have b0 := (B3).cell 0
            have b1 := (B3).cell 1
            have b2 := (B3).cell 2
            have b3 := (B3).cell 3
            simp at b0 b1 b2 b3
            have bf := fun o => (B3).frozen o
            have lf := fun o => H3.frozen o
            have hz3 := B3.lt
            have hg3 : g < w3.heap.size := by omega
            cases hbd : bareF last 2
            · have hput := putF_else f xs last s hq hax hbd
              rw [hput] at HST
              clear hq hput hax hbd
              have hrA : RowK kE w3 (fun k => wo.heap.size + 1 ≤ k) A1 s.wh := hr2.below hb3
              have C1 : Hid (∀ j, (wo.heap.size + 1 ≤ j) → w.heap.size + 2 ≤ j ∧ some j ≠ (Value.slice (some ⟨g, 0, none⟩) (xs.length + 1) cap).ownBlock) := by
                intro j hj
                refine ⟨by omega, fun e => ?_⟩
                have : j = g := by simpa [Value.ownBlock] using e
                omega
              have HOa : OwnK kS 55 w3 (w.heap.size + 2) (fun k => w.heap.size + 2 ≤ k) (.slice (some ⟨g, 0, none⟩) (xs.length + 1) cap) (xs ++ [last]) := H3.toK (RS.bel hb3 hKl)
              have hszw : wo.heap.size < w3.heap.size := Nat.lt_of_lt_of_le hz2 hb3.size
              go_wp2_with (at_builtin; go_loud (refine append_ownK kS (w.heap.size + 2) (fun k => w.heap.size + 2 ≤ k) (fun k => wo.heap.size + 1 ≤ k) rfl _ _ 25 55 _ 56 rfl Tryz.underlying25 info_Step rfl (.slice (some ⟨g, 0, none⟩) (xs.length + 1) cap) (xs ++ [last]) s [.int .i64 s.axis, .int .i64 s.test, .string s.name, .slice A1 s.wh.length c1] rfl rfl HOa (RS.of_rows hrA) C1.out (fun j hj => by omega) (by omega) (by simp; omega) (by decide) ?_; intro v1 w4 HO4 hg4 hat4))
              go_roundw
              case rel => exact ⟨k + 1, by omega, by go_num, by rw [HST.out]; exact HO4, (hbr2.trans (hb3.mono (by omega))).grown hg4 (by omega) (fun j hj => (HOa.lt j hj).1)⟩
              case measure => simp [intOf]; omega
            · have hput := putF_dos f xs last s hq hax hbd
              rw [hput] at HST
              by_cases hc : s.axis = 0
              · have hcb : (s.axis == 0) = true := by rw [hc]; rfl
                rw [if_pos hc] at HST
                clear hq hput hax hbd hc
                have H4 := ((((((HHb.below hb3).chg (p := fun k => k = wo.heap.size) (Chg.set (ad := ⟨wo.heap.size, 0, none⟩) (u := .int .i64 1) rfl (Chg.refl _ _)) (fun k hk hl e => by omega)).mono (ok' := fun k => w.heap.size + 2 ≤ k) (fun _ h => h.1)).set 0 (by decide) (.int .i64 1)).set 1 (by decide) (.int .i64 s.test)).set 2 (by decide) (.string s.name)).set 3 (by decide) (.slice A1 s.wh.length c1)
                simp only [show kS.sz = 4 from rfl, Nat.add_zero] at H4
                have hC4 : Chg (fun k => k = g) (w3.setCell ⟨wo.heap.size, 0, none⟩ (.int .i64 1)) (((((w3.setCell ⟨wo.heap.size, 0, none⟩ (.int .i64 1)).setCell ⟨g, xs.length * 4, none⟩ (.int .i64 1)).setCell ⟨g, xs.length * 4 + 1, none⟩ (.int .i64 s.test)).setCell ⟨g, xs.length * 4 + 2, none⟩ (.string s.name)).setCell ⟨g, xs.length * 4 + 3, none⟩ (.slice A1 s.wh.length c1)) := Chg.set rfl (Chg.set rfl (Chg.set rfl (Chg.set rfl (Chg.refl _ _))))
                have hr7 := ((hr2.below hb3).chg (p := fun k => k = wo.heap.size) (Chg.set (ad := ⟨wo.heap.size, 0, none⟩) (u := .int .i64 1) rfl (Chg.refl _ _)) (fun k hk e => by omega)).chg hC4 (fun k hk e => by omega)
                have HKy := RS.of_rows (x := .mk 1 s.test s.name s.wh) (cw := c1) (hr7.mono (ok' := fun k => w.heap.size + 2 ≤ k ∧ k ≠ g) (fun k hk => by omega))
                have HK := OwnH.toK (y := Step.mk 1 s.test s.name s.wh) H4 HKy
                have hbz := ((hbr2.trans (hb3.mono (by omega))).setCell (p := ⟨wo.heap.size, 0, none⟩) hszo (.int .i64 1)).trans ((hC4.below (B := w.heap.size + 2) (by simp; omega) (fun k hk => by omega)))
                go_wp2_with fail
                go_roundw
                case rel => exact ⟨k + 1, by omega, by go_num, by rw [HST.out]; exact HK, hbz⟩
                case measure => simp [intOf]; omega
              · have hcb : (s.axis == 0) = false := by rw [beq_eq_false_iff_ne]; exact hc
                rw [if_neg hc] at HST
                clear hq hput hax hbd hc
                have H4 := ((((H3).set 0 (by decide) (.int .i64 s.axis)).set 1 (by decide) (.int .i64 s.test)).set 2 (by decide) (.string s.name)).set 3 (by decide) (.slice A1 s.wh.length c1)
                simp only [show kS.sz = 4 from rfl, Nat.add_zero] at H4
                have hC4 : Chg (fun k => k = g) w3 ((((w3.setCell ⟨g, xs.length * 4, none⟩ (.int .i64 s.axis)).setCell ⟨g, xs.length * 4 + 1, none⟩ (.int .i64 s.test)).setCell ⟨g, xs.length * 4 + 2, none⟩ (.string s.name)).setCell ⟨g, xs.length * 4 + 3, none⟩ (.slice A1 s.wh.length c1)) := Chg.set rfl (Chg.set rfl (Chg.set rfl (Chg.set rfl (Chg.refl _ _))))
                have hr7 := (hr2.below hb3).chg hC4 (fun k hk e => by omega)
                have HKy := RS.of_rows (x := .mk s.axis s.test s.name s.wh) (cw := c1) (hr7.mono (ok' := fun k => w.heap.size + 2 ≤ k ∧ k ≠ g) (fun k hk => by omega))
                have HK := OwnH.toK (y := Step.mk s.axis s.test s.name s.wh) H4 HKy
                rw [show Step.mk s.axis s.test s.name s.wh = s from by cases s; rfl] at HK
                have hbz := (hbr2.trans (hb3.mono (by omega))).trans ((hC4.below (B := w.heap.size + 2) (by omega) (fun k hk => by omega)))
                go_wp2_with fail
                go_roundw
                case rel => exact ⟨k + 1, by omega, by go_num, by rw [HST.out]; exact HK, hbz⟩
                case measure => simp [intOf]; omega
      · have hput : putF f acc s = acc := by unfold putF; rw [if_pos hq]
        rw [hput] at HST
        clear hq hput
        obtain ⟨A3, c3, rfl, -⟩ := HO2.row
        go_wp2_with fail
        go_roundw
        case rel => exact ⟨k + 1, by omega, by go_num, by rw [HST.out]; exact HO2, hbr2⟩
        case measure => simp [intOf]; omega
    · have htk : p.take k = p := List.take_of_length_le (by omega)
      rw [htk] at HO
      have hB0 := Blk.new (w.alloc (Obj.cells #[Value.slice A p.length ca] 27)) #[.slice none 0 0] 27
      rw [World.size_alloc] at hB0
      have BR : Blk wo (w.heap.size + 1) #[.slice none 0 0] 27 := (hbr0.block _ (by omega)).trans hB0
      clear hB0
      have hlw := steps_light f p [] N (by simp [shP]) hp (by simp only [wtP]; omega) (fun x h1 h2 => (HE.out x h1 h2).1)
      have hlw2 : wtP (stepsF f p) ≤ wtP p := by have := hlw.2; simp only [wtP, Nat.zero_add] at this; exact this
      have hal := wtP_len (stepsF f p)
      clear hlw htk
      by_cases hnil : (stepsF f p).isEmpty = true
      · have hrr : r = [sPoint] := by rw [← HR.out]; unfold pathF; rw [if_pos hnil]
        have hnl : stepsF f p = [] := by simpa using hnil
        rw [hnl] at HO
        have HRR := Lib.hid hrr
        clear hrr hnil hnl
        obtain ⟨A3, c3, rfl, -⟩ := HO.row
        have hn0 : (([] : List Step).length : Int) = 0 := rfl
        clear hn0
        go_wp2_with fail
        refine (rself_any _).mono ?_
        rintro e w1 ⟨cs, rfl, hR1, hb1⟩
        obtain ⟨Ap, cp, rfl, -⟩ := hR1.rows
        have HO1 := HO.below hb1
        have BR1 := BR.below hb1
        have hsz1 := hb1.size
        have C1 : Hid (∀ j, (wo.heap.size ≤ j) → w.heap.size + 2 ≤ j ∧ some j ≠ (Value.slice A3 ([] : List Step).length c3).ownBlock) := by
          intro j hj
          refine ⟨by omega, fun e => ?_⟩
          have := (HO.lt j e.symm).2
          omega
        go_wp2_with (at_builtin; go_loud (refine append_ownK kS (w.heap.size + 2) (fun k => w.heap.size + 2 ≤ k) (fun k => wo.heap.size ≤ k) rfl _ _ 25 55 _ 56 rfl Tryz.underlying25 info_Step rfl (.slice A3 ([] : List Step).length c3) [] sPoint [.int .i64 sPoint.axis, .int .i64 sPoint.test, .string sPoint.name, .slice Ap sPoint.wh.length cp] rfl rfl HO1 hR1 C1.out (fun j hj => by omega) (by omega) (by simp) (by decide) ?_; intro v1 w3 HO3 hg3 hat3; obtain ⟨A5, c5, rfl, hrow5⟩ := HO3.row; have BR3 := BR1.grown hg3 (fun e => by have := (HO1.lt _ e.symm).1; omega); have hq := (fun o => BR3.cell o); have hf := (fun o => BR3.frozen o)))
        have h0 := hq 0
        simp at h0
        clear hq
        go_wp2_with fail
        have hB3 : Below w.heap.size w w3 := (hbr.trans (hb1.mono (by omega))).grown hg3 (by omega) (fun j hj => by have := (HO1.lt j hj).1; omega)
        refine bodyPost_ret (v := .agg #[.slice A5 ([] ++ [sPoint] : List Step).length c5]) ?h1 rfl ⟨A5, c5, by rw [HRR.out]; rfl, ?h2, ?h3⟩
        case h1 => simp [results, Tryz.results33, go_sem, h0]
        case h3 => exact (by repeat' (first | with_reducible exact Below.refl _ _ | with_reducible assumption | with_reducible refine Below.alloc ?_ ?_ _ | with_reducible refine Below.setCell ?_ ?_ _ | with_reducible refine Below.drew ?_ | with_reducible refine below_dn ?_ | omega | (simp; done) | (simp; omega)))
        case h2 =>
          rw [HRR.out]
          exact (hrow5.chg (p := fun k => k = w.heap.size + 1) (by repeat' (first | with_reducible exact Chg.refl _ _ | with_reducible assumption | with_reducible refine Chg.al ?_ | with_reducible refine Chg.set ?_ ?_ | with_reducible refine Chg.dr ?_ | with_reducible refine Chg.dn ?_ | with_reducible rfl | omega | (simp; done) | (simp; omega))) (by intro k hk; omega)).mono (by intro k hk; omega)
      · have hrr : r = stepsF f p := by rw [← HR.out]; unfold pathF; rw [if_neg hnil]
        have hln : ((stepsF f p).length == 0) = false := by rw [beq_eq_false_iff_ne]; intro h; exact hnil (by simp [List.eq_nil_of_length_eq_zero h])
        have hli : (((stepsF f p).length : Int) == 0) = false := by rw [beq_eq_false_iff_ne] at *; omega
        rw [← hrr] at HO hln hli
        clear hrr hnil hln
        obtain ⟨A3, c3, rfl, hrow5⟩ := HO.row
        have h0 := BR.cell 0
        simp at h0
        have hf := fun o => BR.frozen o
        go_wp2_with fail
        refine bodyPost_ret (v := .agg #[.slice A3 r.length c3]) ?h1 rfl ⟨A3, c3, rfl, ?h2, ?h3⟩
        case h1 => simp [results, Tryz.results33, go_sem, h0]
        case h3 => exact (by repeat' (first | with_reducible exact Below.refl _ _ | with_reducible assumption | with_reducible refine Below.alloc ?_ ?_ _ | with_reducible refine Below.setCell ?_ ?_ _ | with_reducible refine Below.drew ?_ | with_reducible refine below_dn ?_ | omega | (simp; done) | (simp; omega)))
        case h2 => exact (hrow5.chg (p := fun k => k = w.heap.size + 1) (by repeat' (first | with_reducible exact Chg.refl _ _ | with_reducible assumption | with_reducible refine Chg.al ?_ | with_reducible refine Chg.set ?_ ?_ | with_reducible refine Chg.dr ?_ | with_reducible refine Chg.dn ?_ | with_reducible rfl | omega | (simp; done) | (simp; omega))) (by intro k hk; omega)).mono (by intro k hk; omega)

end Go.Proofs.YtbbmmeaicilabaaGreatDoor
