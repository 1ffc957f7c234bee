/- ask's parser: what a method that reads an expression does; length. Conditions: the words lie in memory. -/
import Derived.Test.YtbbmmeaicilabaaGreatDoorQJa
import Derived.Test.YtbbmmeaicilabaaGreatDoorQJe
set_option linter.unusedVariables false
set_option linter.unusedSimpArgs false
namespace Go.Proofs.YtbbmmeaicilabaaGreatDoor
open Go.RowKit

/-- what a method that reads an expression does: a plain answer, or it gives up -/
def ExprP (r : Ans Expr) (op : Int) (pb : Nat) (ok : Nat → Prop) (e0 e1 e2 e3 ne : Int) (w : World) (e : Ending) (w' : World) : Prop :=
  Chg (fun b => b = pb) w w' ∧ (match r with
    | some (x, ws', op') => ∃ cs A' c', e = .returned (.agg cs.toArray) ∧ RE w' (fun k => w.heap.size ≤ k) x cs ∧ PS w' pb ok ws' A' c' e0 e1 e2 e3 ne op' ∧ op' = op ∧ (∀ b, ok b → b < w'.heap.size)
    | none => Gave w.heap.size e)
/-- contract of a method of the parser that reads an expression -/
def Reads (f : Nat) (L : Nat) (ne : Int) (g : List Wd → Int → Ans Expr) : Prop :=
  ∀ (w : World) (pb : Nat) (ok : Nat → Prop) (ws : List Wd) (A : Option Addr) (c : Nat) (e0 e1 e2 e3 op : Int), ws.length < L → PS w pb ok ws A c e0 e1 e2 e3 ne op → (∀ b, ok b → b < w.heap.size) → 0 ≤ op → op ≤ ne → ne ≤ 1000 →
    Calls Tryz.prog f #[.pointer (some ⟨pb, 0, none⟩)] w (ExprP (g ws op) op pb ok e0 e1 e2 e3 ne w)

set_option maxRecDepth 100000 in
set_option maxHeartbeats 8000000 in
theorem len_any (L : Nat) (ne : Int) (sm : List Wd → Int → Ans Expr) (H : Reads 161 L ne sm) (w : World) (pb : Nat) (ok : Nat → Prop) (x0 : Wd) (t : List Wd) (A : Option Addr) (c : Nat) (e0 e1 e2 e3 op : Int)
    (hL : t.length ≤ L) (h : PS w pb ok (x0 :: t) A c e0 e1 e2 e3 ne op) (hpw : ∀ b, ok b → b < w.heap.size) (h0 : 0 ≤ op) (h1 : op ≤ ne) (hne : ne ≤ 1000) :
    Calls Tryz.prog 159 #[.pointer (some ⟨pb, 0, none⟩)] w (ExprP (pLen sm ne (x0 :: t) op) op pb ok e0 e1 e2 e3 ne w) := by
  obtain ⟨W0, hW0⟩ : ∃ W, W = w.alloc (.cells #[.int .i64 0, .slice none 0 0, .slice none 0 0, .string ⟨#[]⟩, .int .i64 0, .string ⟨#[]⟩, .int .i64 0] 64) := ⟨_, rfl⟩
  have hbW : Below w.heap.size w W0 := by rw [hW0]; exact bl1 (Nat.le_refl _)
  have HP := Lib.hid (h.below hbW)
  have hpb := h.blk.lt
  have RB : Blk W0 w.heap.size #[.int .i64 0, .slice none 0 0, .slice none 0 0, .string ⟨#[]⟩, .int .i64 0, .string ⟨#[]⟩, .int .i64 0] 64 := by rw [hW0]; exact Blk.new _ _ _
  have hsz0 : w.heap.size < W0.heap.size := RB.lt
  have hpw0 : ∀ b, ok b → b < W0.heap.size := fun b hb => Nat.lt_trans (hpw b hb) hsz0
  have HH := Lib.hid H
  clear h H
  generalize hr : pLen sm ne (x0 :: t) op = r
  have HR := Lib.hid hr
  clear hr
  go_enter Tryz.func159, Tryz.ntmps159
  go_wp2_with fail
  rw [← hW0]
  refine (take_any W0 pb ok x0 t A c e0 e1 e2 e3 ne op HP.out hpw0).mono ?_
  rintro e w1 ⟨rfl, hch1, A1, c1, hps1⟩
  have hpw1 : ∀ b, ok b → b < w1.heap.size := fun b hb => Nat.lt_of_lt_of_le (hpw0 b hb) hch1.size
  have hc01 : Chg (fun b => b = pb) w w1 := (Chg.of_below hbW).trans hch1
  go_wp2_with fail
  refine (enter_any _ w1 pb ok t A1 c1 e0 e1 e2 e3 ne op hps1 hpw1 h0 (by omega)).mono ?_
  rintro e w2 ⟨hch2, ht2, hf2⟩
  have hc02 := hc01.trans hch2
  have hs02 := hc01.size
  cases hb : (signB t 0 ⟨#[40]⟩ && !decide (op = ne))
  · have hrn : r = none := by rw [← HR.out]; unfold pLen pEnter; rw [List.tail_cons, hb]; rfl
    subst hrn
    obtain ⟨g, rfl, hg⟩ := hf2 hb
    exact ⟨rfl, hc02, ⟨g, rfl, by omega⟩⟩
  · obtain ⟨rfl, A2, c2, hps2⟩ := ht2 hb
    have hb2 : signB t 0 ⟨#[40]⟩ = true ∧ op ≠ ne := by simpa using hb
    obtain ⟨x1, t1, rfl⟩ := signB_cons hb2.1
    have hpw2 : ∀ b, ok b → b < w2.heap.size := fun b hb => Nat.lt_of_lt_of_le (hpw1 b hb) hch2.size
    have RB2 := (RB.chg hch1 (by omega)).chg hch2 (by omega)
    go_wp2_with fail
    refine (HH.out w2 pb ok t1 A2 c2 e0 e1 e2 e3 (op + 1) (by simp at hL; omega) hps2 hpw2 (by omega) (by omega) hne).mono ?_
    rintro e w3 ⟨hch3, hm⟩
    have hc03 := hc02.trans hch3
    have hs03 := hc02.size
    cases hsm : sm t1 (op + 1)
    · have hr2 : r = none := by rw [← HR.out]; unfold pLen pEnter; rw [List.tail_cons, hb, if_pos rfl]; simp only [List.tail_cons, hsm]; try rfl
      rw [hsm] at hm
      subst hr2
      obtain ⟨g, rfl, hg⟩ := hm
      exact ⟨rfl, hc03, ⟨g, rfl, by omega⟩⟩
    · rename_i sres
      obtain ⟨x, ws3, op3⟩ := sres
      rw [hsm] at hm
      obtain ⟨cs3, A3, c3, rfl, hre, hps3, rfl, hpw3⟩ := hm
      obtain ⟨Aa, ca, As, cp, rfl, hxa, hxp⟩ := hre.rows
      have RB3 := RB2.chg hch3 (by omega)
      have hl3 := hps3.blk.lt
      obtain ⟨W4, hW4⟩ : ∃ W, W = w3.alloc (.cells (#[.int .i64 x.op, .slice Aa x.args.length ca, .slice As x.path.length cp, .string x.attr, .int .i64 x.cmp, .string x.text, .int .i64 x.num]) 64) := ⟨_, rfl⟩
      have hb4 : Below w3.heap.size w3 W4 := by rw [hW4]; exact bl1 (Nat.le_refl _)
      have hps4 := hps3.below hb4
      have hpw4 : ∀ b, ok b → b < W4.heap.size := fun b hb => Nat.lt_of_lt_of_le (hpw3 b hb) hb4.size
      have hc04 := hc03.trans (Chg.of_below (p := fun b => b = pb) hb4)
      have hs04 := hc03.size
      have B4 : Blk W4 w3.heap.size #[.int .i64 x.op, .slice Aa x.args.length ca, .slice As x.path.length cp, .string x.attr, .int .i64 x.cmp, .string x.text, .int .i64 x.num] 64 := by rw [hW4]; exact Blk.new _ _ _
      have hre4 := RE.bel hb4 hre
      have RB4 := RB3.below hb4
      have hop1 : op + 1 - 1 = op := by omega
      go_wp2_with fail
      rw [← hW4]
      clear hW4
      refine (leave_any _ W4 pb ok ws3 A3 c3 e0 e1 e2 e3 ne (op + 1) hps4 hpw4 (by omega) (by omega)).mono ?_
      rintro e w5 ⟨hch5, ht5, hf5⟩
      have hc05 := hc04.trans hch5
      have hs05 := hc04.size
      rw [hop1] at ht5
      cases hb5 : signB ws3 0 ⟨#[41]⟩
      · have hr2 : r = none := by rw [← HR.out]; unfold pLen pEnter; rw [List.tail_cons, hb, if_pos rfl]; simp only [List.tail_cons, hsm, pLeave, hb5]; rfl
        subst hr2
        obtain ⟨g, rfl, hg⟩ := hf5 hb5
        exact ⟨rfl, hc05, ⟨g, rfl, by omega⟩⟩
      · obtain ⟨rfl, A5, c5, hps5⟩ := ht5 hb5
        have hpw5 : ∀ b, ok b → b < w5.heap.size := fun b hb => Nat.lt_of_lt_of_le (hpw4 b hb) hch5.size
        have B5 := B4.chg hch5 (by omega)
        have RB5 := RB4.chg hch5 (by omega)
        have hre3 : RE w3 (fun k => w2.heap.size ≤ k ∧ k < w3.heap.size) x _ := Knd.move (kE) (w1 := w3) (Nat.le_refl _) (fun _ _ _ => rfl) hre
        have hre5 := (RE.bel hb4 hre3).chg hch5 (by intro k hk; omega)
        have hsA := hch1.size
        have hsB := hch2.size
        have hsC := hch3.size
        have hs45 : W4.heap.size ≤ w5.heap.size := hch5.size
        have hl34 : w3.heap.size < W4.heap.size := B4.lt
        generalize hws : ws3.tail = ws5 at *
        have HR5 : Hid (r = match (if sg ws5 ⟨#[61]⟩ then some 6 else if sg ws5 ⟨#[62]⟩ then some 7 else if sg ws5 ⟨#[60]⟩ then some 8 else none : Option Int) with | none => none | some c => match pKind 2 ws5.tail with | some (y, r) => some (setC x c x.text y.num, r, op) | none => none) := by
          unfold Hid; rw [← HR.out]; unfold pLen pEnter; rw [List.tail_cons, hb, if_pos rfl]; simp only [List.tail_cons, hsm, pLeave, hb5, if_true, hop1, hws]
          rfl
        have q0 := (B5).cell 0
        have q1 := (B5).cell 1
        have q2 := (B5).cell 2
        have q3 := (B5).cell 3
        have q4 := (B5).cell 4
        have q5 := (B5).cell 5
        have q6 := (B5).cell 6
        simp at q0 q1 q2 q3 q4 q5 q6
        have qf := fun o => (B5).frozen o
        go_wp2_with fail
        refine (sign_any 0 ⟨#[61]⟩ w5 pb ok ws5 A5 c5 e0 e1 e2 e3 ne op hps5).mono ?_
        rintro e w6 ⟨rfl, hw6⟩
        rw [hw6]
        clear hw6 w6
        cases hs6 : signB ws5 0 ⟨#[61]⟩
        · go_wp2_with fail
          refine (sign_any 0 ⟨#[62]⟩ w5 pb ok ws5 A5 c5 e0 e1 e2 e3 ne op hps5).mono ?_
          rintro e w6 ⟨rfl, hw6⟩
          rw [hw6]
          clear hw6 w6
          cases hs7 : signB ws5 0 ⟨#[62]⟩
          · go_wp2_with fail
            refine (sign_any 0 ⟨#[60]⟩ w5 pb ok ws5 A5 c5 e0 e1 e2 e3 ne op hps5).mono ?_
            rintro e w6 ⟨rfl, hw6⟩
            rw [hw6]
            clear hw6 w6
            cases hs8 : signB ws5 0 ⟨#[60]⟩
            · have hr2 : r = none := by rw [HR5.out]; simp only [sg, hs6, hs7, hs8, Bool.false_eq_true, if_false]; try rfl
              subst hr2
              go_wp2_with fail
              refine (give_any 105 w5 pb ok ws5 A5 c5 e0 e1 e2 e3 ne op hps5 hpw5).mono ?_
              rintro e w6 ⟨⟨g, rfl, hg⟩, hb6⟩
              exact ⟨rfl, hc05.trans (Chg.of_below hb6), ⟨g, rfl, by have := hc05.size; omega⟩⟩
            · obtain ⟨y0, t5, rfl⟩ := signB_cons hs8
              have HR6 : Hid (r = match pKind 2 t5 with | some (y, r) => some (setC x 8 x.text y.num, r, op) | none => none) := by unfold Hid; rw [HR5.out]; simp only [sg, hs6, hs7, hs8, if_true, List.tail_cons, Bool.false_eq_true, if_false]
              clear HR5 hs6 hs7 hs8
              go_wp2_with fail
              have hps6 := hps5.setN (ad := ⟨w3.heap.size, 4, none⟩) (u := .int .i64 8) (by simp; omega) (fun b hb => by have := hpw3 b hb; simp; omega)
              have B6 := B5.set 4 (.int .i64 8)
              have RB6 := RB5.far (a := ⟨w3.heap.size, 4, none⟩) (by simp; omega) (.int .i64 8)
              have hre6 := hre5.chg (p := fun k => k = w3.heap.size) (Chg.set (ad := ⟨w3.heap.size, 4, none⟩) (u := .int .i64 8) rfl (Chg.refl _ _)) (by intro k hk; omega)
              have hc06 := hc05.setN (ad := ⟨w3.heap.size, 4, none⟩) (u := .int .i64 8) (by simp; omega)
              have hs6 : (w5.setCell ⟨w3.heap.size, 4, none⟩ (.int .i64 8)).heap.size = w5.heap.size := by simp
              simp only [List.setIfInBounds_toArray, List.set_cons_zero, List.set_cons_succ] at B6
              generalize w5.setCell ⟨w3.heap.size, 4, none⟩ (.int .i64 8) = w6 at *
              refine (take_any w6 pb ok y0 t5 A5 c5 e0 e1 e2 e3 ne op hps6 (fun b hb => by rw [hs6]; exact hpw5 b hb)).mono ?_
              rintro e w7 ⟨rfl, hch7, A7, c7, hps7⟩
              have hc07 := hc06.trans hch7
              have hs67 := hch7.size
              go_wp2_with fail
              refine (wantKind_any 2 w7 pb ok t5 A7 c7 e0 e1 e2 e3 ne op hps7 (fun b hb => by have := hpw5 b hb; omega)).mono ?_
              rintro e w8 ⟨hch8, ht8, hf8⟩
              have hc08 := hc07.trans hch8
              have hs78 := hch8.size
              cases hk : kindIs t5 2
              · have hr2 : r = none := by
                  rw [HR6.out]
                  cases t5 with
                  | nil => rfl
                  | cons y t6 => simp only [kindIs, decide_eq_false_iff_not] at hk; simp only [pKind, if_neg hk]; try rfl
                subst hr2
                obtain ⟨g, rfl, hg⟩ := hf8 hk
                exact ⟨rfl, hc08, ⟨g, rfl, by omega⟩⟩
              · obtain ⟨y, t6, rfl, rfl, A8, c8, hps8⟩ := ht8 hk
                have hk2 : y.kind = 2 := by simpa [kindIs] using hk
                have HR8 : Hid (r = some (setC x 8 x.text y.num, t6, op)) := by unfold Hid; rw [HR6.out]; simp only [pKind, if_pos hk2]; try rfl
                have hfd : ∀ W : World, (Instr.field 109 (.agg (encW y).toArray) 2).run Tryz.prog W = .ok (.int .i64 y.num) W := fun _ => by kernel_rfl
                have B8 := (B6.chg hch7 (by omega)).chg hch8 (by omega)
                have RB8 := (RB6.chg hch7 (by omega)).chg hch8 (by omega)
                have hre8 := (hre6.chg hch7 (by intro k hk; omega)).chg hch8 (by intro k hk; omega)
                clear q0 q1 q2 q3 q4 q5 q6 qf
                have q0 := (B8).cell 0
                have q1 := (B8).cell 1
                have q2 := (B8).cell 2
                have q3 := (B8).cell 3
                have q4 := (B8).cell 4
                have q5 := (B8).cell 5
                have q6 := (B8).cell 6
                simp at q0 q1 q2 q3 q4 q5 q6
                have qf := fun o => (B8).frozen o
                have z0 := (RB8).cell 0
                have z1 := (RB8).cell 1
                have z2 := (RB8).cell 2
                have z3 := (RB8).cell 3
                have z4 := (RB8).cell 4
                have z5 := (RB8).cell 5
                have z6 := (RB8).cell 6
                simp at z0 z1 z2 z3 z4 z5 z6
                have zf := fun o => (RB8).frozen o
                have hne1 : w3.heap.size ≠ w.heap.size := by omega
                go_wp2_with fail
                refine bodyPost_ret (v := .agg #[.int .i64 x.op, .slice Aa x.args.length ca, .slice As x.path.length cp, .string x.attr, .int .i64 8, .string x.text, .int .i64 y.num]) ?h1 rfl ⟨?h2, ?h3⟩
                case h1 => simp [results, Tryz.results159, go_sem, z0, z1, z2, z3, z4, z5, z6]
                case h2 => repeat' first | with_reducible exact hc08 | with_reducible refine Chg.setN ?_ ?_ | exact Nat.le_refl _ | (simp; done) | (simp; omega)
                case h3 =>
                  rw [HR8.out]
                  obtain ⟨Ax, cx, Sx, dx, he, hxa8, hxp8⟩ := hre8.rows
                  obtain ⟨⟨rfl, rfl⟩, rfl, rfl⟩ : (Aa = Ax ∧ ca = cx) ∧ As = Sx ∧ cp = dx := by simpa using he
                  refine ⟨[.int .i64 x.op, .slice Aa x.args.length ca, .slice As x.path.length cp, .string x.attr, .int .i64 8, .string x.text, .int .i64 y.num], A8, c8, rfl, ?h4, ?h5, rfl, ?h6⟩
                  case h4 =>
                    refine RE.of_rows (x := setC x 8 x.text y.num) ?h7 ?h8
                    case h7 => exact (hxa8.chg (p := fun k => k = w3.heap.size ∨ k = w.heap.size) (by repeat' (first | with_reducible exact Chg.refl _ _ | with_reducible assumption | with_reducible refine Chg.al ?_ | with_reducible refine Chg.set ?_ ?_ | with_reducible refine Chg.dr ?_ | with_reducible refine Chg.dn ?_ | with_reducible rfl | omega | (simp; done) | (simp; omega))) (by intro k hk; omega)).mono (by intro k hk; omega)
                    case h8 => exact (hxp8.chg (p := fun k => k = w3.heap.size ∨ k = w.heap.size) (by repeat' (first | with_reducible exact Chg.refl _ _ | with_reducible assumption | with_reducible refine Chg.al ?_ | with_reducible refine Chg.set ?_ ?_ | with_reducible refine Chg.dr ?_ | with_reducible refine Chg.dn ?_ | with_reducible rfl | omega | (simp; done) | (simp; omega))) (by intro k hk; omega)).mono (by intro k hk; omega)
                  case h5 => repeat' first | with_reducible exact hps8 | with_reducible refine PS.setN ?_ ?_ ?_ | (intro b hb; have := hpw b hb; simp; omega) | (simp; omega)
                  case h6 => intro b hb; have := hpw b hb; simp; omega
          · obtain ⟨y0, t5, rfl⟩ := signB_cons hs7
            have HR6 : Hid (r = match pKind 2 t5 with | some (y, r) => some (setC x 7 x.text y.num, r, op) | none => none) := by unfold Hid; rw [HR5.out]; simp only [sg, hs6, hs7, if_true, List.tail_cons, Bool.false_eq_true, if_false]
            clear HR5 hs6 hs7
            go_wp2_with fail
            have hps6 := hps5.setN (ad := ⟨w3.heap.size, 4, none⟩) (u := .int .i64 7) (by simp; omega) (fun b hb => by have := hpw3 b hb; simp; omega)
            have B6 := B5.set 4 (.int .i64 7)
            have RB6 := RB5.far (a := ⟨w3.heap.size, 4, none⟩) (by simp; omega) (.int .i64 7)
            have hre6 := hre5.chg (p := fun k => k = w3.heap.size) (Chg.set (ad := ⟨w3.heap.size, 4, none⟩) (u := .int .i64 7) rfl (Chg.refl _ _)) (by intro k hk; omega)
            have hc06 := hc05.setN (ad := ⟨w3.heap.size, 4, none⟩) (u := .int .i64 7) (by simp; omega)
            have hs6 : (w5.setCell ⟨w3.heap.size, 4, none⟩ (.int .i64 7)).heap.size = w5.heap.size := by simp
            simp only [List.setIfInBounds_toArray, List.set_cons_zero, List.set_cons_succ] at B6
            generalize w5.setCell ⟨w3.heap.size, 4, none⟩ (.int .i64 7) = w6 at *
            refine (take_any w6 pb ok y0 t5 A5 c5 e0 e1 e2 e3 ne op hps6 (fun b hb => by rw [hs6]; exact hpw5 b hb)).mono ?_
            rintro e w7 ⟨rfl, hch7, A7, c7, hps7⟩
            have hc07 := hc06.trans hch7
            have hs67 := hch7.size
            go_wp2_with fail
            refine (wantKind_any 2 w7 pb ok t5 A7 c7 e0 e1 e2 e3 ne op hps7 (fun b hb => by have := hpw5 b hb; omega)).mono ?_
            rintro e w8 ⟨hch8, ht8, hf8⟩
            have hc08 := hc07.trans hch8
            have hs78 := hch8.size
            cases hk : kindIs t5 2
            · have hr2 : r = none := by
                rw [HR6.out]
                cases t5 with
                | nil => rfl
                | cons y t6 => simp only [kindIs, decide_eq_false_iff_not] at hk; simp only [pKind, if_neg hk]; try rfl
              subst hr2
              obtain ⟨g, rfl, hg⟩ := hf8 hk
              exact ⟨rfl, hc08, ⟨g, rfl, by omega⟩⟩
            · obtain ⟨y, t6, rfl, rfl, A8, c8, hps8⟩ := ht8 hk
              have hk2 : y.kind = 2 := by simpa [kindIs] using hk
              have HR8 : Hid (r = some (setC x 7 x.text y.num, t6, op)) := by unfold Hid; rw [HR6.out]; simp only [pKind, if_pos hk2]; try rfl
              have hfd : ∀ W : World, (Instr.field 109 (.agg (encW y).toArray) 2).run Tryz.prog W = .ok (.int .i64 y.num) W := fun _ => by kernel_rfl
              have B8 := (B6.chg hch7 (by omega)).chg hch8 (by omega)
              have RB8 := (RB6.chg hch7 (by omega)).chg hch8 (by omega)
              have hre8 := (hre6.chg hch7 (by intro k hk; omega)).chg hch8 (by intro k hk; omega)
              clear q0 q1 q2 q3 q4 q5 q6 qf
              have q0 := (B8).cell 0
              have q1 := (B8).cell 1
              have q2 := (B8).cell 2
              have q3 := (B8).cell 3
              have q4 := (B8).cell 4
              have q5 := (B8).cell 5
              have q6 := (B8).cell 6
              simp at q0 q1 q2 q3 q4 q5 q6
              have qf := fun o => (B8).frozen o
              have z0 := (RB8).cell 0
              have z1 := (RB8).cell 1
              have z2 := (RB8).cell 2
              have z3 := (RB8).cell 3
              have z4 := (RB8).cell 4
              have z5 := (RB8).cell 5
              have z6 := (RB8).cell 6
              simp at z0 z1 z2 z3 z4 z5 z6
              have zf := fun o => (RB8).frozen o
              have hne1 : w3.heap.size ≠ w.heap.size := by omega
              go_wp2_with fail
              refine bodyPost_ret (v := .agg #[.int .i64 x.op, .slice Aa x.args.length ca, .slice As x.path.length cp, .string x.attr, .int .i64 7, .string x.text, .int .i64 y.num]) ?h1 rfl ⟨?h2, ?h3⟩
              case h1 => simp [results, Tryz.results159, go_sem, z0, z1, z2, z3, z4, z5, z6]
              case h2 => repeat' first | with_reducible exact hc08 | with_reducible refine Chg.setN ?_ ?_ | exact Nat.le_refl _ | (simp; done) | (simp; omega)
              case h3 =>
                rw [HR8.out]
                obtain ⟨Ax, cx, Sx, dx, he, hxa8, hxp8⟩ := hre8.rows
                obtain ⟨⟨rfl, rfl⟩, rfl, rfl⟩ : (Aa = Ax ∧ ca = cx) ∧ As = Sx ∧ cp = dx := by simpa using he
                refine ⟨[.int .i64 x.op, .slice Aa x.args.length ca, .slice As x.path.length cp, .string x.attr, .int .i64 7, .string x.text, .int .i64 y.num], A8, c8, rfl, ?h4, ?h5, rfl, ?h6⟩
                case h4 =>
                  refine RE.of_rows (x := setC x 7 x.text y.num) ?h7 ?h8
                  case h7 => exact (hxa8.chg (p := fun k => k = w3.heap.size ∨ k = w.heap.size) (by repeat' (first | with_reducible exact Chg.refl _ _ | with_reducible assumption | with_reducible refine Chg.al ?_ | with_reducible refine Chg.set ?_ ?_ | with_reducible refine Chg.dr ?_ | with_reducible refine Chg.dn ?_ | with_reducible rfl | omega | (simp; done) | (simp; omega))) (by intro k hk; omega)).mono (by intro k hk; omega)
                  case h8 => exact (hxp8.chg (p := fun k => k = w3.heap.size ∨ k = w.heap.size) (by repeat' (first | with_reducible exact Chg.refl _ _ | with_reducible assumption | with_reducible refine Chg.al ?_ | with_reducible refine Chg.set ?_ ?_ | with_reducible refine Chg.dr ?_ | with_reducible refine Chg.dn ?_ | with_reducible rfl | omega | (simp; done) | (simp; omega))) (by intro k hk; omega)).mono (by intro k hk; omega)
                case h5 => repeat' first | with_reducible exact hps8 | with_reducible refine PS.setN ?_ ?_ ?_ | (intro b hb; have := hpw b hb; simp; omega) | (simp; omega)
                case h6 => intro b hb; have := hpw b hb; simp; omega
        · obtain ⟨y0, t5, rfl⟩ := signB_cons hs6
          have HR6 : Hid (r = match pKind 2 t5 with | some (y, r) => some (setC x 6 x.text y.num, r, op) | none => none) := by unfold Hid; rw [HR5.out]; simp only [sg, hs6, if_true, List.tail_cons, Bool.false_eq_true, if_false]
          clear HR5 hs6
          go_wp2_with fail
          have hps6 := hps5.setN (ad := ⟨w3.heap.size, 4, none⟩) (u := .int .i64 6) (by simp; omega) (fun b hb => by have := hpw3 b hb; simp; omega)
          have B6 := B5.set 4 (.int .i64 6)
          have RB6 := RB5.far (a := ⟨w3.heap.size, 4, none⟩) (by simp; omega) (.int .i64 6)
          have hre6 := hre5.chg (p := fun k => k = w3.heap.size) (Chg.set (ad := ⟨w3.heap.size, 4, none⟩) (u := .int .i64 6) rfl (Chg.refl _ _)) (by intro k hk; omega)
          have hc06 := hc05.setN (ad := ⟨w3.heap.size, 4, none⟩) (u := .int .i64 6) (by simp; omega)
          have hs6 : (w5.setCell ⟨w3.heap.size, 4, none⟩ (.int .i64 6)).heap.size = w5.heap.size := by simp
          simp only [List.setIfInBounds_toArray, List.set_cons_zero, List.set_cons_succ] at B6
          generalize w5.setCell ⟨w3.heap.size, 4, none⟩ (.int .i64 6) = w6 at *
          refine (take_any w6 pb ok y0 t5 A5 c5 e0 e1 e2 e3 ne op hps6 (fun b hb => by rw [hs6]; exact hpw5 b hb)).mono ?_
          rintro e w7 ⟨rfl, hch7, A7, c7, hps7⟩
          have hc07 := hc06.trans hch7
          have hs67 := hch7.size
          go_wp2_with fail
          refine (wantKind_any 2 w7 pb ok t5 A7 c7 e0 e1 e2 e3 ne op hps7 (fun b hb => by have := hpw5 b hb; omega)).mono ?_
          rintro e w8 ⟨hch8, ht8, hf8⟩
          have hc08 := hc07.trans hch8
          have hs78 := hch8.size
          cases hk : kindIs t5 2
          · have hr2 : r = none := by
              rw [HR6.out]
              cases t5 with
              | nil => rfl
              | cons y t6 => simp only [kindIs, decide_eq_false_iff_not] at hk; simp only [pKind, if_neg hk]; try rfl
            subst hr2
            obtain ⟨g, rfl, hg⟩ := hf8 hk
            exact ⟨rfl, hc08, ⟨g, rfl, by omega⟩⟩
          · obtain ⟨y, t6, rfl, rfl, A8, c8, hps8⟩ := ht8 hk
            have hk2 : y.kind = 2 := by simpa [kindIs] using hk
            have HR8 : Hid (r = some (setC x 6 x.text y.num, t6, op)) := by unfold Hid; rw [HR6.out]; simp only [pKind, if_pos hk2]; try rfl
            have hfd : ∀ W : World, (Instr.field 109 (.agg (encW y).toArray) 2).run Tryz.prog W = .ok (.int .i64 y.num) W := fun _ => by kernel_rfl
            have B8 := (B6.chg hch7 (by omega)).chg hch8 (by omega)
            have RB8 := (RB6.chg hch7 (by omega)).chg hch8 (by omega)
            have hre8 := (hre6.chg hch7 (by intro k hk; omega)).chg hch8 (by intro k hk; omega)
            clear q0 q1 q2 q3 q4 q5 q6 qf
            have q0 := (B8).cell 0
            have q1 := (B8).cell 1
            have q2 := (B8).cell 2
            have q3 := (B8).cell 3
            have q4 := (B8).cell 4
            have q5 := (B8).cell 5
            have q6 := (B8).cell 6
            simp at q0 q1 q2 q3 q4 q5 q6
            have qf := fun o => (B8).frozen o
            have z0 := (RB8).cell 0
            have z1 := (RB8).cell 1
            have z2 := (RB8).cell 2
            have z3 := (RB8).cell 3
            have z4 := (RB8).cell 4
            have z5 := (RB8).cell 5
            have z6 := (RB8).cell 6
            simp at z0 z1 z2 z3 z4 z5 z6
            have zf := fun o => (RB8).frozen o
            have hne1 : w3.heap.size ≠ w.heap.size := by omega
            go_wp2_with fail
            refine bodyPost_ret (v := .agg #[.int .i64 x.op, .slice Aa x.args.length ca, .slice As x.path.length cp, .string x.attr, .int .i64 6, .string x.text, .int .i64 y.num]) ?h1 rfl ⟨?h2, ?h3⟩
            case h1 => simp [results, Tryz.results159, go_sem, z0, z1, z2, z3, z4, z5, z6]
            case h2 => repeat' first | with_reducible exact hc08 | with_reducible refine Chg.setN ?_ ?_ | exact Nat.le_refl _ | (simp; done) | (simp; omega)
            case h3 =>
              rw [HR8.out]
              obtain ⟨Ax, cx, Sx, dx, he, hxa8, hxp8⟩ := hre8.rows
              obtain ⟨⟨rfl, rfl⟩, rfl, rfl⟩ : (Aa = Ax ∧ ca = cx) ∧ As = Sx ∧ cp = dx := by simpa using he
              refine ⟨[.int .i64 x.op, .slice Aa x.args.length ca, .slice As x.path.length cp, .string x.attr, .int .i64 6, .string x.text, .int .i64 y.num], A8, c8, rfl, ?h4, ?h5, rfl, ?h6⟩
              case h4 =>
                refine RE.of_rows (x := setC x 6 x.text y.num) ?h7 ?h8
                case h7 => exact (hxa8.chg (p := fun k => k = w3.heap.size ∨ k = w.heap.size) (by repeat' (first | with_reducible exact Chg.refl _ _ | with_reducible assumption | with_reducible refine Chg.al ?_ | with_reducible refine Chg.set ?_ ?_ | with_reducible refine Chg.dr ?_ | with_reducible refine Chg.dn ?_ | with_reducible rfl | omega | (simp; done) | (simp; omega))) (by intro k hk; omega)).mono (by intro k hk; omega)
                case h8 => exact (hxp8.chg (p := fun k => k = w3.heap.size ∨ k = w.heap.size) (by repeat' (first | with_reducible exact Chg.refl _ _ | with_reducible assumption | with_reducible refine Chg.al ?_ | with_reducible refine Chg.set ?_ ?_ | with_reducible refine Chg.dr ?_ | with_reducible refine Chg.dn ?_ | with_reducible rfl | omega | (simp; done) | (simp; omega))) (by intro k hk; omega)).mono (by intro k hk; omega)
              case h5 => repeat' first | with_reducible exact hps8 | with_reducible refine PS.setN ?_ ?_ ?_ | (intro b hb; have := hpw b hb; simp; omega) | (simp; omega)
              case h6 => intro b hb; have := hpw b hb; simp; omega
end Go.Proofs.YtbbmmeaicilabaaGreatDoor

/- ask's parser: and, or, given parts. Conditions: the words lie in memory. -/
namespace Go.Proofs.YtbbmmeaicilabaaGreatDoor
open Go.RowKit

/-- contract of parts over a method value -/
def PartsOf (f : Nat) (L : Nat) (ne : Int) (between : ByteArray) (code : Int) (g : List Wd → Int → Ans Expr) : Prop :=
  ∀ (w : World) (pb : Nat) (ok : Nat → Prop) (ws : List Wd) (A : Option Addr) (c : Nat) (e0 e1 e2 e3 op : Int), ws.length < L → PS w pb ok ws A c e0 e1 e2 e3 ne op → (∀ b, ok b → b < w.heap.size) → 0 ≤ op → op ≤ ne → ne ≤ 1000 →
    Calls Tryz.prog 141 #[.pointer (some ⟨pb, 0, none⟩), .string between, .int .i64 code, .func (.func f) #[.pointer (some ⟨pb, 0, none⟩)] #[]] w (ExprP (g ws op) op pb ok e0 e1 e2 e3 ne w)

set_option maxRecDepth 10000 in
set_option maxHeartbeats 4000000 in
theorem pand_any (L : Nat) (ne : Int) (g : List Wd → Int → Ans Expr) (H : PartsOf 154 L ne ⟨#[97, 110, 100]⟩ 0 g) : Reads 142 L ne g := by
  intro w pb ok ws A c e0 e1 e2 e3 op hL h hpw h0 h1 hne
  obtain ⟨W0, hW0⟩ : ∃ W, W = w.alloc (.cells #[.int .i64 0, .slice none 0 0, .slice none 0 0, .string ⟨#[]⟩, .int .i64 0, .string ⟨#[]⟩, .int .i64 0] 64) := ⟨_, rfl⟩
  have hbW : Below w.heap.size w W0 := by rw [hW0]; exact bl1 (Nat.le_refl _)
  have RB : Blk W0 w.heap.size #[.int .i64 0, .slice none 0 0, .slice none 0 0, .string ⟨#[]⟩, .int .i64 0, .string ⟨#[]⟩, .int .i64 0] 64 := by rw [hW0]; exact Blk.new _ _ _
  have hsz0 : w.heap.size < W0.heap.size := RB.lt
  have hpb := h.blk.lt
  have HC := Lib.hid (H W0 pb ok ws A c e0 e1 e2 e3 op hL (h.below hbW) (fun b hb => Nat.lt_trans (hpw b hb) hsz0) h0 h1 hne)
  clear h H
  generalize g ws op = r at *
  go_enter Tryz.func142, Tryz.ntmps142
  go_wp2_with fail
  rw [← hW0]
  refine HC.out.mono ?_
  rintro e w1 ⟨hch, hm⟩
  have hc1 : Chg (fun b => b = pb) w w1 := (Chg.of_below hbW).trans hch
  cases r with
  | none =>
    obtain ⟨g', rfl, hg⟩ := hm
    exact ⟨rfl, hc1, ⟨g', rfl, by omega⟩⟩
  | some r0 =>
    obtain ⟨x, ws', op'⟩ := r0
    obtain ⟨cs, A', c', rfl, hre, hps, rfl, hpw1⟩ := hm
    obtain ⟨Aa, ca, As, cp, rfl, -, -⟩ := hre.rows
    have RB1 := RB.chg hch (by omega)
    have z0 := (RB1).cell 0
    have z1 := (RB1).cell 1
    have z2 := (RB1).cell 2
    have z3 := (RB1).cell 3
    have z4 := (RB1).cell 4
    have z5 := (RB1).cell 5
    have z6 := (RB1).cell 6
    simp at z0 z1 z2 z3 z4 z5 z6
    have zf := fun o => (RB1).frozen o
    go_wp2_with fail
    refine bodyPost_ret (v := .agg ([.int .i64 x.op, .slice Aa x.args.length ca, .slice As x.path.length cp, .string x.attr, .int .i64 x.cmp, .string x.text, .int .i64 x.num]).toArray) ?h1 rfl ⟨?h2, ⟨_, A', c', rfl, ?h4, ?h5, rfl, ?h6⟩⟩
    case h1 => simp [results, Tryz.results142, go_sem, z0, z1, z2, z3, z4, z5, z6]
    case h2 => repeat' first | with_reducible exact hc1 | with_reducible refine Chg.setN ?_ ?_ | exact Nat.le_refl _
    case h4 => exact (hre.chg (p := fun k => k = w.heap.size) (by repeat' (first | with_reducible exact Chg.refl _ _ | with_reducible assumption | with_reducible refine Chg.al ?_ | with_reducible refine Chg.set ?_ ?_ | with_reducible refine Chg.dr ?_ | with_reducible refine Chg.dn ?_ | with_reducible rfl | omega | (simp; done) | (simp; omega))) (by intro k hk; omega)).mono (by intro k hk; omega)
    case h5 => repeat' first | with_reducible exact hps | with_reducible refine PS.setN ?_ ?_ ?_ | (intro b hb; have := hpw b hb; simp; omega) | (simp; omega)
    case h6 => intro b hb; have := hpw1 b hb; simpa using this
set_option maxRecDepth 10000 in
set_option maxHeartbeats 4000000 in
theorem por_any (L : Nat) (ne : Int) (g : List Wd → Int → Ans Expr) (H : PartsOf 142 L ne ⟨#[111, 114]⟩ 1 g) : Reads 122 L ne g := by
  intro w pb ok ws A c e0 e1 e2 e3 op hL h hpw h0 h1 hne
  obtain ⟨W0, hW0⟩ : ∃ W, W = w.alloc (.cells #[.int .i64 0, .slice none 0 0, .slice none 0 0, .string ⟨#[]⟩, .int .i64 0, .string ⟨#[]⟩, .int .i64 0] 64) := ⟨_, rfl⟩
  have hbW : Below w.heap.size w W0 := by rw [hW0]; exact bl1 (Nat.le_refl _)
  have RB : Blk W0 w.heap.size #[.int .i64 0, .slice none 0 0, .slice none 0 0, .string ⟨#[]⟩, .int .i64 0, .string ⟨#[]⟩, .int .i64 0] 64 := by rw [hW0]; exact Blk.new _ _ _
  have hsz0 : w.heap.size < W0.heap.size := RB.lt
  have hpb := h.blk.lt
  have HC := Lib.hid (H W0 pb ok ws A c e0 e1 e2 e3 op hL (h.below hbW) (fun b hb => Nat.lt_trans (hpw b hb) hsz0) h0 h1 hne)
  clear h H
  generalize g ws op = r at *
  go_enter Tryz.func122, Tryz.ntmps122
  go_wp2_with fail
  rw [← hW0]
  refine HC.out.mono ?_
  rintro e w1 ⟨hch, hm⟩
  have hc1 : Chg (fun b => b = pb) w w1 := (Chg.of_below hbW).trans hch
  cases r with
  | none =>
    obtain ⟨g', rfl, hg⟩ := hm
    exact ⟨rfl, hc1, ⟨g', rfl, by omega⟩⟩
  | some r0 =>
    obtain ⟨x, ws', op'⟩ := r0
    obtain ⟨cs, A', c', rfl, hre, hps, rfl, hpw1⟩ := hm
    obtain ⟨Aa, ca, As, cp, rfl, -, -⟩ := hre.rows
    have RB1 := RB.chg hch (by omega)
    have z0 := (RB1).cell 0
    have z1 := (RB1).cell 1
    have z2 := (RB1).cell 2
    have z3 := (RB1).cell 3
    have z4 := (RB1).cell 4
    have z5 := (RB1).cell 5
    have z6 := (RB1).cell 6
    simp at z0 z1 z2 z3 z4 z5 z6
    have zf := fun o => (RB1).frozen o
    go_wp2_with fail
    refine bodyPost_ret (v := .agg ([.int .i64 x.op, .slice Aa x.args.length ca, .slice As x.path.length cp, .string x.attr, .int .i64 x.cmp, .string x.text, .int .i64 x.num]).toArray) ?h1 rfl ⟨?h2, ⟨_, A', c', rfl, ?h4, ?h5, rfl, ?h6⟩⟩
    case h1 => simp [results, Tryz.results122, go_sem, z0, z1, z2, z3, z4, z5, z6]
    case h2 => repeat' first | with_reducible exact hc1 | with_reducible refine Chg.setN ?_ ?_ | exact Nat.le_refl _
    case h4 => exact (hre.chg (p := fun k => k = w.heap.size) (by repeat' (first | with_reducible exact Chg.refl _ _ | with_reducible assumption | with_reducible refine Chg.al ?_ | with_reducible refine Chg.set ?_ ?_ | with_reducible refine Chg.dr ?_ | with_reducible refine Chg.dn ?_ | with_reducible rfl | omega | (simp; done) | (simp; omega))) (by intro k hk; omega)).mono (by intro k hk; omega)
    case h5 => repeat' first | with_reducible exact hps | with_reducible refine PS.setN ?_ ?_ ?_ | (intro b hb; have := hpw b hb; simp; omega) | (simp; omega)
    case h6 => intro b hb; have := hpw1 b hb; simpa using this
end Go.Proofs.YtbbmmeaicilabaaGreatDoor
