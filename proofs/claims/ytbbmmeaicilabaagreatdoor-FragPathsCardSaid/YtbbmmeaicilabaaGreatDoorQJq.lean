/- ask's parser: step (an axis, a test, predicates). Conditions: the words lie in memory; what reads an expression does so by its contract. -/
import Derived.Test.YtbbmmeaicilabaaGreatDoorQJo
import Derived.Deep.CutBlock
set_option linter.unusedVariables false
set_option linter.unusedSimpArgs false
namespace Go.Proofs.YtbbmmeaicilabaaGreatDoor
open Go.RowKit

/-- is an axis written ahead? -/
def axB (ws : List Wd) : Bool := match ws with | x :: _ => decide (x.kind = 0) && signB ws 1 ⟨#[58, 58]⟩ | [] => false
theorem pAxis_eq (ws : List Wd) : pAxis ws = if axB ws then (match ws with | x :: t => (match axisF x.text with | some a => some (a, t.tail) | none => none) | [] => none) else some (0, ws) := by
  cases ws with
  | nil => rfl
  | cons x t => rfl
section
variable {w0 : World} {pb : Nat} {ok : Nat → Prop} {ws : List Wd} {e0 e1 e2 e3 ne op : Int} {wx : World}
theorem St.endsS {x : Step} {cs : List Value} (h : St w0 pb ok ws e0 e1 e2 e3 ne op wx) (hre : RS wx (fun k => w0.heap.size ≤ k) x cs) : StepE (some (x, ws, op)) op pb ok e0 e1 e2 e3 ne w0 (.returned (.agg cs.toArray)) wx := by
  obtain ⟨A, c, hps⟩ := h.ps
  exact ⟨h.ch, cs, A, c, rfl, hre, hps, rfl, h.hk⟩
end
/-- step's state behind the axis; behind the test -/
def AxI (w : World) (pb : Nat) (ok : Nat → Prop) (e0 e1 e2 e3 ne op : Int) (ws : List Wd) (wx : World) : Prop :=
  ∃ a w1, pAxis ws = some (a, w1) ∧ St w pb ok w1 e0 e1 e2 e3 ne op wx ∧ Blk wx w.heap.size #[.int .i64 0, .int .i64 0, .string ⟨#[]⟩, .slice none 0 0] 55 ∧ Blk wx (w.heap.size + 1) #[.int .i64 a, .int .i64 0, .string ⟨#[]⟩, .slice none 0 0] 55
def TeI (w : World) (pb : Nat) (ok : Nat → Prop) (e0 e1 e2 e3 ne op : Int) (a : Int) (w1 : List Wd) (wx : World) : Prop :=
  ∃ t nm w2, pTest w1 = some (t, nm, w2) ∧ St w pb ok w2 e0 e1 e2 e3 ne op wx ∧ Blk wx w.heap.size #[.int .i64 0, .int .i64 0, .string ⟨#[]⟩, .slice none 0 0] 55 ∧ Blk wx (w.heap.size + 1) #[.int .i64 a, .int .i64 t, .string nm, .slice none 0 0] 55

/-- step's state in its loop: the predicates so far, the words left -/
def PrI (w : World) (pb : Nat) (ok : Nat → Prop) (e0 e1 e2 e3 ne : Int) (a t : Int) (nm : ByteArray) (acc : List Expr) (wl : List Wd) (op : Int) (wx : World) : Prop :=
  ∃ v, Blk wx w.heap.size #[.int .i64 0, .int .i64 0, .string ⟨#[]⟩, .slice none 0 0] 55 ∧ Blk wx (w.heap.size + 1) #[.int .i64 a, .int .i64 t, .string nm, v] 55 ∧ OwnK kE 64 wx (w.heap.size + 2) (fun k => w.heap.size + 2 ≤ k) v acc ∧ St w pb ok wl e0 e1 e2 e3 ne op wx ∧ w.heap.size + 2 ≤ wx.heap.size
section
variable {w : World} {pb : Nat} {ok : Nat → Prop} {e0 e1 e2 e3 ne : Int} {a t : Int} {nm : ByteArray} {acc : List Expr} {wl : List Wd} {op : Int} {wx : World}
theorem PrI.left (h : PrI w pb ok e0 e1 e2 e3 ne a t nm acc wl op wx) : leftIn pb wx = wl.length := by
  obtain ⟨v, -, -, -, S, -⟩ := h
  obtain ⟨A, c, hps⟩ := S.ps
  exact hps.left
theorem PrI.went {wl' : List Wd} {op' : Int} {w7 : World} (h : PrI w pb ok e0 e1 e2 e3 ne a t nm acc wl op wx) (hc : Chg (fun b => b = pb) wx w7) (S7 : St w pb ok wl' e0 e1 e2 e3 ne op' w7) : PrI w pb ok e0 e1 e2 e3 ne a t nm acc wl' op' w7 := by
  obtain ⟨v, BT, BX, HO, S, hsz⟩ := h
  have := S.pbl
  exact ⟨v, BT.chg hc (by omega), BX.chg hc (by omega), HO.chg hc (by intro k hk; omega), S7, Nat.le_trans hsz hc.size⟩
theorem PrI.pushed {w1 w5 : World} {x : Expr} {v v1 : Value} {o : Obj}
    (BT : Blk w1 w.heap.size #[.int .i64 0, .int .i64 0, .string ⟨#[]⟩, .slice none 0 0] 55) (BX : Blk w1 (w.heap.size + 1) #[.int .i64 a, .int .i64 t, .string nm, v] 55) (S : St w pb ok wl e0 e1 e2 e3 ne op w1) (hsz : w.heap.size + 2 ≤ w1.heap.size)
    (hv : ∀ j, v.ownBlock = some j → w.heap.size + 2 ≤ j) (HO5 : OwnK kE 64 w5 (w.heap.size + 2) (fun k => w.heap.size + 2 ≤ k) v1 (acc ++ [x])) (hg5 : (w1.alloc o).grownBy w5 v.ownBlock) :
    PrI w pb ok e0 e1 e2 e3 ne a t nm (acc ++ [x]) wl op (w5.setCell ⟨w.heap.size + 1, 3, none⟩ v1) := by
  have hbl : Below w1.heap.size w1 (w1.alloc o) := bl1 (Nat.le_refl _)
  have BT5 := (BT.below hbl).grown hg5 (fun e => by have := hv _ e.symm; omega)
  have BX5 := (BX.below hbl).grown hg5 (fun e => by have := hv _ e.symm; omega)
  have hs5 : w1.heap.size + 1 ≤ w5.heap.size := by have := hg5.size; simp at this; omega
  have hcp : Chg (fun k => w.heap.size + 2 ≤ k) w1 w5 := (Chg.of_below hbl).grown hg5 (fun j hj => .inl (hv j hj))
  refine ⟨v1, BT5.far (a := ⟨w.heap.size + 1, 3, none⟩) (by simp) _, ?_, ?_, ?_, ?_⟩
  · have h := BX5.set 3 v1; simpa using h
  · exact HO5.chg (p := fun k => k = w.heap.size + 1) (Chg.set rfl (Chg.refl _ _)) (by intro k hk; omega)
  · exact (S.far hcp (fun k hk => by omega)).set (by simp)
  · rw [World.setCell]; simp; omega
theorem row_litE {w : World} {x : Expr} {okp : Nat → Prop} {cs : List Value} (h : RE w okp x cs) : RowK kE (w.alloc (.cells cs.toArray 64)) (fun k => okp k ∨ k = w.heap.size) (some ⟨w.heap.size, 0, none⟩) [x] := by
  obtain ⟨Aa, ca, As, cp, rfl, -, -⟩ := h.rows
  have B := Blk.new w #[.int .i64 x.op, .slice Aa x.args.length ca, .slice As x.path.length cp, .string x.attr, .int .i64 x.cmp, .string x.text, .int .i64 x.num] 64
  exact RowK.oneEc (hf := fun o => B.frozen o) x Aa ca As cp (.inr rfl) ((RE.bel (bl1 (Nat.le_refl _)) h).mono (fun k hk => .inl hk)) ((B.cell 0).trans rfl) ((B.cell 1).trans rfl) ((B.cell 2).trans rfl) ((B.cell 3).trans rfl) ((B.cell 4).trans rfl) ((B.cell 5).trans rfl) ((B.cell 6).trans rfl)
end

set_option maxRecDepth 100000 in
set_option maxHeartbeats 16000000 in
theorem step_any (L L' F : Nat) (hLL : L ≤ L' + 1) (ne : Int) (or : List Wd → Int → Ans Expr) (HS : Short or) (H : Reads 122 L' ne or) (hF : L ≤ F) (hLm : L ≤ 1000000) : ReadsS L ne (pStep or ne F) := by
  intro w pb ok ws A c e0 e1 e2 e3 op hL h hpw h0 h1 hne
  have hpb := h.blk.lt
  obtain ⟨W0, hW0⟩ : ∃ W, W = w.alloc (.cells #[.int .i64 0, .int .i64 0, .string ⟨#[]⟩, .slice none 0 0] 55) := ⟨_, rfl⟩
  have S0 : St w pb ok ws e0 e1 e2 e3 ne op W0 := by rw [hW0]; exact (St.start h hpw h0 h1 hne).al
  have BT : Blk W0 w.heap.size #[.int .i64 0, .int .i64 0, .string ⟨#[]⟩, .slice none 0 0] 55 := by rw [hW0]; exact Blk.new _ _ _
  have hs0 := BT.lt
  have hs1 : W0.heap.size = w.heap.size + 1 := by rw [hW0]; simp
  have HS1 := Lib.hid hs1
  have HH := Lib.hid H
  have HSh := Lib.hid HS
  clear h H HS hs1
  generalize hr : pStep or ne F ws op = r
  have HR := Lib.hid hr
  clear hr
  go_enter Tryz.func96, Tryz.ntmps96
  go_wp2_with fail
  rw [← hW0]
  clear hW0
  refine (S0.sign 0 ⟨#[46]⟩).mono ?_
  rintro e w1 ⟨rfl, rfl⟩
  cases hs : signB ws 0 ⟨#[46]⟩
  case' true =>
    obtain ⟨x0, t0, rfl⟩ := signB_cons hs
    have hr2 : r = some (.mk 3 3 ByteArray.empty [], t0, op) := by rw [← HR.out]; unfold pStep sg; rw [hs]; rfl
    subst hr2
    go_wp2_with fail
    refine S0.take.mono ?_
    rintro e w2 ⟨rfl, hch2, S2⟩
    have BT2 := BT.chg hch2 (by omega)
    have z0 := (BT2).cell 0
    have z1 := (BT2).cell 1
    have z2 := (BT2).cell 2
    have z3 := (BT2).cell 3
    simp at z0 z1 z2 z3
    have zf := fun o => (BT2).frozen o
    go_wp2_with fail
    refine bodyPost_ret (v := .agg [.int .i64 3, .int .i64 3, .string ⟨#[]⟩, .slice none 0 0].toArray) ?h1 rfl ?h2
    case h1 => simp [results, Tryz.results96, go_sem, z0, z1, z2, z3]
    case h2 =>
      refine St.endsS ?h3 (RS.of_rows (x := .mk 3 3 ByteArray.empty []) (RowK.nil _ _ _))
      case h3 => repeat' first | with_reducible exact S2 | with_reducible refine St.set ?_ ?_ | (simp; done)
  have HB : Hid (r = match pAxis ws with
    | none => none
    | some (a, w1) => match pTest w1 with
      | none => none
      | some (t, nm, w2) => match pPreds or ne F w2 op [] with
        | none => none
        | some (wh, w3, o3) => some (.mk a t nm wh, w3, o3)) := by unfold Hid; rw [← HR.out]; unfold pStep sg; rw [hs]; rfl
  go_upto_region 5 with fail
  have SX := S0.al (o := .cells #[.int .i64 0, .int .i64 0, .string ⟨#[]⟩, .slice none 0 0] 55)
  have BX := Blk.new W0 #[.int .i64 0, .int .i64 0, .string ⟨#[]⟩, .slice none 0 0] 55
  have BT1 := BT.al (.cells #[.int .i64 0, .int .i64 0, .string ⟨#[]⟩, .slice none 0 0] 55)
  rw [HS1.out] at BX ⊢
  generalize W0.alloc (.cells #[.int .i64 0, .int .i64 0, .string ⟨#[]⟩, .slice none 0 0] 55) = W1 at *
  clear S0 BT
  go_cut [30] (fun v wx => v = .bool (axB ws) ∧ W1 = wx)
  case first =>
    obtain ⟨A1, c1, hps⟩ := SX.ps
    have hb := hps.blk
    have q0 := (hb).cell 0
    have q1 := (hb).cell 1
    have q2 := (hb).cell 2
    have q3 := (hb).cell 3
    have q4 := (hb).cell 4
    have q5 := (hb).cell 5
    have q6 := (hb).cell 6
    simp at q0 q1 q2 q3 q4 q5 q6
    have qf := fun o => (hb).frozen o
    cases ws with
    | nil =>
      go_wp2_with fail
      go_meet
      case rel => exact ⟨rfl, rfl⟩
    | cons x t =>
      obtain ⟨b, off, hA, hbw, x0, x1, -, -, -, -, -⟩ := hps.row.atW 0 (by simp)
      subst hA
      simp only [List.getElem_cons_zero, Nat.zero_mul, Nat.add_zero] at x0 x1
      obtain ⟨N, hN, hN0⟩ : ∃ N : Nat, N = (x :: t).length ∧ (0 : Int) < (N : Int) := ⟨_, rfl, by simp only [List.length_cons]; omega⟩
      rw [← hN] at q0
      have HN := Lib.hid hN
      clear hN hb hps
      by_cases hk : x.kind = 0
      · have hkb : (x.kind == 0) = true := by simp [hk]
        have hax : axB (x :: t) = signB (x :: t) 1 ⟨#[58, 58]⟩ := by unfold axB; simp [hk]
        have HAX := Lib.hid hax
        clear hk hax
        go_wp2_with fail
        refine (SX.sign 1 ⟨#[58, 58]⟩).mono ?_
        rintro e w2 ⟨rfl, rfl⟩
        go_wp2_with fail
        go_meet
        case rel => exact ⟨by rw [HAX.out], rfl⟩
      · have hkb : (x.kind == 0) = false := by simp [hk]
        have hax : axB (x :: t) = false := by unfold axB; simp [hk]
        have HAX := Lib.hid hax
        clear hk hax
        go_wp2_with fail
        go_meet
        case rel => exact ⟨by rw [HAX.out], rfl⟩
  case rest =>
    obtain ⟨rfl, rfl⟩ := hcut
    go_upto_if 30 with fail
    go_cut [31] (fun _ wx => AxI w pb ok e0 e1 e2 e3 ne op ws wx)
    case first =>
      cases hax : axB ws
      · go_wp2_with fail
        go_meet
        case rel => exact ⟨0, ws, by rw [pAxis_eq, hax]; rfl, SX, BT1, BX⟩
      · cases ws with
        | nil => cases hax
        | cons x t =>
        have hax2 : x.kind = 0 ∧ signB (x :: t) 1 ⟨#[58, 58]⟩ = true := by simpa [axB] using hax
        obtain ⟨y, t1, rfl⟩ : ∃ y t1, t = y :: t1 := by
          cases t with
          | nil => have := hax2.2; simp [signB] at this
          | cons y t1 => exact ⟨y, t1, rfl⟩
        have HAX : Hid (pAxis (x :: y :: t1) = match axisF x.text with | some a => some (a, t1) | none => none) := by unfold Hid; rw [pAxis_eq, hax]; rfl
        obtain ⟨A1, c1, hps⟩ := SX.ps
        have hb := hps.blk
        have q0 := (hb).cell 0
        have q1 := (hb).cell 1
        have q2 := (hb).cell 2
        have q3 := (hb).cell 3
        have q4 := (hb).cell 4
        have q5 := (hb).cell 5
        have q6 := (hb).cell 6
        simp at q0 q1 q2 q3 q4 q5 q6
        have qf := fun o => (hb).frozen o
        obtain ⟨b, off, hA, hbw, x0, x1, -, -, -, -, -⟩ := hps.row.atW 0 (by simp)
        subst hA
        simp only [List.getElem_cons_zero, Nat.zero_mul, Nat.add_zero] at x0 x1
        obtain ⟨N, hN, hN0⟩ : ∃ N : Nat, N = t1.length + 1 + 1 ∧ (0 : Int) < (N : Int) := ⟨_, rfl, by omega⟩
        rw [← hN] at q0
        have HN := Lib.hid hN
        clear hN hb hps hax2 hax x0
        go_wp2_with fail
        refine (axisNamed_any x.text W1).mono ?_
        rintro e w2 ⟨rfl, hw2⟩
        subst hw2
        cases hf : axisF x.text
        · have hr2 : r = none := by rw [HB.out, HAX.out, hf]
          subst hr2
          unfold optRes
          go_wp2_with fail
          refine SX.take.mono ?_
          rintro e w3 ⟨rfl, hch3, S3⟩
          go_wp2_with fail
          refine (S3.give 105).mono ?_
          rintro e w4 ⟨h1', g, rfl, hg⟩
          exact ⟨rfl, h1', g, rfl, hg⟩
        rename_i a
        unfold optRes
        have m0 := (BX).cell 0
        have m1 := (BX).cell 1
        have m2 := (BX).cell 2
        have m3 := (BX).cell 3
        simp at m0 m1 m2 m3
        have mf := fun o => (BX).frozen o
        go_wp2_with fail
        have S3 := SX.set (a := ⟨w.heap.size + 1, 0, none⟩) (u := .int .i64 a) (by simp)
        have BX3 := BX.set 0 (.int .i64 a)
        have BT3 := BT1.far (a := ⟨w.heap.size + 1, 0, none⟩) (by simp) (.int .i64 a)
        simp only [List.setIfInBounds_toArray, List.set_cons_zero, List.set_cons_succ] at BX3
        clear m0 m1 m2 m3 mf q0 q1 q2 q3 q4 q5 q6 qf
        generalize w2.setCell ⟨w.heap.size + 1, 0, none⟩ (.int .i64 a) = W3 at *
        refine S3.take.mono ?_
        rintro e w4 ⟨rfl, hch4, S4⟩
        go_wp2_with fail
        refine S4.take.mono ?_
        rintro e w5 ⟨rfl, hch5, S5⟩
        go_wp2_with fail
        go_meet
        case rel => exact ⟨a, t1, by rw [HAX.out, hf], S5, (BT3.chg hch4 (by omega)).chg hch5 (by omega), (BX3.chg hch4 (by omega)).chg hch5 (by omega)⟩
    case rest =>
      obtain ⟨a, w1, hax, S2, BT2, BX2⟩ := hcut
      have HB2 : Hid (r = match pTest w1 with
        | none => none
        | some (t, nm, w2) => match pPreds or ne F w2 op [] with
          | none => none
          | some (wh, w3, o3) => some (.mk a t nm wh, w3, o3)) := by unfold Hid; rw [HB.out, hax]
      have hlw1 : w1.length ≤ ws.length := axis_le hax
      clear SX BT1 BX hax
      go_upto_block 0 with fail
      go_cut [58] (fun _ wx => TeI w pb ok e0 e1 e2 e3 ne op a w1 wx)
      case first =>
        have m0 := (BX2).cell 0
        have m1 := (BX2).cell 1
        have m2 := (BX2).cell 2
        have m3 := (BX2).cell 3
        simp at m0 m1 m2 m3
        have mf := fun o => (BX2).frozen o
        go_wp2_with fail
        refine (S2.sign 0 ⟨#[42]⟩).mono ?_
        rintro e w3 ⟨rfl, rfl⟩
        cases hs1 : signB w1 0 ⟨#[42]⟩
        · have HT : Hid (pTest w1 = if (nameIs w1 ⟨#[116, 101, 120, 116]⟩ || nameIs w1 ⟨#[110, 111, 100, 101]⟩) && signB w1 1 ⟨#[40]⟩ then
              (match pWant ⟨#[41]⟩ w1.tail.tail with | some r => some (if nameIs w1 ⟨#[110, 111, 100, 101]⟩ then 3 else 2, ByteArray.empty, r) | none => none)
            else match pKind 0 w1 with | some (x, r) => some (0, x.text, r) | none => none) := by unfold Hid pTest sg; rw [hs1]; rfl
          obtain ⟨cB, hcB⟩ : ∃ c, c = ((nameIs w1 ⟨#[116, 101, 120, 116]⟩ || nameIs w1 ⟨#[110, 111, 100, 101]⟩) && signB w1 1 ⟨#[40]⟩) := ⟨_, rfl⟩
          have HCB := Lib.hid hcB
          clear hcB
          obtain ⟨Wt, rfl⟩ : ∃ W : World, W = wc := ⟨_, rfl⟩
          go_upto_region 17 with fail
          go_cut [64] (fun v wx => v = .bool cB ∧ Wt = wx)
          case first =>
            go_wp2_with fail
            refine (S2.name ⟨#[116, 101, 120, 116]⟩).mono ?_
            rintro e w3 ⟨rfl, rfl⟩
            cases hnt : nameIs w1 ⟨#[116, 101, 120, 116]⟩
            · go_wp2_with fail
              refine (S2.name ⟨#[110, 111, 100, 101]⟩).mono ?_
              rintro e w3 ⟨rfl, rfl⟩
              cases hnn : nameIs w1 ⟨#[110, 111, 100, 101]⟩
              · go_wp2_with fail
                go_meet
                case rel => exact ⟨by rw [HCB.out, hnt, hnn]; rfl, rfl⟩
              · go_wp2_with fail
                refine (S2.sign 1 ⟨#[40]⟩).mono ?_
                rintro e w3 ⟨rfl, rfl⟩
                go_wp2_with fail
                go_meet
                case rel => exact ⟨by rw [HCB.out, hnt, hnn]; simp, rfl⟩
            · go_wp2_with fail
              refine (S2.sign 1 ⟨#[40]⟩).mono ?_
              rintro e w3 ⟨rfl, rfl⟩
              go_wp2_with fail
              go_meet
              case rel => exact ⟨by rw [HCB.out, hnt]; simp, rfl⟩
          case rest =>
            obtain ⟨rfl, rfl⟩ := hcut
            cases hc : cB
            · have HT2 : Hid (pTest w1 = match pKind 0 w1 with | some (x, r) => some (0, x.text, r) | none => none) := by unfold Hid; rw [HT.out, ← HCB.out, hc]; rfl
              cases hki : pKind 0 w1
              · have hr2 : r = none := by rw [HB2.out, HT2.out, hki]
                subst hr2
                go_wp2_with fail
                refine (S2.kind_no hki).mono ?_
                rintro e w4 ⟨h1', g, rfl, hg⟩
                exact ⟨rfl, h1', g, rfl, hg⟩
              rename_i p4
              obtain ⟨y, t1⟩ := p4
              have hfd : ∀ (W : World), (Instr.field 109 (.agg (encW y).toArray) 1).run Tryz.prog W = .ok (.string y.text) W := fun _ => by kernel_rfl
              go_wp2_with fail
              refine (S2.kind_yes hki).mono ?_
              rintro e w4 ⟨rfl, hch4, S4⟩
              have BX4 := BX2.chg hch4 (by omega)
              have BT4 := BT2.chg hch4 (by omega)
              clear m0 m1 m2 m3 mf
              have m0 := (BX4).cell 0
              have m1 := (BX4).cell 1
              have m2 := (BX4).cell 2
              have m3 := (BX4).cell 3
              simp at m0 m1 m2 m3
              have mf := fun o => (BX4).frozen o
              go_wp2_with fail
              have S5 := S4.set (a := ⟨w.heap.size + 1, 2, none⟩) (u := .string y.text) (by simp)
              have BX5 := BX4.set 2 (.string y.text)
              have BT5 := BT4.far (a := ⟨w.heap.size + 1, 2, none⟩) (by simp) (.string y.text)
              simp only [List.setIfInBounds_toArray, List.set_cons_zero, List.set_cons_succ] at BX5
              go_meet
              case rel => exact ⟨0, y.text, t1, by rw [HT2.out, hki], S5, BT5, BX5⟩
            · have hcc : cB = true := hc
              rw [HCB.out] at hcc
              have hsp : signB w1 1 ⟨#[40]⟩ = true := by simp at hcc; exact hcc.2
              obtain ⟨x0, x1, t1, rfl⟩ : ∃ x0 x1 t1, w1 = x0 :: x1 :: t1 := by
                match w1, hsp with
                | [], h => simp [signB] at h
                | [_], h => simp [signB] at h
                | a :: b :: c, _ => exact ⟨a, b, c, rfl⟩
              have HT2 : Hid (pTest (x0 :: x1 :: t1) = match pWant ⟨#[41]⟩ t1 with | some r => some (if nameIs (x0 :: x1 :: t1) ⟨#[110, 111, 100, 101]⟩ then 3 else 2, ByteArray.empty, r) | none => none) := by unfold Hid; rw [HT.out, ← HCB.out, hc]; rfl
              clear hcc hsp
              go_wp2_with fail
              have S3 := S2.set (a := ⟨w.heap.size + 1, 1, none⟩) (u := .int .i64 2) (by simp)
              have BX3 := BX2.set 1 (.int .i64 2)
              have BT3 := BT2.far (a := ⟨w.heap.size + 1, 1, none⟩) (by simp) (.int .i64 2)
              simp only [List.setIfInBounds_toArray, List.set_cons_zero, List.set_cons_succ] at BX3
              refine (S3.name ⟨#[110, 111, 100, 101]⟩).mono ?_
              rintro e w4 ⟨rfl, rfl⟩
              clear m0 m1 m2 m3 mf
              have m0 := (BX3).cell 0
              have m1 := (BX3).cell 1
              have m2 := (BX3).cell 2
              have m3 := (BX3).cell 3
              simp at m0 m1 m2 m3
              have mf := fun o => (BX3).frozen o
              cases hnn : nameIs (x0 :: x1 :: t1) ⟨#[110, 111, 100, 101]⟩
              · go_wp2_with fail
                clear m0 m1 m2 m3 mf
                generalize Wt.setCell ⟨w.heap.size + 1, 1, none⟩ (.int .i64 2) = W5 at *
                refine S3.take.mono ?_
                rintro e w6 ⟨rfl, hch6, S6⟩
                go_wp2_with fail
                refine S6.take.mono ?_
                rintro e w7 ⟨rfl, hch7, S7⟩
                go_wp2_with fail
                cases hwa : pWant ⟨#[41]⟩ t1
                · have hr2 : r = none := by rw [HB2.out, HT2.out, hwa]
                  subst hr2
                  refine (S7.want_no hwa).mono ?_
                  rintro e w8 ⟨h1', g, rfl, hg⟩
                  exact ⟨rfl, h1', g, rfl, hg⟩
                rename_i t2
                refine (S7.want_yes hwa).mono ?_
                rintro e w8 ⟨rfl, hch8, S8⟩
                go_wp2_with fail
                go_meet
                case rel => exact ⟨2, ByteArray.empty, t2, by rw [HT2.out, hwa, hnn]; rfl, S8, ((BT3.chg hch6 (by omega)).chg hch7 (by omega)).chg hch8 (by omega), ((BX3.chg hch6 (by omega)).chg hch7 (by omega)).chg hch8 (by omega)⟩
              · generalize Wt.setCell ⟨w.heap.size + 1, 1, none⟩ (.int .i64 2) = W4 at *
                go_wp2_with fail
                have S5 := S3.set (a := ⟨w.heap.size + 1, 1, none⟩) (u := .int .i64 3) (by simp)
                have BX5 := BX3.set 1 (.int .i64 3)
                have BT5 := BT3.far (a := ⟨w.heap.size + 1, 1, none⟩) (by simp) (.int .i64 3)
                simp only [List.setIfInBounds_toArray, List.set_cons_zero, List.set_cons_succ] at BX5
                clear m0 m1 m2 m3 mf
                generalize W4.setCell ⟨w.heap.size + 1, 1, none⟩ (.int .i64 3) = W5 at *
                refine S5.take.mono ?_
                rintro e w6 ⟨rfl, hch6, S6⟩
                go_wp2_with fail
                refine S6.take.mono ?_
                rintro e w7 ⟨rfl, hch7, S7⟩
                go_wp2_with fail
                cases hwa : pWant ⟨#[41]⟩ t1
                · have hr2 : r = none := by rw [HB2.out, HT2.out, hwa]
                  subst hr2
                  refine (S7.want_no hwa).mono ?_
                  rintro e w8 ⟨h1', g, rfl, hg⟩
                  exact ⟨rfl, h1', g, rfl, hg⟩
                rename_i t2
                refine (S7.want_yes hwa).mono ?_
                rintro e w8 ⟨rfl, hch8, S8⟩
                go_wp2_with fail
                go_meet
                case rel => exact ⟨3, ByteArray.empty, t2, by rw [HT2.out, hwa, hnn]; rfl, S8, ((BT5.chg hch6 (by omega)).chg hch7 (by omega)).chg hch8 (by omega), ((BX5.chg hch6 (by omega)).chg hch7 (by omega)).chg hch8 (by omega)⟩
        · obtain ⟨x0, t0, rfl⟩ := signB_cons hs1
          have HT : Hid (pTest (x0 :: t0) = some (1, ByteArray.empty, t0)) := by unfold Hid pTest sg; rw [hs1]; rfl
          go_wp2_with fail
          have S3 := S2.set (a := ⟨w.heap.size + 1, 1, none⟩) (u := .int .i64 1) (by simp)
          have BX3 := BX2.set 1 (.int .i64 1)
          have BT3 := BT2.far (a := ⟨w.heap.size + 1, 1, none⟩) (by simp) (.int .i64 1)
          simp only [List.setIfInBounds_toArray, List.set_cons_zero, List.set_cons_succ] at BX3
          clear m0 m1 m2 m3 mf
          generalize wc.setCell ⟨w.heap.size + 1, 1, none⟩ (.int .i64 1) = W3 at *
          refine S3.take.mono ?_
          rintro e w4 ⟨rfl, hch4, S4⟩
          go_wp2_with fail
          go_meet
          case rel => exact ⟨1, ByteArray.empty, t0, HT.out, S4, BT3.chg hch4 (by omega), BX3.chg hch4 (by omega)⟩
      case rest =>
        obtain ⟨t, nm, w2, hte, S3, BT3, BX3⟩ := hcut
        have HB3 : Hid (r = match pPreds or ne F w2 op [] with
          | none => none
          | some (wh, w3, o3) => some (.mk a t nm wh, w3, o3)) := by unfold Hid; rw [HB2.out, hte]
        have hlw2 := test_le hte
        have HI0 : PrI w pb ok e0 e1 e2 e3 ne a t nm [] w2 op wc := ⟨_, BT3, BX3, OwnK.nil _ _ _ _ _, S3, by have := BX3.lt; omega⟩
        clear hte S3 BT3 BX3 S2 BT2 BX2 HB HB2 HR
        go_wp2_with fail
        go_loopw [86] (fun _ wr => ∃ (acc : List Expr) (wl : List Wd) (φ : Nat), PrI w pb ok e0 e1 e2 e3 ne a t nm acc wl op wr ∧ wl.length < φ ∧ wl.length < L ∧ acc.length + wl.length ≤ L ∧ Hid (pPreds or ne F w2 op [] = pPreds or ne φ wl op acc)) (fun _ wr => leftIn pb wr)
        case atStart => exact ⟨[], w2, F, HI0, by omega, by omega, by simp; omega, rfl⟩
        case round =>
          obtain ⟨acc, wl, φ, HI, hφ, hwL, hal, HR2⟩ := hrel
          obtain ⟨wo, rfl⟩ : ∃ wo : World, wo = wr := ⟨_, rfl⟩
          obtain ⟨φ', hφφ⟩ : ∃ φ', φ = φ' + 1 := ⟨φ - 1, by omega⟩
          subst hφφ
          have HLW := Lib.hid HI.left
          obtain ⟨v, BT4, BX4, HO4, S4, hsz4⟩ := id HI
          obtain ⟨A3, c3, rfl, hrow⟩ := HO4.row
          go_wp2_with fail
          refine (S4.sign 0 ⟨#[91]⟩).mono ?_
          rintro e w4 ⟨rfl, rfl⟩
          cases hs5 : signB wl 0 ⟨#[91]⟩
          · have hpp : pPreds or ne (φ' + 1) wl op acc = some (acc, wl, op) := by rw [pPreds]; unfold sg; rw [hs5]; rfl
            have hr2 : r = some (.mk a t nm acc, wl, op) := by rw [HB3.out, HR2.out, hpp]
            subst hr2
            have z0 := (BT4).cell 0
            have z1 := (BT4).cell 1
            have z2 := (BT4).cell 2
            have z3 := (BT4).cell 3
            simp at z0 z1 z2 z3
            have zf := fun o => (BT4).frozen o
            have m0 := (BX4).cell 0
            have m1 := (BX4).cell 1
            have m2 := (BX4).cell 2
            have m3 := (BX4).cell 3
            simp at m0 m1 m2 m3
            have mf := fun o => (BX4).frozen o
            go_wp2_with fail
            refine bodyPost_ret (v := .agg [.int .i64 a, .int .i64 t, .string nm, .slice A3 acc.length c3].toArray) ?h1 rfl ?h2
            case h1 => simp [results, Tryz.results96, go_sem, z0, z1, z2, z3]
            case h2 =>
              refine St.endsS ?h3 (RS.of_rows (x := .mk a t nm acc) ?h4)
              case h3 => repeat' first | with_reducible exact S4 | with_reducible refine St.set ?_ ?_ | (simp; done)
              case h4 => exact (hrow.chg (p := fun k => k = w.heap.size) (by repeat' (first | with_reducible exact Chg.refl _ _ | with_reducible assumption | with_reducible refine Chg.al ?_ | with_reducible refine Chg.set ?_ ?_ | with_reducible refine Chg.dr ?_ | with_reducible refine Chg.dn ?_ | with_reducible rfl | omega | (simp; done) | (simp; omega))) (by intro k hk; omega)).mono (by intro k hk; omega)
          · obtain ⟨x0, t0, rfl⟩ := signB_cons hs5
            have HPP : Hid (pPreds or ne (φ' + 1) (x0 :: t0) op acc = match pEnter ne ⟨#[91]⟩ (x0 :: t0) op with
              | none => none
              | some (w1, o1) => match or w1 o1 with
                | none => none
                | some (x, w2, o2) => match pLeave ⟨#[93]⟩ w2 o2 with
                  | none => none
                  | some (w3, o3) => pPreds or ne φ' w3 o3 (acc ++ [x])) := by unfold Hid; rw [pPreds]; unfold sg; rw [hs5]; rfl
            cases hen : pEnter ne ⟨#[91]⟩ (x0 :: t0) op
            · have hr2 : r = none := by rw [HB3.out, HR2.out, HPP.out, hen]
              subst hr2
              go_wp2_with fail
              refine (S4.enter_no hen).mono ?_
              rintro e w5 ⟨h1', g, rfl, hg⟩
              exact ⟨rfl, h1', g, rfl, hg⟩
            rename_i p1
            obtain ⟨t1, o1⟩ := p1
            obtain ⟨rfl, rfl, -⟩ := enter_op hen
            simp only [List.length_cons] at hφ hwL hal
            go_wp2_with fail
            refine (S4.enter_yes hen).mono ?_
            rintro e w5 ⟨rfl, hch5, S5⟩
            have HI5 := HI.went hch5 S5
            obtain ⟨v, BT5, BX5, HO5, -, hsz5⟩ := id HI5
            obtain ⟨A3, c3, rfl, -⟩ := HO5.row
            have hpb5 := S5.pbl
            have hbd : Below w5.heap.size w5 w5.drew := (Below.refl _ _).drew
            have Sd := S5.dr
            have BTd := BT5.below hbd
            have BXd := BX5.below hbd
            have HOd := HO5.below hbd
            have x3 : w5.cell? ⟨w.heap.size + 1, 3, none⟩ = some (.slice A3 acc.length c3) := (BX5.cell 3).trans rfl
            cases hor : or t1 (op + 1)
            · have hr2 : r = none := by rw [HB3.out, HR2.out, HPP.out, hen]; simp only [hor]
              subst hr2
              have HC := Lib.hid (Sd.read_no HH.out (by omega) hor)
              go_wp2_with fail
              refine wp_region_held_drew (S := fun w' => w'.cell? ⟨w.heap.size + 1, 3, none⟩ = some (.slice A3 acc.length c3)) (by kernel_rfl) x3 (fun hHeld => ?_)
              (refine wpAnyH_take (i := 0) (oi := { dst := some 89, op := _, type := _, pos := _, after := _, guard := _ }) (v := ?_) rfl (by kernel_rfl) (by kernel_rfl) (by kernel_rfl) (fun _ _ _ h => h) (Or.inl ⟨by rfl, ?_⟩) (by assumption) ?_; rotate_left; (intro w hSw; (try dsimp only at hSw); go_simp; try with_reducible rfl); simp only [Act.put, List.setIfInBounds_toArray, List.set_cons_zero, List.set_cons_succ])
              (refine wpAnyH_take (i := 1) (oi := { dst := some 90, op := _, type := _, pos := _, after := _, guard := _ }) (v := ?_) rfl (by kernel_rfl) (by kernel_rfl) (by kernel_rfl) (fun _ _ _ h => h) (Or.inl ⟨by rfl, ?_⟩) (by assumption) ?_; rotate_left; (intro w hSw; (try dsimp only at hSw); go_simp; try with_reducible rfl); simp only [Act.put, List.setIfInBounds_toArray, List.set_cons_zero, List.set_cons_succ])
              (refine wpAnyH_take (i := 2) (oi := { dst := some 91, op := _, type := _, pos := _, after := _, guard := _ }) (v := ?_) rfl (by kernel_rfl) (by kernel_rfl) (by kernel_rfl) (fun _ _ _ h => h) (Or.inl ⟨by rfl, ?_⟩) (by assumption) ?_; rotate_left; (intro w hSw; (try dsimp only at hSw); go_simp; try with_reducible rfl); simp only [Act.put, List.setIfInBounds_toArray, List.set_cons_zero, List.set_cons_succ])
              refine wpAnyH_ready (rs := [3]) (by kernel_rfl) (by simp) ?_
              refine AllReadyH.cons (o := { dst := some 92, op := _, type := _, pos := _, after := _, guard := _ }) rfl (fun K hK => ?_) AllReadyH.nil
              go_simp
              refine HC.out.mono ?_
              rintro e w6 ⟨h1', g, rfl, hg⟩
              exact ⟨rfl, h1', g, rfl, hg⟩
            rename_i p2
            obtain ⟨x, t2, o2⟩ := p2
            have HC := Lib.hid (Sd.read_yes HH.out (by omega) hor)
            have hsh := HSh.out _ _ _ _ _ hor
            have C4 : (acc.length + 1) * 104 ≤ 140737488355328 := by omega
            have hvl : ∀ j, (Value.slice A3 acc.length c3).ownBlock = some j → w.heap.size + 2 ≤ j ∧ j < w5.heap.size := fun j hj => HO5.lt j hj
            have HPQ : Hid (pPreds or ne (φ' + 1) (x0 :: t1) op acc = match pLeave ⟨#[93]⟩ t2 o2 with
                  | none => none
                  | some (w3, o3) => pPreds or ne φ' w3 o3 (acc ++ [x])) := by unfold Hid; rw [HPP.out, hen]; simp only [hor]
            clear hor hen HI HI5 BT4 BX4 HO4 S4 hrow HPP
            go_upto_region 26 with fail
            go_cut [94] (fun _ wx => PrI w pb ok e0 e1 e2 e3 ne a t nm (acc ++ [x]) t2 (op + 1) wx ∧ o2 = op + 1)
            case first =>
              go_region_law
                (first
                  | (go_simp; go_at_call 122; refine HC.out.mono ?_; rintro e w1 ⟨⟨cs, rfl, hre⟩, hch1, S1, hop⟩; have HOP := Lib.hid hop; clear hop; have BT1 := BTd.chg hch1 (by omega); have BX1 := BXd.chg hch1 (by omega); have k1 : w1.cell? ⟨w.heap.size + 1, 3, none⟩ = some (.slice A3 acc.length c3) := (BX1.cell 3).trans rfl; have ka1 : ∀ o, (w1.alloc o).cell? ⟨w.heap.size + 1, 3, none⟩ = some (.slice A3 acc.length c3) := fun o => ((BX1.al o).cell 3).trans rfl; have HO1 := HOd.chg hch1 (by intro k hk; omega); have hre1 : RE w1 (fun k => w5.heap.size ≤ k ∧ k < w1.heap.size) x cs := Knd.move kE (w1 := w1) (Nat.le_refl _) (fun _ _ _ => rfl) hre; have hs1 : w5.heap.size ≤ w1.heap.size := hch1.size; obtain ⟨Aa, ca, As, cp, rfl, -, -⟩ := hre.rows)
                  | (refine step_append_rowK kE (w.heap.size + 2) (fun k => w.heap.size + 2 ≤ k) (fun k => (w5.heap.size ≤ k ∧ k < w1.heap.size) ∨ k = w1.heap.size) rfl _ _ 53 64 _ 104 rfl Tryz.underlying53 info_Expr rfl (by decide) (.slice A3 acc.length c3) acc [x] (some ⟨w1.heap.size, 0, none⟩) 1 rfl rfl (HO1.below (bl1 (Nat.le_refl _))) (row_litE hre1) (fun j h1 h2 => ⟨by omega, fun e => by have := hvl j e.symm; omega⟩) (fun j hj => by have h6 : w1.heap.size + 1 ≤ j := (by simpa using hj); omega) (Nat.le_trans (show w.heap.size + 2 ≤ w1.heap.size by omega) (by simp)) C4 ?_; intro v1 w6 HO6 hg6 hat6; obtain ⟨A5, c5, rfl, -⟩ := HO6.row; have BX6 := (BX1.al _).grown hg6 (fun e => by have := hvl _ e.symm; omega); have k6 : w6.cell? ⟨w.heap.size + 1, 3, none⟩ = some (.slice A3 acc.length c3) := (BX6.cell 3).trans rfl; have f6 := fun o => BX6.frozen o)
                  | fail)
              all_goals
                have hop := HOP.out
                subst hop
                have HI6 := PrI.pushed BT1 BX1 S1 (by omega) (fun j hj => (hvl j hj).1) HO6 hg6
                go_wp2_with fail
                go_meet
                case rel => exact ⟨by simpa using HI6, trivial⟩
            case rest =>
              obtain ⟨HI6, hop⟩ := hcut
              subst hop
              obtain ⟨v6, -, -, -, S6, -⟩ := id HI6
              cases hle : pLeave ⟨#[93]⟩ t2 (op + 1)
              · have hr2 : r = none := by rw [HB3.out, HR2.out, HPQ.out, hle]
                subst hr2
                go_wp2_with fail
                refine (S6.leave_no hle).mono ?_
                rintro e w7 ⟨h1', g, rfl, hg⟩
                exact ⟨rfl, h1', g, rfl, hg⟩
              rename_i p3
              obtain ⟨t3, o3⟩ := p3
              have ho3 := leave_op hle
              obtain rfl : o3 = op := by omega
              clear ho3
              have hl3 := leave_le hle
              have HR7 : Hid (pPreds or ne F w2 o3 [] = pPreds or ne φ' t3 o3 (acc ++ [x])) := by unfold Hid; rw [HR2.out, HPQ.out, hle]
              go_wp2_with fail
              refine (S6.leave_yes (by omega) hle).mono ?_
              rintro e w7 ⟨rfl, hch7, S7⟩
              have HI7 := HI6.went hch7 S7
              have HL7 := Lib.hid HI7.left
              clear hle HI6
              go_wp2_with fail
              go_roundw
              case rel => exact ⟨acc ++ [x], t3, φ', HI7, by omega, by omega, by simp; omega, HR7⟩
              case measure => rw [HL7.out, HLW.out]; simp; omega
end Go.Proofs.YtbbmmeaicilabaaGreatDoor
