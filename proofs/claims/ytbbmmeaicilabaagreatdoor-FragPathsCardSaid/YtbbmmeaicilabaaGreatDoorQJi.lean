/- ask's parser: parts (one or more expressions with a name between). Conditions: the words lie in memory; what reads a part does so by its contract. -/
import Derived.Test.YtbbmmeaicilabaaGreatDoorQJf
import Derived.Test.YtbbmmeaicilabaaGreatDoorQJe
import Derived.Test.YtbbmmeaicilabaaGreatDoorQGg
set_option linter.unusedVariables false
set_option linter.unusedSimpArgs false
namespace Go.Proofs.YtbbmmeaicilabaaGreatDoor
open Go.RowKit

theorem OwnK.lit1 {α : Type} (d : Knd α) (e : TypeId) (w : World) (base : Nat) (okp ok : Nat → Prop) (p : α) (c : List Value) (hb : base ≤ w.heap.size) (hp : d.K w okp p c) (hokp : ∀ k, okp k → ok k ∧ k < w.heap.size) (hs : ok w.heap.size) :
    OwnK d e (w.alloc (.cells c.toArray e)) base ok (.slice (some ⟨w.heap.size, 0, none⟩) 1 1) [p] := by
  have hl := d.len hp
  refine ⟨fun k hk => ?_, c, by simpa using World.ownsRow_lit (size := d.sz) w c.toArray 1 hb (by simp [maxLen]) (by simp [hl]), fun j q hj => ?_⟩
  · have : w.heap.size = k := by simpa [Value.ownBlock] using hk
    rw [← this]; exact hs
  · match j, hj with
    | 0, hj =>
      have hq : p = q := by simpa using hj
      subst hq
      rw [Nat.zero_mul, List.drop_zero, List.take_of_length_le (by omega)]
      have h2 := Knd.below (d := d) (w1 := w.alloc (.cells c.toArray e)) (bl1 (Nat.le_refl _)) hp
      exact d.mono (fun k hk => ⟨(hokp k hk).1, fun e => by have := (hokp k hk).2; simp [Value.ownBlock] at e; omega⟩) h2
    | j + 1, hj => simp at hj
theorem PS.chg {p : Nat → Prop} {w w1 : World} {pb : Nat} {ok : Nat → Prop} {ws : List Wd} {A : Option Addr} {c : Nat} {e0 e1 e2 e3 ne op : Int} (h : PS w pb ok ws A c e0 e1 e2 e3 ne op) (hc : Chg p w w1) (h1 : ¬ p pb) (h2 : ∀ b, ok b → ¬ p b) : PS w1 pb ok ws A c e0 e1 e2 e3 ne op :=
  ⟨h.blk.chg hc h1, h.row.chg hc h2, h.cap, h.capm, h.far⟩
theorem OwnK.chg {α : Type} {d : Knd α} {e : TypeId} {w w1 : World} {base : Nat} {v : Value} {xs : List α} {ok p : Nat → Prop} (hc : Chg p w w1) (hp : ∀ k, ok k → ¬ p k) (h : OwnK d e w base ok v xs) : OwnK d e w1 base ok v xs :=
  OwnK.mono (fun _ hk => hk.1) (OwnK.move hc.size (fun k hk hlt => hc.block k hlt (hp k hk)) h)
/-- how many words are left, as the world has it -/
def leftIn (pb : Nat) (w : World) : Nat := match w.cell? ⟨pb, 0, none⟩ with | some (.slice _ n _) => n | _ => 0
theorem PS.left {w : World} {pb : Nat} {ok : Nat → Prop} {ws : List Wd} {A : Option Addr} {c : Nat} {e0 e1 e2 e3 ne op : Int} (h : PS w pb ok ws A c e0 e1 e2 e3 ne op) : leftIn pb w = ws.length := by
  have := h.blk.cell 0
  unfold leftIn
  rw [this]; rfl
def pFin (code : Int) (a : Ans (List Expr)) : Ans Expr := match a with | some (l, w1, o1) => some (pJoin code l, w1, o1) | none => none
theorem pList_fin (part : List Wd → Int → Ans Expr) (b : ByteArray) (code : Int) (F : Nat) (ws : List Wd) (op : Int) : pList part b code F ws op = pFin code (pParts part b F [] ws op) := rfl

set_option maxRecDepth 10000 in
set_option maxHeartbeats 8000000 in
theorem parts_one (L F : Nat) (ne : Int) (between : ByteArray) (code : Int) (part : List Wd → Int → Ans Expr) (HS : Short part) (H : Reads 154 L ne part) (hF : L ≤ F) (hLm : L ≤ 1000000) : PartsOf 154 L ne between code (pList part between code F) := by
  intro w pb ok ws A c e0 e1 e2 e3 op hL h hpw h0 h1 hne
  obtain ⟨W0, hW0⟩ : ∃ W, W = w.alloc (.cells #[.int .i64 0, .slice none 0 0, .slice none 0 0, .string ⟨#[]⟩, .int .i64 0, .string ⟨#[]⟩, .int .i64 0] 64) := ⟨_, rfl⟩
  have hbW : Below w.heap.size w W0 := by rw [hW0]; exact bl1 (Nat.le_refl _)
  have RB : Blk W0 w.heap.size #[.int .i64 0, .slice none 0 0, .slice none 0 0, .string ⟨#[]⟩, .int .i64 0, .string ⟨#[]⟩, .int .i64 0] 64 := by rw [hW0]; exact Blk.new _ _ _
  have hsz0 : w.heap.size < W0.heap.size := RB.lt
  have hsz1 : W0.heap.size ≤ w.heap.size + 1 := by rw [hW0]; simp
  have hpb := h.blk.lt
  have hpw0 : ∀ b, ok b → b < W0.heap.size := fun b hb => Nat.lt_trans (hpw b hb) hsz0
  have HC := Lib.hid (H W0 pb ok ws A c e0 e1 e2 e3 op hL (h.below hbW) hpw0 h0 h1 hne)
  have HH := Lib.hid H
  have HSh := Lib.hid HS
  clear h H HS
  obtain ⟨F', hFF⟩ : ∃ F', F = F' + 1 := ⟨F - 1, by omega⟩
  subst hFF
  generalize hr : pList part between code (F' + 1) ws op = r
  have HR := Lib.hid hr
  clear hr
  go_enter Tryz.func141, Tryz.ntmps141
  go_wp2_with fail
  rw [← hW0]
  refine HC.out.mono ?_
  rintro e w1 ⟨hch1, hm⟩
  have hc01 : Chg (fun b => b = pb) w w1 := (Chg.of_below hbW).trans hch1
  have hs1 := hch1.size
  cases hp : part ws op
  · rw [hp] at hm
    have hrn : r = none := by rw [← HR.out, pList_fin, pParts, hp]; rfl
    subst hrn
    obtain ⟨g, rfl, hg⟩ := hm
    exact ⟨rfl, hc01, ⟨g, rfl, by omega⟩⟩
  · rename_i r0
    obtain ⟨x, ws1, op1⟩ := r0
    rw [hp] at hm
    obtain ⟨cs1, A1, c1, rfl, hre, hps1, rfl, hpw1⟩ := hm
    have hsh := HSh.out _ _ _ _ _ hp
    have RB1 := RB.chg hch1 (by omega)
    have HR1 : Hid (r = pFin code (if nameIs ws1 between then pParts part between F' [x] ws1.tail op1 else some ([x], ws1, op1))) := by unfold Hid; rw [← HR.out, pList_fin, pParts, hp]; rfl
    have HO1 := OwnK.lit1 kE 64 w1 (w.heap.size + 1) (fun k => W0.heap.size ≤ k ∧ k < w1.heap.size) (fun k => w.heap.size + 1 ≤ k) x _ (by omega) (Knd.move kE (w1 := w1) (Nat.le_refl _) (fun _ _ _ => rfl) hre) (by intro k hk; omega) (by omega)
    obtain ⟨Aa, ca, As, cp, rfl, -, -⟩ := hre.rows
    have hb2 : Below w1.heap.size w1 (w1.alloc (.cells (#[.int .i64 x.op, .slice Aa x.args.length ca, .slice As x.path.length cp, .string x.attr, .int .i64 x.cmp, .string x.text, .int .i64 x.num]) 64)) := bl1 (Nat.le_refl _)
    have hps2 := hps1.below hb2
    have hc2 := hch1.trans (Chg.of_below (p := fun b => b = pb) hb2)
    have hpsl := hps1.row.len
    clear hp hre hps1 HC
    go_wp2_with fail
    generalize w1.alloc (.cells (#[.int .i64 x.op, .slice Aa x.args.length ca, .slice As x.path.length cp, .string x.attr, .int .i64 x.cmp, .string x.text, .int .i64 x.num]) 64) = W2 at *
    go_loopw [9] (fun v wr => ∃ (acc : List Expr) (wl : List Wd) (A' : Option Addr) (c' φ : Nat), OwnK kE 64 wr (w.heap.size + 1) (fun k => w.heap.size + 1 ≤ k) v acc ∧ PS wr pb ok wl A' c' e0 e1 e2 e3 ne op1 ∧ Chg (fun b => b = pb) W0 wr ∧ wl.length ≤ φ ∧ acc.length + wl.length ≤ ws.length + 1 ∧ 0 < acc.length ∧ Hid (r = pFin code (if nameIs wl between then pParts part between φ acc wl.tail op1 else some (acc, wl, op1)))) (fun _ wr => leftIn pb wr)
    case atStart => exact ⟨[x], ws1, A1, c1, F', HO1, hps2, hc2, by omega, by simp; omega, by simp, HR1⟩
    case round =>
      obtain ⟨acc, wl, A', c', φ, HO, hps, hch, hφ, hal, hac, HR2⟩ := hrel
      obtain ⟨wo, rfl⟩ : ∃ wo : World, wo = wr := ⟨_, rfl⟩
      obtain ⟨A3, c3, rfl, hrow⟩ := HO.row
      have hso := hch.size
      have hlw : leftIn pb wo = wl.length := hps.left
      have HLW := Lib.hid hlw
      clear hlw
      go_wp2_with fail
      refine (pname_any between wo pb ok wl A' c' e0 e1 e2 e3 ne op1 hps).mono ?_
      rintro e w3 ⟨rfl, hw3⟩
      subst hw3
      have RB3 := RB.chg hch (by omega)
      have z0 := (RB3).cell 0
      have z1 := (RB3).cell 1
      have z2 := (RB3).cell 2
      have z3 := (RB3).cell 3
      have z4 := (RB3).cell 4
      have z5 := (RB3).cell 5
      have z6 := (RB3).cell 6
      simp at z0 z1 z2 z3 z4 z5 z6
      have zf := fun o => (RB3).frozen o
      have hcw : Chg (fun b => b = pb) w w3 := (Chg.of_below hbW).trans hch
      cases hb : nameIs wl between
      · have hr3 : r = some (pJoin code acc, wl, op1) := by rw [HR2.out, hb]; rfl
        have HR3 := Lib.hid hr3
        clear hr3 HR2 HLW
        match acc, hac, hrow, HR3 with
        | [y], hac, hrow, HR3 =>
          obtain ⟨y', b, off, Ay, cy, Sy, dy, HY, rfl, hbw, hRy, y0, y1, y2, y3, y4, y5, y6⟩ := hrow.atE 0 (by simp)
          obtain rfl : y = y' := HY.out
          simp only [Nat.zero_mul, Nat.add_zero] at y0 y1 y2 y3 y4 y5 y6
          go_wp2_with fail
          refine bodyPost_ret (v := .agg ([.int .i64 y.op, .slice Ay y.args.length cy, .slice Sy y.path.length dy, .string y.attr, .int .i64 y.cmp, .string y.text, .int .i64 y.num]).toArray) ?h1 rfl ⟨?h2, ?h3⟩
          case h1 => simp [results, Tryz.results141, go_sem, z0, z1, z2, z3, z4, z5, z6]
          case h2 => repeat' first | with_reducible exact hcw | with_reducible refine Chg.setN ?_ ?_ | exact Nat.le_refl _
          case h3 =>
            rw [HR3.out]
            refine ⟨_, A', c', rfl, ?h4, ?h5, rfl, ?h6⟩
            case h4 => exact (hRy.chg (p := fun k => k = w.heap.size) (by repeat' (first | with_reducible exact Chg.refl _ _ | with_reducible assumption | with_reducible refine Chg.al ?_ | with_reducible refine Chg.set ?_ ?_ | with_reducible refine Chg.dr ?_ | with_reducible refine Chg.dn ?_ | with_reducible rfl | omega | (simp; done) | (simp; omega))) (by intro k hk; omega)).mono (by intro k hk; omega)
            case h5 => repeat' first | with_reducible exact hps | with_reducible refine PS.setN ?_ ?_ ?_ | (intro b hb; have := hpw b hb; simp; omega) | (simp; omega)
            case h6 => intro b hb; have := hpw b hb; simp; omega
        | y :: y' :: t, hac, hrow, HR3 =>
          have hb1 : (((y :: y' :: t).length : Int) == 1) = false := by simp; omega
          have hj : pJoin code (y :: y' :: t) = .mk code (y :: y' :: t) [] ByteArray.empty 0 ByteArray.empty 0 := rfl
          rw [hj] at HR3
          clear hj
          generalize y :: y' :: t = l at *
          go_wp2_with fail
          refine bodyPost_ret (v := .agg #[.int .i64 code, .slice A3 l.length c3, .slice none 0 0, .string ⟨#[]⟩, .int .i64 0, .string ⟨#[]⟩, .int .i64 0]) ?h1 rfl ⟨?h2, ?h3⟩
          case h1 => simp [results, Tryz.results141, go_sem, z0, z1, z2, z3, z4, z5, z6]
          case h2 => repeat' first | with_reducible exact hcw | with_reducible refine Chg.setN ?_ ?_ | exact Nat.le_refl _
          case h3 =>
            rw [HR3.out]
            refine ⟨[.int .i64 code, .slice A3 l.length c3, .slice none 0 0, .string ⟨#[]⟩, .int .i64 0, .string ⟨#[]⟩, .int .i64 0], A', c', rfl, ?h4, ?h5, rfl, ?h6⟩
            case h4 => exact RE.of_rows (x := .mk code l [] ByteArray.empty 0 ByteArray.empty 0) ((hrow.chg (p := fun k => k = w.heap.size) (by repeat' (first | with_reducible exact Chg.refl _ _ | with_reducible assumption | with_reducible refine Chg.al ?_ | with_reducible refine Chg.set ?_ ?_ | with_reducible refine Chg.dr ?_ | with_reducible refine Chg.dn ?_ | with_reducible rfl | omega | (simp; done) | (simp; omega))) (by intro k hk; omega)).mono (by intro k hk; omega)) (RowK.nil _ _ _)
            case h5 => repeat' first | with_reducible exact hps | with_reducible refine PS.setN ?_ ?_ ?_ | (intro b hb; have := hpw b hb; simp; omega) | (simp; omega)
            case h6 => intro b hb; have := hpw b hb; simp; omega
      · cases wl with
        | nil => simp [nameIs] at hb
        | cons t0 wl =>
        rw [hb, if_pos rfl, List.tail_cons] at HR2
        simp only [List.length_cons] at hφ hal
        obtain ⟨φ', hφφ⟩ : ∃ φ', φ = φ' + 1 := ⟨φ - 1, by omega⟩
        subst hφφ
        have hpw3 : ∀ b, ok b → b < w3.heap.size := fun b hb => Nat.lt_of_lt_of_le (hpw0 b hb) hso
        go_wp2_with fail
        refine (take_any w3 pb ok t0 wl A' c' e0 e1 e2 e3 ne op1 hps hpw3).mono ?_
        rintro e w4 ⟨rfl, hch4, A4, c4, hps4⟩
        have hs4 := hch4.size
        have hcw4 := hcw.trans hch4
        have hpw4 : ∀ b, ok b → b < w4.heap.size := fun b hb => Nat.lt_of_lt_of_le (hpw3 b hb) hs4
        go_wp2_with fail
        refine (HH.out w4 pb ok wl A4 c4 e0 e1 e2 e3 op1 (by omega) hps4 hpw4 h0 h1 hne).mono ?_
        rintro e w5 ⟨hch5, hm⟩
        have hs5 := hch5.size
        have hcw5 := hcw4.trans hch5
        cases hp : part wl op1
        · rw [hp] at hm
          have hrn : r = none := by rw [HR2.out, pParts, hp]; rfl
          subst hrn
          obtain ⟨g, rfl, hg⟩ := hm
          exact ⟨rfl, hcw5, ⟨g, rfl, by omega⟩⟩
        · rename_i r0
          obtain ⟨y, ws5, op5⟩ := r0
          rw [hp] at hm
          obtain ⟨cs5, A5, c5, rfl, hre, hps5, hop, hpw5⟩ := hm
          subst hop
          have hsh := HSh.out _ _ _ _ _ hp
          have HR5 : Hid (r = pFin code (if nameIs ws5 between then pParts part between φ' (acc ++ [y]) ws5.tail op5 else some (acc ++ [y], ws5, op5))) := by unfold Hid; rw [HR2.out, pParts, hp]
          have HO5 := (HO.chg hch4 (by intro k hk; omega)).chg hch5 (by intro k hk; omega)
          have hv5 : ∀ j, (Value.slice A3 acc.length c3).ownBlock = some j → w.heap.size + 1 ≤ j ∧ j < w3.heap.size := fun j hj => HO.lt j hj
          have hre5 : RE w5 (fun k => w4.heap.size ≤ k ∧ k < w5.heap.size) y _ := Knd.move kE (w1 := w5) (Nat.le_refl _) (fun _ _ _ => rfl) hre
          obtain ⟨Ay, cy, Sy, dy, rfl, -, -⟩ := hre.rows
          have C1 : Hid (∀ j, (w4.heap.size ≤ j ∧ j < w5.heap.size) → w.heap.size + 1 ≤ j ∧ some j ≠ (Value.slice A3 acc.length c3).ownBlock) := by
            intro j hj
            refine ⟨by omega, fun e => ?_⟩
            have := hv5 j e.symm
            omega
          have C4 : (acc.length + 1) * 104 ≤ 140737488355328 := by omega
          clear z0 z1 z2 z3 z4 z5 z6 zf hp
          go_wp2_with (at_builtin; go_loud (refine append_ownK kE (w.heap.size + 1) (fun k => w.heap.size + 1 ≤ k) (fun k => w4.heap.size ≤ k ∧ k < w5.heap.size) rfl _ _ 53 64 _ 104 rfl Tryz.underlying53 info_Expr rfl (.slice A3 acc.length c3) acc y [.int .i64 y.op, .slice Ay y.args.length cy, .slice Sy y.path.length dy, .string y.attr, .int .i64 y.cmp, .string y.text, .int .i64 y.num] rfl rfl HO5 hre5 C1.out (fun j hj => by omega) (by omega) C4 (by decide) ?_; intro v1 w6 HO6 hg6 hat6))
          have hc6 : Chg (fun k => w.heap.size + 1 ≤ k) w5 w6 := (Chg.refl _ _).grown hg6 (fun j hj => .inl (hv5 j hj).1)
          have hps6 := hps5.chg hc6 (by omega) (fun b hb => by have := hpw b hb; omega)
          have hcW6 : Chg (fun b => b = pb) W0 w6 := ((hch.trans hch4).trans hch5).grown hg6 (fun j hj => .inr (by have := hv5 j hj; omega))
          have hl6 := hps6.left
          have HL6 := Lib.hid hl6
          clear hl6
          go_roundw
          case rel => exact ⟨acc ++ [y], ws5, A5, c5, φ', HO6, hps6, hcW6, by omega, by simp; omega, by simp, HR5⟩
          case measure => rw [HL6.out, HLW.out]; simp; omega
set_option maxRecDepth 10000 in
set_option maxHeartbeats 8000000 in
theorem parts_and (L F : Nat) (ne : Int) (between : ByteArray) (code : Int) (part : List Wd → Int → Ans Expr) (HS : Short part) (H : Reads 142 L ne part) (hF : L ≤ F) (hLm : L ≤ 1000000) : PartsOf 142 L ne between code (pList part between code F) := by
  intro w pb ok ws A c e0 e1 e2 e3 op hL h hpw h0 h1 hne
  obtain ⟨W0, hW0⟩ : ∃ W, W = w.alloc (.cells #[.int .i64 0, .slice none 0 0, .slice none 0 0, .string ⟨#[]⟩, .int .i64 0, .string ⟨#[]⟩, .int .i64 0] 64) := ⟨_, rfl⟩
  have hbW : Below w.heap.size w W0 := by rw [hW0]; exact bl1 (Nat.le_refl _)
  have RB : Blk W0 w.heap.size #[.int .i64 0, .slice none 0 0, .slice none 0 0, .string ⟨#[]⟩, .int .i64 0, .string ⟨#[]⟩, .int .i64 0] 64 := by rw [hW0]; exact Blk.new _ _ _
  have hsz0 : w.heap.size < W0.heap.size := RB.lt
  have hsz1 : W0.heap.size ≤ w.heap.size + 1 := by rw [hW0]; simp
  have hpb := h.blk.lt
  have hpw0 : ∀ b, ok b → b < W0.heap.size := fun b hb => Nat.lt_trans (hpw b hb) hsz0
  have HC := Lib.hid (H W0 pb ok ws A c e0 e1 e2 e3 op hL (h.below hbW) hpw0 h0 h1 hne)
  have HH := Lib.hid H
  have HSh := Lib.hid HS
  clear h H HS
  obtain ⟨F', hFF⟩ : ∃ F', F = F' + 1 := ⟨F - 1, by omega⟩
  subst hFF
  generalize hr : pList part between code (F' + 1) ws op = r
  have HR := Lib.hid hr
  clear hr
  go_enter Tryz.func141, Tryz.ntmps141
  go_wp2_with fail
  rw [← hW0]
  refine HC.out.mono ?_
  rintro e w1 ⟨hch1, hm⟩
  have hc01 : Chg (fun b => b = pb) w w1 := (Chg.of_below hbW).trans hch1
  have hs1 := hch1.size
  cases hp : part ws op
  · rw [hp] at hm
    have hrn : r = none := by rw [← HR.out, pList_fin, pParts, hp]; rfl
    subst hrn
    obtain ⟨g, rfl, hg⟩ := hm
    exact ⟨rfl, hc01, ⟨g, rfl, by omega⟩⟩
  · rename_i r0
    obtain ⟨x, ws1, op1⟩ := r0
    rw [hp] at hm
    obtain ⟨cs1, A1, c1, rfl, hre, hps1, rfl, hpw1⟩ := hm
    have hsh := HSh.out _ _ _ _ _ hp
    have RB1 := RB.chg hch1 (by omega)
    have HR1 : Hid (r = pFin code (if nameIs ws1 between then pParts part between F' [x] ws1.tail op1 else some ([x], ws1, op1))) := by unfold Hid; rw [← HR.out, pList_fin, pParts, hp]; rfl
    have HO1 := OwnK.lit1 kE 64 w1 (w.heap.size + 1) (fun k => W0.heap.size ≤ k ∧ k < w1.heap.size) (fun k => w.heap.size + 1 ≤ k) x _ (by omega) (Knd.move kE (w1 := w1) (Nat.le_refl _) (fun _ _ _ => rfl) hre) (by intro k hk; omega) (by omega)
    obtain ⟨Aa, ca, As, cp, rfl, -, -⟩ := hre.rows
    have hb2 : Below w1.heap.size w1 (w1.alloc (.cells (#[.int .i64 x.op, .slice Aa x.args.length ca, .slice As x.path.length cp, .string x.attr, .int .i64 x.cmp, .string x.text, .int .i64 x.num]) 64)) := bl1 (Nat.le_refl _)
    have hps2 := hps1.below hb2
    have hc2 := hch1.trans (Chg.of_below (p := fun b => b = pb) hb2)
    have hpsl := hps1.row.len
    clear hp hre hps1 HC
    go_wp2_with fail
    generalize w1.alloc (.cells (#[.int .i64 x.op, .slice Aa x.args.length ca, .slice As x.path.length cp, .string x.attr, .int .i64 x.cmp, .string x.text, .int .i64 x.num]) 64) = W2 at *
    go_loopw [9] (fun v wr => ∃ (acc : List Expr) (wl : List Wd) (A' : Option Addr) (c' φ : Nat), OwnK kE 64 wr (w.heap.size + 1) (fun k => w.heap.size + 1 ≤ k) v acc ∧ PS wr pb ok wl A' c' e0 e1 e2 e3 ne op1 ∧ Chg (fun b => b = pb) W0 wr ∧ wl.length ≤ φ ∧ acc.length + wl.length ≤ ws.length + 1 ∧ 0 < acc.length ∧ Hid (r = pFin code (if nameIs wl between then pParts part between φ acc wl.tail op1 else some (acc, wl, op1)))) (fun _ wr => leftIn pb wr)
    case atStart => exact ⟨[x], ws1, A1, c1, F', HO1, hps2, hc2, by omega, by simp; omega, by simp, HR1⟩
    case round =>
      obtain ⟨acc, wl, A', c', φ, HO, hps, hch, hφ, hal, hac, HR2⟩ := hrel
      obtain ⟨wo, rfl⟩ : ∃ wo : World, wo = wr := ⟨_, rfl⟩
      obtain ⟨A3, c3, rfl, hrow⟩ := HO.row
      have hso := hch.size
      have hlw : leftIn pb wo = wl.length := hps.left
      have HLW := Lib.hid hlw
      clear hlw
      go_wp2_with fail
      refine (pname_any between wo pb ok wl A' c' e0 e1 e2 e3 ne op1 hps).mono ?_
      rintro e w3 ⟨rfl, hw3⟩
      subst hw3
      have RB3 := RB.chg hch (by omega)
      have z0 := (RB3).cell 0
      have z1 := (RB3).cell 1
      have z2 := (RB3).cell 2
      have z3 := (RB3).cell 3
      have z4 := (RB3).cell 4
      have z5 := (RB3).cell 5
      have z6 := (RB3).cell 6
      simp at z0 z1 z2 z3 z4 z5 z6
      have zf := fun o => (RB3).frozen o
      have hcw : Chg (fun b => b = pb) w w3 := (Chg.of_below hbW).trans hch
      cases hb : nameIs wl between
      · have hr3 : r = some (pJoin code acc, wl, op1) := by rw [HR2.out, hb]; rfl
        have HR3 := Lib.hid hr3
        clear hr3 HR2 HLW
        match acc, hac, hrow, HR3 with
        | [y], hac, hrow, HR3 =>
          obtain ⟨y', b, off, Ay, cy, Sy, dy, HY, rfl, hbw, hRy, y0, y1, y2, y3, y4, y5, y6⟩ := hrow.atE 0 (by simp)
          obtain rfl : y = y' := HY.out
          simp only [Nat.zero_mul, Nat.add_zero] at y0 y1 y2 y3 y4 y5 y6
          go_wp2_with fail
          refine bodyPost_ret (v := .agg ([.int .i64 y.op, .slice Ay y.args.length cy, .slice Sy y.path.length dy, .string y.attr, .int .i64 y.cmp, .string y.text, .int .i64 y.num]).toArray) ?h1 rfl ⟨?h2, ?h3⟩
          case h1 => simp [results, Tryz.results141, go_sem, z0, z1, z2, z3, z4, z5, z6]
          case h2 => repeat' first | with_reducible exact hcw | with_reducible refine Chg.setN ?_ ?_ | exact Nat.le_refl _
          case h3 =>
            rw [HR3.out]
            refine ⟨_, A', c', rfl, ?h4, ?h5, rfl, ?h6⟩
            case h4 => exact (hRy.chg (p := fun k => k = w.heap.size) (by repeat' (first | with_reducible exact Chg.refl _ _ | with_reducible assumption | with_reducible refine Chg.al ?_ | with_reducible refine Chg.set ?_ ?_ | with_reducible refine Chg.dr ?_ | with_reducible refine Chg.dn ?_ | with_reducible rfl | omega | (simp; done) | (simp; omega))) (by intro k hk; omega)).mono (by intro k hk; omega)
            case h5 => repeat' first | with_reducible exact hps | with_reducible refine PS.setN ?_ ?_ ?_ | (intro b hb; have := hpw b hb; simp; omega) | (simp; omega)
            case h6 => intro b hb; have := hpw b hb; simp; omega
        | y :: y' :: t, hac, hrow, HR3 =>
          have hb1 : (((y :: y' :: t).length : Int) == 1) = false := by simp; omega
          have hj : pJoin code (y :: y' :: t) = .mk code (y :: y' :: t) [] ByteArray.empty 0 ByteArray.empty 0 := rfl
          rw [hj] at HR3
          clear hj
          generalize y :: y' :: t = l at *
          go_wp2_with fail
          refine bodyPost_ret (v := .agg #[.int .i64 code, .slice A3 l.length c3, .slice none 0 0, .string ⟨#[]⟩, .int .i64 0, .string ⟨#[]⟩, .int .i64 0]) ?h1 rfl ⟨?h2, ?h3⟩
          case h1 => simp [results, Tryz.results141, go_sem, z0, z1, z2, z3, z4, z5, z6]
          case h2 => repeat' first | with_reducible exact hcw | with_reducible refine Chg.setN ?_ ?_ | exact Nat.le_refl _
          case h3 =>
            rw [HR3.out]
            refine ⟨[.int .i64 code, .slice A3 l.length c3, .slice none 0 0, .string ⟨#[]⟩, .int .i64 0, .string ⟨#[]⟩, .int .i64 0], A', c', rfl, ?h4, ?h5, rfl, ?h6⟩
            case h4 => exact RE.of_rows (x := .mk code l [] ByteArray.empty 0 ByteArray.empty 0) ((hrow.chg (p := fun k => k = w.heap.size) (by repeat' (first | with_reducible exact Chg.refl _ _ | with_reducible assumption | with_reducible refine Chg.al ?_ | with_reducible refine Chg.set ?_ ?_ | with_reducible refine Chg.dr ?_ | with_reducible refine Chg.dn ?_ | with_reducible rfl | omega | (simp; done) | (simp; omega))) (by intro k hk; omega)).mono (by intro k hk; omega)) (RowK.nil _ _ _)
            case h5 => repeat' first | with_reducible exact hps | with_reducible refine PS.setN ?_ ?_ ?_ | (intro b hb; have := hpw b hb; simp; omega) | (simp; omega)
            case h6 => intro b hb; have := hpw b hb; simp; omega
      · cases wl with
        | nil => simp [nameIs] at hb
        | cons t0 wl =>
        rw [hb, if_pos rfl, List.tail_cons] at HR2
        simp only [List.length_cons] at hφ hal
        obtain ⟨φ', hφφ⟩ : ∃ φ', φ = φ' + 1 := ⟨φ - 1, by omega⟩
        subst hφφ
        have hpw3 : ∀ b, ok b → b < w3.heap.size := fun b hb => Nat.lt_of_lt_of_le (hpw0 b hb) hso
        go_wp2_with fail
        refine (take_any w3 pb ok t0 wl A' c' e0 e1 e2 e3 ne op1 hps hpw3).mono ?_
        rintro e w4 ⟨rfl, hch4, A4, c4, hps4⟩
        have hs4 := hch4.size
        have hcw4 := hcw.trans hch4
        have hpw4 : ∀ b, ok b → b < w4.heap.size := fun b hb => Nat.lt_of_lt_of_le (hpw3 b hb) hs4
        go_wp2_with fail
        refine (HH.out w4 pb ok wl A4 c4 e0 e1 e2 e3 op1 (by omega) hps4 hpw4 h0 h1 hne).mono ?_
        rintro e w5 ⟨hch5, hm⟩
        have hs5 := hch5.size
        have hcw5 := hcw4.trans hch5
        cases hp : part wl op1
        · rw [hp] at hm
          have hrn : r = none := by rw [HR2.out, pParts, hp]; rfl
          subst hrn
          obtain ⟨g, rfl, hg⟩ := hm
          exact ⟨rfl, hcw5, ⟨g, rfl, by omega⟩⟩
        · rename_i r0
          obtain ⟨y, ws5, op5⟩ := r0
          rw [hp] at hm
          obtain ⟨cs5, A5, c5, rfl, hre, hps5, hop, hpw5⟩ := hm
          subst hop
          have hsh := HSh.out _ _ _ _ _ hp
          have HR5 : Hid (r = pFin code (if nameIs ws5 between then pParts part between φ' (acc ++ [y]) ws5.tail op5 else some (acc ++ [y], ws5, op5))) := by unfold Hid; rw [HR2.out, pParts, hp]
          have HO5 := (HO.chg hch4 (by intro k hk; omega)).chg hch5 (by intro k hk; omega)
          have hv5 : ∀ j, (Value.slice A3 acc.length c3).ownBlock = some j → w.heap.size + 1 ≤ j ∧ j < w3.heap.size := fun j hj => HO.lt j hj
          have hre5 : RE w5 (fun k => w4.heap.size ≤ k ∧ k < w5.heap.size) y _ := Knd.move kE (w1 := w5) (Nat.le_refl _) (fun _ _ _ => rfl) hre
          obtain ⟨Ay, cy, Sy, dy, rfl, -, -⟩ := hre.rows
          have C1 : Hid (∀ j, (w4.heap.size ≤ j ∧ j < w5.heap.size) → w.heap.size + 1 ≤ j ∧ some j ≠ (Value.slice A3 acc.length c3).ownBlock) := by
            intro j hj
            refine ⟨by omega, fun e => ?_⟩
            have := hv5 j e.symm
            omega
          have C4 : (acc.length + 1) * 104 ≤ 140737488355328 := by omega
          clear z0 z1 z2 z3 z4 z5 z6 zf hp
          go_wp2_with (at_builtin; go_loud (refine append_ownK kE (w.heap.size + 1) (fun k => w.heap.size + 1 ≤ k) (fun k => w4.heap.size ≤ k ∧ k < w5.heap.size) rfl _ _ 53 64 _ 104 rfl Tryz.underlying53 info_Expr rfl (.slice A3 acc.length c3) acc y [.int .i64 y.op, .slice Ay y.args.length cy, .slice Sy y.path.length dy, .string y.attr, .int .i64 y.cmp, .string y.text, .int .i64 y.num] rfl rfl HO5 hre5 C1.out (fun j hj => by omega) (by omega) C4 (by decide) ?_; intro v1 w6 HO6 hg6 hat6))
          have hc6 : Chg (fun k => w.heap.size + 1 ≤ k) w5 w6 := (Chg.refl _ _).grown hg6 (fun j hj => .inl (hv5 j hj).1)
          have hps6 := hps5.chg hc6 (by omega) (fun b hb => by have := hpw b hb; omega)
          have hcW6 : Chg (fun b => b = pb) W0 w6 := ((hch.trans hch4).trans hch5).grown hg6 (fun j hj => .inr (by have := hv5 j hj; omega))
          have hl6 := hps6.left
          have HL6 := Lib.hid hl6
          clear hl6
          go_roundw
          case rel => exact ⟨acc ++ [y], ws5, A5, c5, φ', HO6, hps6, hcW6, by omega, by simp; omega, by simp, HR5⟩
          case measure => rw [HL6.out, HLW.out]; simp; omega
end Go.Proofs.YtbbmmeaicilabaaGreatDoor
