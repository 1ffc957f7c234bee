/- ask's parser: path (steps with slashes between, an attribute at the end). Conditions: the words lie in memory; what reads a step does so by its contract; the steps ahead are the caller's own. -/
import Derived.Test.YtbbmmeaicilabaaGreatDoorQJi
import Derived.Test.YtbbmmeaicilabaaGreatDoorQGj
import Derived.Deep.RegionLaw
import Derived.Deep.DeepCutAuto
set_option linter.unusedVariables false
set_option linter.unusedSimpArgs false
namespace Go.Proofs.YtbbmmeaicilabaaGreatDoor
open Go.RowKit

/-- what a method that reads a step does -/
def StepE (r : Ans Step) (op : Int) (pb : Nat) (ok : Nat → Prop) (e0 e1 e2 e3 ne : Int) (w : World) (e : Ending) (w' : World) : Prop :=
  Chg (fun b => b = pb) w w' ∧ (match r with
    | some (x, ws', op') => ∃ cs A' c', e = .returned (.agg cs.toArray) ∧ RS w' (fun k => w.heap.size ≤ k) x cs ∧ PS w' pb ok ws' A' c' e0 e1 e2 e3 ne op' ∧ op' = op ∧ (∀ b, ok b → b < w'.heap.size)
    | none => Gave w.heap.size e)
def ReadsS (L : Nat) (ne : Int) (g : List Wd → Int → Ans Step) : Prop :=
  ∀ (w : World) (pb : Nat) (ok : Nat → Prop) (ws : List Wd) (A : Option Addr) (c : Nat) (e0 e1 e2 e3 op : Int), ws.length < L → PS w pb ok ws A c e0 e1 e2 e3 ne op → (∀ b, ok b → b < w.heap.size) → 0 ≤ op → op ≤ ne → ne ≤ 1000 →
    Calls Tryz.prog 96 #[.pointer (some ⟨pb, 0, none⟩)] w (StepE (g ws op) op pb ok e0 e1 e2 e3 ne w)
/-- what path does; own: the block of the steps ahead -/
def PathE (r : Ans (List Step × ByteArray)) (op : Int) (pb : Nat) (ok own : Nat → Prop) (base : Nat) (e0 e1 e2 e3 ne : Int) (w : World) (e : Ending) (w' : World) : Prop :=
  Chg (fun b => b = pb ∨ own b) w w' ∧ (match r with
    | some ((l, a), ws', op') => ∃ As cp A' c', e = .returned (.tuple #[.agg #[.slice As l.length cp], .string a]) ∧ RowK kS w' (fun k => base ≤ k) As l ∧ PS w' pb ok ws' A' c' e0 e1 e2 e3 ne op' ∧ op' = op ∧ (∀ b, ok b → b < w'.heap.size)
    | none => Gave w.heap.size e)

/-- path's state: the steps so far and the words left (w: the world in which it was called) -/
def PathI (w : World) (base pb : Nat) (ok own : Nat → Prop) (e0 e1 e2 e3 ne op : Int) (acc : List Step) (wl : List Wd) (wx : World) : Prop :=
  ∃ v A c, Blk wx w.heap.size #[v] 27 ∧ Blk wx (w.heap.size + 1) #[.slice none 0 0] 27 ∧ OwnK kS 55 wx base (fun k => base ≤ k ∧ k ≠ w.heap.size ∧ k ≠ w.heap.size + 1) v acc ∧ PS wx pb ok wl A c e0 e1 e2 e3 ne op ∧ Chg (fun b => b = pb ∨ own b) w wx ∧ w.heap.size + 2 ≤ wx.heap.size ∧ ∀ j, v.ownBlock = some j → own j ∨ w.heap.size ≤ j
theorem PathI.left {w : World} {base pb : Nat} {ok own : Nat → Prop} {e0 e1 e2 e3 ne op : Int} {acc : List Step} {wl : List Wd} {wx : World} (h : PathI w base pb ok own e0 e1 e2 e3 ne op acc wl wx) : leftIn pb wx = wl.length := by
  obtain ⟨v, A, c, -, -, -, h, -⟩ := h; exact h.left
theorem PathI.went {w : World} {base pb : Nat} {ok own : Nat → Prop} {e0 e1 e2 e3 ne op : Int} {acc : List Step} {wl t : List Wd} {wx w7 : World} {A : Option Addr} {c : Nat} (h : PathI w base pb ok own e0 e1 e2 e3 ne op acc wl wx) (hpb : pb < base) (hbase : base ≤ w.heap.size) (hc : Chg (fun b => b = pb) wx w7) (hps : PS w7 pb ok t A c e0 e1 e2 e3 ne op) : PathI w base pb ok own e0 e1 e2 e3 ne op acc t w7 := by
  obtain ⟨v, A', c', BP, BT, HO, -, hch, hsz, hv⟩ := h
  exact ⟨v, A, c, BP.chg hc (by omega), BT.chg hc (by omega), HO.chg hc (by intro k hk; omega), hps, hch.trans (Chg.mono (fun k hk => .inl hk) hc), Nat.le_trans hsz hc.size, hv⟩
/-- behind the append and the store of one step (world w1: behind what made the step) -/
theorem PathI.pushed {w w1 w5 : World} {base pb : Nat} {ok own : Nat → Prop} {e0 e1 e2 e3 ne op : Int} {acc : List Step} {s : Step} {v v1 : Value} {wl : List Wd} {A : Option Addr} {c : Nat} {o : Obj}
    (BP : Blk w1 w.heap.size #[v] 27) (BT : Blk w1 (w.heap.size + 1) #[.slice none 0 0] 27) (hps : PS w1 pb ok wl A c e0 e1 e2 e3 ne op) (hch : Chg (fun b => b = pb ∨ own b) w w1) (hsz : w.heap.size + 2 ≤ w1.heap.size)
    (hpb : pb < base) (hbase : base ≤ w.heap.size) (hokb : ∀ b, ok b → b < base) (hv : ∀ j, v.ownBlock = some j → (own j ∨ w.heap.size ≤ j) ∧ base ≤ j ∧ j ≠ w.heap.size ∧ j ≠ w.heap.size + 1)
    (HO5 : OwnK kS 55 w5 base (fun k => base ≤ k ∧ k ≠ w.heap.size ∧ k ≠ w.heap.size + 1) v1 (acc ++ [s])) (hg5 : (w1.alloc o).grownBy w5 v.ownBlock) (hat : v1.ownBlock = v.ownBlock ∨ ∃ b, v1.ownBlock = some b ∧ (w1.alloc o).heap.size ≤ b) :
    PathI w base pb ok own e0 e1 e2 e3 ne op (acc ++ [s]) wl (w5.setCell ⟨w.heap.size, 0, none⟩ v1) := by
  have hbl : Below w1.heap.size w1 (w1.alloc o) := bl1 (Nat.le_refl _)
  have BP5 := (BP.below hbl).grown hg5 (fun e => (hv _ e.symm).2.2.1 rfl)
  have BT5 := (BT.below hbl).grown hg5 (fun e => (hv _ e.symm).2.2.2 rfl)
  have hc5 : Chg (fun b => b = pb ∨ own b) w w5 := (hch.trans (Chg.of_below hbl)).grown hg5 (fun j hj => by have := (hv j hj).1; rcases this with h | h; exact .inl (.inr h); exact .inr h)
  have hs5 : w1.heap.size + 1 ≤ w5.heap.size := by have := hg5.size; simp at this; omega
  have hcp : Chg (fun k => base ≤ k) w1 w5 := (Chg.of_below hbl).grown hg5 (fun j hj => .inl (hv j hj).2.1)
  have hps5 := hps.chg hcp (by omega) (fun b hb => by have := hokb b hb; omega)
  refine ⟨v1, A, c, ?_, BT5.far (a := ⟨w.heap.size, 0, none⟩) (by simp) _, ?_, ?_, ?_, ?_, ?_⟩
  · have h := BP5.set 0 v1; simpa using h
  · exact HO5.chg (p := fun k => k = w.heap.size) (Chg.set rfl (Chg.refl _ _)) (by intro k hk; omega)
  · exact hps5.chg (p := fun k => k = w.heap.size) (Chg.set rfl (Chg.refl _ _)) (by omega) (fun b hb => by have := hokb b hb; omega)
  · exact hc5.setN (by simp)
  · rw [World.setCell]; simp; omega
  · intro j hj
    rcases hat with hat | ⟨b, hb, hlt⟩
    · rw [hat] at hj; exact (hv j hj).1
    · rw [hb] at hj; have := Option.some.inj hj; simp at hlt; right; omega
/-- a new block of one step, as a row -/
theorem row_lit1 {w : World} {x : Step} {okp : Nat → Prop} {cs : List Value} (h : RS w okp x cs) : RowK kS (w.alloc (.cells cs.toArray 55)) (fun k => okp k ∨ k = w.heap.size) (some ⟨w.heap.size, 0, none⟩) [x] := by
  obtain ⟨Aw, cw, rfl, hr⟩ := h.rows
  have B := Blk.new w #[.int .i64 x.axis, .int .i64 x.test, .string x.name, .slice Aw x.wh.length cw] 55
  exact RowK.oneSc (hf := fun o => B.frozen o) x Aw cw (.inr rfl) ((RS.bel (bl1 (Nat.le_refl _)) h).mono (fun k hk => .inl hk)) ((B.cell 0).trans rfl) ((B.cell 1).trans rfl) ((B.cell 2).trans rfl) ((B.cell 3).trans rfl)

set_option maxRecDepth 10000 in
set_option maxHeartbeats 8000000 in
theorem path_read (L F : Nat) (ne : Int) (st : List Wd → Int → Ans Step) (HS : Short st) (H : ReadsS L ne st) (hF : L ≤ F) (hLm : L ≤ 1000000)
    (w : World) (pb : Nat) (ok : Nat → Prop) (ws : List Wd) (A : Option Addr) (c : Nat) (e0 e1 e2 e3 op : Int) (hL : ws.length < L) (h : PS w pb ok ws A c e0 e1 e2 e3 ne op) (hpw : ∀ b, ok b → b < w.heap.size) (h0 : 0 ≤ op) (h1 : op ≤ ne) (hne : ne ≤ 1000)
    (at' : Bool) (base : Nat) (As : Option Addr) (cp : Nat) (acc0 : List Step) (HO : OwnK kS 55 w base (fun k => base ≤ k) (.slice As acc0.length cp) acc0) (hbase : base ≤ w.heap.size) (hpb : pb < base) (hokb : ∀ b, ok b → b < base) (hacc : acc0.length ≤ 10) :
    Calls Tryz.prog 72 #[.pointer (some ⟨pb, 0, none⟩), .agg #[.slice As acc0.length cp], .bool at'] w (PathE (pPath st F at' acc0 ws op) op pb ok (fun b => (Value.slice As acc0.length cp).ownBlock = some b) base e0 e1 e2 e3 ne w) := by
  obtain ⟨W0, hW0⟩ : ∃ W, W = (w.alloc (.cells #[.slice As acc0.length cp] 27)).alloc (.cells #[.slice none 0 0] 27) := ⟨_, rfl⟩
  have hbW : Below w.heap.size w W0 := by rw [hW0]; exact bl2 (Nat.le_refl _)
  have BP : Blk W0 w.heap.size #[.slice As acc0.length cp] 27 := by rw [hW0]; exact (Blk.new _ _ _).al _
  have BT : Blk W0 (w.heap.size + 1) #[.slice none 0 0] 27 := by rw [hW0]; have h := Blk.new (w.alloc (.cells #[.slice As acc0.length cp] 27)) #[.slice none 0 0] 27; simpa using h
  have hsz0 : w.heap.size + 1 < W0.heap.size := BT.lt
  have hsz1 : W0.heap.size ≤ w.heap.size + 2 := by rw [hW0]; simp
  have hps0 := h.below hbW
  have hown0 : ∀ j, (Value.slice As acc0.length cp).ownBlock = some j → base ≤ j ∧ j < w.heap.size := fun j hj => HO.lt j hj
  have HO0 : OwnK kS 55 W0 base (fun k => base ≤ k ∧ k ≠ w.heap.size ∧ k ≠ w.heap.size + 1) (.slice As acc0.length cp) acc0 := OwnK.mono (by intro k hk; omega) ((HO.move (w1 := w) (Nat.le_refl _) (fun _ _ _ => rfl)).below hbW)
  have HH := Lib.hid H
  have HSh := Lib.hid HS
  clear h H HS HO
  generalize hr : pPath st F at' acc0 ws op = r
  have HR := Lib.hid hr
  clear hr
  have HI0 : PathI w base pb ok (fun b => (Value.slice As acc0.length cp).ownBlock = some b) e0 e1 e2 e3 ne op acc0 ws W0 := ⟨_, A, c, BP, BT, HO0, hps0, Chg.of_below hbW, by omega, fun j hj => .inl hj⟩
  generalize (fun b => (Value.slice As acc0.length cp).ownBlock = some b) = own at *
  clear HO0 hps0 BP BT hown0
  go_enter Tryz.func72, Tryz.ntmps72
  go_wp2_with fail
  rw [← hW0]
  clear hW0
  go_loopw [8] (fun _ wr => ∃ (acc : List Step) (wl : List Wd) (φ : Nat), PathI w base pb ok own e0 e1 e2 e3 ne op acc wl wr ∧ wl.length < φ ∧ wl.length < L ∧ acc.length + 2 * wl.length ≤ acc0.length + 2 * ws.length ∧ Hid (r = pPath st φ at' acc wl op)) (fun _ wr => leftIn pb wr)
  case atStart => exact ⟨acc0, ws, F, HI0, by omega, by omega, by omega, HR.out.symm⟩
  case round =>
    obtain ⟨acc, wl, φ, HI, hφ, hwL, hal, HR2⟩ := hrel
    obtain ⟨wo, rfl⟩ : ∃ wo : World, wo = wr := ⟨_, rfl⟩
    obtain ⟨φ', hφφ⟩ : ∃ φ', φ = φ' + 1 := ⟨φ - 1, by omega⟩
    subst hφφ
    have HLW := Lib.hid HI.left
    obtain ⟨v, A', c', BP, BT, HO, hps, hch, hsz, hv⟩ := HI
    obtain ⟨A3, c3, rfl, -⟩ := HO.row
    have hv2 : ∀ j, (Value.slice A3 acc.length c3).ownBlock = some j → (own j ∨ w.heap.size ≤ j) ∧ base ≤ j ∧ j ≠ w.heap.size ∧ j ≠ w.heap.size + 1 := by
      intro j hj; have := HO.1 j hj; exact ⟨hv j hj, this.1, this.2.1, this.2.2⟩
    have q0 := (BP).cell 0
    simp at q0
    have qf := fun o => (BP).frozen o
    have hbd : Below wo.heap.size wo wo.drew := (Below.refl _ _).drew
    have hpsd := hps.below hbd
    have hchd := hch.trans (Chg.of_below (p := fun b => b = pb ∨ own b) hbd)
    have hpwo : ∀ b, ok b → b < wo.drew.heap.size := fun b hb => by have := hokb b hb; simp; omega
    have HC := Lib.hid (HH.out wo.drew pb ok wl A' c' e0 e1 e2 e3 op (by omega) hpsd hpwo h0 h1 hne)
    cases hp : st wl op
    · have hrn : r = none := by rw [HR2.out, pPath, hp]
      subst hrn
      go_wp2_with fail
      refine wp_region_held_drew (S := fun w' => w'.cell? ⟨w.heap.size, 0, none⟩ = some (.slice A3 acc.length c3)) (by kernel_rfl) q0 (fun hHeld => ?_)
      (refine wpAnyH_take (i := 0) (oi := { dst := some 8, op := _, type := _, pos := _, after := _, guard := _ }) (v := ?_) rfl (by kernel_rfl) (by kernel_rfl) (by kernel_rfl) (fun _ _ _ h => h) (Or.inl ⟨by rfl, ?_⟩) (by assumption) ?_; rotate_left; (intro w hSw; (try dsimp only at hSw); go_simp; try with_reducible rfl); simp only [Act.put, List.setIfInBounds_toArray, List.set_cons_zero, List.set_cons_succ])
      (refine wpAnyH_take (i := 1) (oi := { dst := some 9, op := _, type := _, pos := _, after := _, guard := _ }) (v := ?_) rfl (by kernel_rfl) (by kernel_rfl) (by kernel_rfl) (fun _ _ _ h => h) (Or.inl ⟨by rfl, ?_⟩) (by assumption) ?_; rotate_left; (intro w hSw; (try dsimp only at hSw); go_simp; try with_reducible rfl); simp only [Act.put, List.setIfInBounds_toArray, List.set_cons_zero, List.set_cons_succ])
      (refine wpAnyH_take (i := 2) (oi := { dst := some 10, op := _, type := _, pos := _, after := _, guard := _ }) (v := ?_) rfl (by kernel_rfl) (by kernel_rfl) (by kernel_rfl) (fun _ _ _ h => h) (Or.inl ⟨by rfl, ?_⟩) (by assumption) ?_; rotate_left; (intro w hSw; (try dsimp only at hSw); go_simp; try with_reducible rfl); simp only [Act.put, List.setIfInBounds_toArray, List.set_cons_zero, List.set_cons_succ])
      refine wpAnyH_ready (rs := [3]) (by kernel_rfl) (by simp) ?_
      refine AllReadyH.cons (o := { dst := some 11, op := _, type := _, pos := _, after := _, guard := _ }) rfl (fun K hK => ?_) AllReadyH.nil
      go_simp
      refine HC.out.mono ?_
      rintro e w1 ⟨hch1, hm⟩
      rw [hp] at hm
      obtain ⟨g, rfl, hg⟩ := hm
      exact ⟨rfl, hchd.trans (Chg.mono (fun k hk => .inl hk) hch1), ⟨g, rfl, by simp at hg; omega⟩⟩
    · rename_i r0
      obtain ⟨s, w1', o1⟩ := r0
      rw [hp] at HC
      have hsh := HSh.out _ _ _ _ _ hp
      have hpsl := hps.row.len
      have C4 : (acc.length + 1) * 56 ≤ 140737488355328 := by omega
      go_upto_region 1 with fail
      have BPd := BP.below hbd
      have BTd := BT.below hbd
      have HOd := HO.below hbd
      have hvl : ∀ j, (Value.slice A3 acc.length c3).ownBlock = some j → j < wo.heap.size := fun j hj => (HO.lt j hj).2
      go_cut [13] (fun _ wx => PathI w base pb ok own e0 e1 e2 e3 ne o1 (acc ++ [s]) w1' wx ∧ o1 = op)
      case first =>
        go_region_law
          (first
            | (go_simp; go_at_call 96; refine HC.out.mono ?_; rintro e w1 ⟨hch1, cs, A1, c1, rfl, hre, hps1, hop, hpw1⟩; have HOP := Lib.hid hop; clear hop; have BP1 := BPd.chg hch1 (by omega); have BT1 := BTd.chg hch1 (by omega); have k1 : w1.cell? ⟨w.heap.size, 0, none⟩ = some (.slice A3 acc.length c3) := (BP1.cell 0).trans rfl; have ka1 : ∀ o, (w1.alloc o).cell? ⟨w.heap.size, 0, none⟩ = some (.slice A3 acc.length c3) := fun o => ((BP1.al o).cell 0).trans rfl; have HO1 := HOd.chg hch1 (by intro k hk; omega); have hre1 : RS w1 (fun k => wo.heap.size ≤ k ∧ k < w1.heap.size) s cs := Knd.move kS (w1 := w1) (Nat.le_refl _) (fun _ _ _ => rfl) hre; have hs1 : wo.heap.size ≤ w1.heap.size := hch1.size; have hn1 : w.heap.size ≠ w1.heap.size := (by omega); obtain ⟨Aw, cw, rfl, -⟩ := hre.rows)
            | (refine step_append_rowK kS base (fun k => base ≤ k ∧ k ≠ w.heap.size ∧ k ≠ w.heap.size + 1) (fun k => (wo.heap.size ≤ k ∧ k < w1.heap.size) ∨ k = w1.heap.size) rfl _ _ 25 55 _ 56 rfl Tryz.underlying25 info_Step rfl (by decide) (.slice A3 acc.length c3) acc [s] (some ⟨w1.heap.size, 0, none⟩) 1 rfl rfl (HO1.below (bl1 (Nat.le_refl _))) (row_lit1 hre1) (fun j h1 h2 => ⟨by omega, fun e => by have := hvl j e.symm; omega⟩) (fun j hj => by have h6 : w1.heap.size + 1 ≤ j := (by simpa using hj); omega) (Nat.le_trans (show base ≤ w1.heap.size by omega) (by simp)) C4 ?_; intro v1 w5 HO5 hg5 hat5; obtain ⟨A5, c5, rfl, -⟩ := HO5.row; have BP5 := (BP1.al _).grown hg5 (fun e => (hv2 _ e.symm).2.2.1 rfl); have k5 : w5.cell? ⟨w.heap.size, 0, none⟩ = some (.slice A3 acc.length c3) := (BP5.cell 0).trans rfl; have f5 := fun o => BP5.frozen o)
            | fail)
        all_goals
          have HI5 := PathI.pushed BP1 BT1 hps1 (hchd.trans (Chg.mono (fun k hk => .inl hk) hch1)) (by omega) hpb hbase hokb hv2 HO5 hg5 hat5
          go_wp2_with fail
          go_meet
          case rel => exact ⟨by simpa using HI5, HOP.out⟩
      case rest =>
        obtain ⟨HI5, hop⟩ := hcut
        subst hop
        have HR5 : Hid (r = if sg w1' ⟨#[47, 47]⟩ then (if at' && sg w1'.tail ⟨#[64]⟩ then (match pKind 0 w1'.tail.tail with | some (x, r) => some ((acc ++ [s] ++ [Step.mk 2 3 ByteArray.empty []], x.text), r, o1) | none => none) else pPath st φ' at' (acc ++ [s] ++ [Step.mk 2 3 ByteArray.empty []]) w1'.tail o1) else if sg w1' ⟨#[47]⟩ then (if at' && sg w1'.tail ⟨#[64]⟩ then (match pKind 0 w1'.tail.tail with | some (x, r) => some ((acc ++ [s], x.text), r, o1) | none => none) else pPath st φ' at' (acc ++ [s]) w1'.tail o1) else some ((acc ++ [s], ByteArray.empty), w1', o1)) := by
          unfold Hid; rw [HR2.out, pPath, hp]; rfl
        have hal5 : (acc ++ [s]).length + 2 * w1'.length ≤ acc0.length + 2 * ws.length + 1 := by simp; omega
        clear BP BT HO hps hch hsz hv hv2 q0 qf hbd hpsd hchd hpwo HC hp BPd BTd HOd hvl C4 HR2
        generalize acc ++ [s] = acc1 at *
        obtain ⟨v, A6, c6, BP6, BT6, HO6, hps6, hch6, hsz6, hv6⟩ := id HI5
        go_wp2_with fail
        refine (sign_any 0 ⟨#[47, 47]⟩ wc pb ok w1' A6 c6 e0 e1 e2 e3 ne o1 hps6).mono ?_
        rintro e w6 ⟨rfl, hw6⟩
        subst hw6
        obtain ⟨A3, c3, rfl, hrow⟩ := id HO6.row
        have q0 := (BP6).cell 0
        simp at q0
        have qf := fun o => (BP6).frozen o
        cases hs2 : signB w1' 0 ⟨#[47, 47]⟩
        case' false =>
          have z0 := (BT6).cell 0
          simp at z0
          have zf := fun o => (BT6).frozen o
          go_wp2_with fail
          refine (sign_any 0 ⟨#[47]⟩ w6 pb ok w1' A6 c6 e0 e1 e2 e3 ne o1 hps6).mono ?_
          rintro e w7 ⟨rfl, hw7⟩
          subst hw7
          cases hs1 : signB w1' 0 ⟨#[47]⟩
          · have hr3 : r = some ((acc1, ByteArray.empty), w1', o1) := by rw [HR5.out]; simp only [sg, hs2, hs1, Bool.false_eq_true, if_false]
            subst hr3
            go_wp2_with fail
            refine bodyPost_ret (v := .tuple #[.agg #[.slice A3 acc1.length c3], .string ⟨#[]⟩]) ?h1 rfl ⟨?h2, ⟨A3, c3, A6, c6, rfl, ?h4, ?h5, rfl, ?h6⟩⟩
            case h1 => simp [results, Tryz.results72, go_sem, z0]
            case h2 => exact hch6.setN (by simp)
            case h4 => exact (hrow.chg (p := fun k => k = w.heap.size + 1) (by repeat' (first | with_reducible exact Chg.refl _ _ | with_reducible assumption | with_reducible refine Chg.al ?_ | with_reducible refine Chg.set ?_ ?_ | with_reducible refine Chg.dr ?_ | with_reducible refine Chg.dn ?_ | with_reducible rfl | omega | (simp; done) | (simp; omega))) (by intro k hk; omega)).mono (fun k hk => hk.1)
            case h5 => exact hps6.setN (by simp; omega) (by intro b hb; have := hpw b hb; simp; omega)
            case h6 => intro b hb; have := hpw b hb; simp; omega
          have HR6 : Hid (r = if at' && sg w1'.tail ⟨#[64]⟩ then (match pKind 0 w1'.tail.tail with | some (x, r) => some ((acc1, x.text), r, o1) | none => none) else pPath st φ' at' acc1 w1'.tail o1) := by
            unfold Hid; rw [HR5.out]; simp only [sg, hs2, hs1, Bool.false_eq_true, if_false, if_true]
          have hal6 : acc1.length + 2 * w1'.length ≤ acc0.length + 2 * ws.length + 2 := by omega
          have HX := signB_cons hs1
          have HI6 := HI5
          clear z0 zf hs1 BP6 BT6 HO6 hps6 hch6 hsz6 hv6 hrow q0 qf HI5 HR5
          obtain ⟨W6, rfl⟩ : ∃ W6 : World, W6 = w7 := ⟨_, rfl⟩
          obtain ⟨acc2, rfl⟩ : ∃ a : List Step, a = acc1 := ⟨_, rfl⟩
        case' true =>
          have C4 : (acc1.length + 1) * 56 ≤ 140737488355328 := by omega
          have hv2 : ∀ j, (Value.slice A3 acc1.length c3).ownBlock = some j → (own j ∨ w.heap.size ≤ j) ∧ base ≤ j ∧ j ≠ w.heap.size ∧ j ≠ w.heap.size + 1 := by
            intro j hj; have := HO6.1 j hj; exact ⟨hv6 j hj, this.1, this.2.1, this.2.2⟩
          have hbd : Below w6.heap.size w6 w6.drew := (Below.refl _ _).drew
          have hpsd := hps6.below hbd
          have hchd := hch6.trans (Chg.of_below (p := fun b => b = pb ∨ own b) hbd)
          have BPd := BP6.below hbd
          have BTd := BT6.below hbd
          have HOd := HO6.below hbd
          have hvl : ∀ j, (Value.slice A3 acc1.length c3).ownBlock = some j → j < w6.heap.size := fun j hj => (HO6.lt j hj).2
          go_upto_region 3 with fail
          go_region_law
            (first
              | (go_simp; go_at_call 70; refine (below_any _).mono ?_; rintro e w1 ⟨cs, rfl, hre, hb1⟩; have BP1 := BPd.below hb1; have BT1 := BTd.below hb1; have k1 : w1.cell? ⟨w.heap.size, 0, none⟩ = some (.slice A3 acc1.length c3) := (BP1.cell 0).trans rfl; have ka1 : ∀ o, (w1.alloc o).cell? ⟨w.heap.size, 0, none⟩ = some (.slice A3 acc1.length c3) := fun o => ((BP1.al o).cell 0).trans rfl; have HO1 := HOd.below hb1; have hps1 := hpsd.below hb1; have hre1 : RS w1 (fun k => w6.heap.size ≤ k ∧ k < w1.heap.size) (.mk 2 3 ByteArray.empty []) cs := Knd.move kS (w1 := w1) (Nat.le_refl _) (fun _ _ _ => rfl) hre; have hs1 : w6.heap.size ≤ w1.heap.size := hb1.size; have hn1 : w.heap.size ≠ w1.heap.size := (by omega); obtain ⟨Aw, cw, rfl, -⟩ := hre.rows)
              | (refine step_append_rowK kS base (fun k => base ≤ k ∧ k ≠ w.heap.size ∧ k ≠ w.heap.size + 1) (fun k => (w6.heap.size ≤ k ∧ k < w1.heap.size) ∨ k = w1.heap.size) rfl _ _ 25 55 _ 56 rfl Tryz.underlying25 info_Step rfl (by decide) (.slice A3 acc1.length c3) acc1 [Step.mk 2 3 ByteArray.empty []] (some ⟨w1.heap.size, 0, none⟩) 1 rfl rfl (HO1.below (bl1 (Nat.le_refl _))) (row_lit1 hre1) (fun j h1 h2 => ⟨by omega, fun e => by have := hvl j e.symm; omega⟩) (fun j hj => by have h6 : w1.heap.size + 1 ≤ j := (by simpa using hj); omega) (Nat.le_trans (show base ≤ w1.heap.size by omega) (by simp)) C4 ?_; intro v1 w5 HO5 hg5 hat5; obtain ⟨A5, c5, rfl, -⟩ := HO5.row; have BP5 := (BP1.al _).grown hg5 (fun e => (hv2 _ e.symm).2.2.1 rfl); have k5 : w5.cell? ⟨w.heap.size, 0, none⟩ = some (.slice A3 acc1.length c3) := (BP5.cell 0).trans rfl; have f5 := fun o => BP5.frozen o)
              | fail)
          all_goals
            have HI5' := PathI.pushed BP1 BT1 hps1 (hchd.trans (Chg.of_below hb1)) (by omega) hpb hbase hokb hv2 HO5 hg5 hat5
            have HR6 : Hid (r = if at' && sg w1'.tail ⟨#[64]⟩ then (match pKind 0 w1'.tail.tail with | some (x, r) => some ((acc1 ++ [Step.mk 2 3 ByteArray.empty []], x.text), r, o1) | none => none) else pPath st φ' at' (acc1 ++ [Step.mk 2 3 ByteArray.empty []]) w1'.tail o1) := by
              unfold Hid; rw [HR5.out]; simp only [sg, hs2, if_true]
            have hal6 : (acc1 ++ [Step.mk 2 3 ByteArray.empty []]).length + 2 * w1'.length ≤ acc0.length + 2 * ws.length + 2 := by simp; omega
            have HX := signB_cons hs2
            go_upto_region 6 with fail
            have HI6 : PathI w base pb ok own e0 e1 e2 e3 ne o1 (acc1 ++ [Step.mk 2 3 ByteArray.empty []]) w1' (w5.setCell ⟨w.heap.size, 0, none⟩ (.slice A5 (acc1.length + 1) c5)) := by simpa using HI5'
            clear BP6 BT6 HO6 hps6 hch6 hsz6 hv6 hrow q0 qf HI5 HR5 C4 hv2 hbd hpsd hchd BPd BTd HOd hvl hal5 HI5' BP1 BT1 hps1 hre hre1 hb1 k1 ka1 HO1 hs1 hn1 HO5 hg5 hat5 BP5 k5 f5
            generalize acc1 ++ [Step.mk 2 3 ByteArray.empty []] = acc2 at *
            generalize w5.setCell ⟨w.heap.size, 0, none⟩ (.slice A5 (acc1.length + 1) c5) = W6 at *
        all_goals
          obtain ⟨x0, t0, rfl⟩ := HX
          rw [List.tail_cons] at HR6
          simp only [List.length_cons] at hal6 hsh
          obtain ⟨v, A6, c6, BP6, BT6, HO6, hps6, hch6, hsz6, hv6⟩ := id HI6
          go_wp2_with fail
          refine (take_any W6 pb ok x0 t0 A6 c6 e0 e1 e2 e3 ne o1 hps6 (fun b hb => by have := hpw b hb; omega)).mono ?_
          rintro e w7 ⟨rfl, hch7, A7, c7, hps7⟩
          have HI7 := HI6.went hpb hbase hch7 hps7
          clear BP6 BT6 HO6 hps6 hch6 hsz6 hv6 HI6
          have HL7 := Lib.hid HI7.left
          cases at'
          · have HR7 : Hid (r = pPath st φ' false acc2 t0 o1) := HR6
            go_wp2_with fail
            go_roundw
            case rel => exact ⟨acc2, t0, φ', HI7, by omega, by omega, by omega, HR7⟩
            case measure => rw [HL7.out, HLW.out]; omega
          · go_wp2_with fail
            refine (sign_any 0 ⟨#[64]⟩ w7 pb ok t0 A7 c7 e0 e1 e2 e3 ne o1 hps7).mono ?_
            rintro e w8 ⟨rfl, hw8⟩
            subst hw8
            cases hs3 : signB t0 0 ⟨#[64]⟩
            · have HR7 : Hid (r = pPath st φ' true acc2 t0 o1) := by unfold Hid; rw [HR6.out]; simp only [sg, hs3, Bool.and_false, Bool.false_eq_true, if_false]
              go_wp2_with fail
              go_roundw
              case rel => exact ⟨acc2, t0, φ', HI7, by omega, by omega, by omega, HR7⟩
              case measure => rw [HL7.out, HLW.out]; omega
            · obtain ⟨x1, t1, rfl⟩ := signB_cons hs3
              have HR7 : Hid (r = match pKind 0 t1 with | some (x, r) => some ((acc2, x.text), r, o1) | none => none) := by unfold Hid; rw [HR6.out]; simp only [sg, hs3, Bool.and_true, if_true, List.tail_cons]
              go_wp2_with fail
              refine (take_any w8 pb ok x1 t1 A7 c7 e0 e1 e2 e3 ne o1 hps7 (fun b hb => by have := hpw b hb; have := HI7.choose_spec; omega)).mono ?_
              rintro e w9 ⟨rfl, hch9, A9, c9, hps9⟩
              have HI9 := HI7.went hpb hbase hch9 hps9
              clear HI7
              obtain ⟨v, A6, c6, BP9, BT9, HO9, -, hch9w, hsz9, hv9⟩ := HI9
              obtain ⟨A3, c3, rfl, hrow⟩ := id HO9.row
              have q0 := (BP9).cell 0
              simp at q0
              have qf := fun o => (BP9).frozen o
              have hbd : Below w9.heap.size w9 w9.drew := (Below.refl _ _).drew
              have hpw9 : ∀ b, ok b → b < w9.drew.heap.size := fun b hb => by have := hpw b hb; simp; omega
              have HWK := Lib.hid (wantKind_any 0 w9.drew pb ok t1 A9 c9 e0 e1 e2 e3 ne o1 (hps9.below hbd) hpw9)
              cases hk : kindIs t1 0
              · have hr2 : r = none := by
                  rw [HR7.out]
                  cases t1 with
                  | nil => rfl
                  | cons y t6 => simp only [kindIs, decide_eq_false_iff_not] at hk; simp only [pKind, if_neg hk]
                subst hr2
                rw [hk] at HWK
                go_wp2_with fail
                refine wp_region_held_drew (S := fun w' => w'.cell? ⟨w.heap.size, 0, none⟩ = some (.slice A3 acc2.length c3)) (by kernel_rfl) q0 (fun hHeld => ?_)
                (refine wpAnyH_take (i := 0) (oi := { dst := some 38, op := _, type := _, pos := _, after := _, guard := _ }) (v := ?_) rfl (by kernel_rfl) (by kernel_rfl) (by kernel_rfl) (fun _ _ _ h => h) (Or.inl ⟨by rfl, ?_⟩) (by assumption) ?_; rotate_left; (intro w hSw; (try dsimp only at hSw); go_simp; try with_reducible rfl); simp only [Act.put, List.setIfInBounds_toArray, List.set_cons_zero, List.set_cons_succ])
                (refine wpAnyH_take (i := 1) (oi := { dst := some 39, op := _, type := _, pos := _, after := _, guard := _ }) (v := ?_) rfl (by kernel_rfl) (by kernel_rfl) (by kernel_rfl) (fun _ _ _ h => h) (Or.inl ⟨by rfl, ?_⟩) (by assumption) ?_; rotate_left; (intro w hSw; (try dsimp only at hSw); go_simp; try with_reducible rfl); simp only [Act.put, List.setIfInBounds_toArray, List.set_cons_zero, List.set_cons_succ])
                refine wpAnyH_ready (rs := [2]) (by kernel_rfl) (by simp) ?_
                refine AllReadyH.cons (o := { dst := some 40, op := _, type := _, pos := _, after := _, guard := _ }) rfl (fun K hK => ?_) AllReadyH.nil
                go_simp
                refine HWK.out.mono ?_
                rintro e w10 ⟨hch10, -, hm⟩
                obtain ⟨g, rfl, hg⟩ := hm rfl
                exact ⟨rfl, (hch9w.trans (Chg.of_below hbd)).trans (Chg.mono (fun k hk => .inl hk) hch10), ⟨g, rfl, by simp at hg; omega⟩⟩
              · rw [hk] at HWK
                have hfd : ∀ (y : Wd) (W : World), (Instr.field 109 (.agg (encW y).toArray) 1).run Tryz.prog W = .ok (.string y.text) W := fun _ _ => by kernel_rfl
                have BPd := BP9.below hbd
                have BTd := BT9.below hbd
                go_wp2_with fail
                go_region_held3 (fun w' => w'.cell? ⟨w.heap.size, 0, none⟩ = some (.slice A3 acc2.length c3))
                  (first
                    | exact q0
                    | assumption
                    | exact kb10 _)
                  (first
                    | (go_at_call 97; refine HWK.out.mono ?_; rintro e w10 ⟨hch10, hm, -⟩; obtain ⟨y, t2, ht2, rfl, A10, c10, hps10⟩ := hm rfl; have HT2 := Lib.hid ht2; clear ht2; have BP10 := BPd.chg hch10 (by omega); have BT10 := BTd.chg hch10 (by omega); have k10 : w10.cell? ⟨w.heap.size, 0, none⟩ = some (.slice A3 acc2.length c3) := (BP10.cell 0).trans rfl; have b10 : w10.cell? ⟨w.heap.size + 1, 0, none⟩ = some (.slice none 0 0) := (BT10.cell 0).trans rfl; have f10 := fun o => BT10.frozen o; have kb10 : ∀ u, (w10.setCell ⟨w.heap.size + 1, 0, none⟩ u).cell? ⟨w.heap.size, 0, none⟩ = some (.slice A3 acc2.length c3) := fun u => ((BP10.far (a := ⟨w.heap.size + 1, 0, none⟩) (by simp) u).cell 0).trans rfl)
                    | fail)
                have ht1 := HT2.out
                subst ht1
                have hky : y.kind = 0 := by simpa [kindIs] using hk
                have hr2 : r = some ((acc2, y.text), t2, o1) := by rw [HR7.out]; simp only [pKind, if_pos hky]
                subst hr2
                have B12 := BT10.set 0 (.slice A3 acc2.length c3)
                simp at B12
                have y0 := (B12).cell 0
                simp at y0
                have yf := fun o => (B12).frozen o
                go_wp2_with fail
                refine bodyPost_ret (v := .tuple #[.agg #[.slice A3 acc2.length c3], .string y.text]) ?h1 rfl ⟨?h2, ⟨A3, c3, A10, c10, rfl, ?h4, ?h5, rfl, ?h6⟩⟩
                case h1 => simp [results, Tryz.results72, go_sem, y0]
                case h2 => exact ((hch9w.trans (Chg.of_below hbd)).trans (Chg.mono (fun k hk => .inl hk) hch10)).setN (by simp)
                case h4 => exact (((hrow.below hbd).chg hch10 (by intro k hk; omega)).chg (p := fun k => k = w.heap.size + 1) (by repeat' (first | with_reducible exact Chg.refl _ _ | with_reducible assumption | with_reducible refine Chg.al ?_ | with_reducible refine Chg.set ?_ ?_ | with_reducible refine Chg.dr ?_ | with_reducible refine Chg.dn ?_ | with_reducible rfl | omega | (simp; done) | (simp; omega))) (by intro k hk; omega)).mono (fun k hk => hk.1)
                case h5 => exact hps10.setN (by simp; omega) (by intro b hb; have := hpw b hb; simp; omega)
                case h6 => intro b hb; have := hpw b hb; have := hch10.size; simp at this; simp; omega
end Go.Proofs.YtbbmmeaicilabaaGreatDoor
