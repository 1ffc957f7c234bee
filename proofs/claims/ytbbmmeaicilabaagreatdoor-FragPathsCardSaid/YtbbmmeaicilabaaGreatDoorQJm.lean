/- ask's parser: the methods' contracts over one state (the words left, and how the world stands to that of the call). Conditions: the words lie in memory. -/
import Derived.Test.YtbbmmeaicilabaaGreatDoorQJk
import Derived.Outline
set_option linter.unusedVariables false
set_option linter.unusedSimpArgs false
namespace Go.Proofs.YtbbmmeaicilabaaGreatDoor
open Go.RowKit

/-- the parser's state at world wx, since world w0 -/
structure St (w0 : World) (pb : Nat) (ok : Nat → Prop) (ws : List Wd) (e0 e1 e2 e3 ne op : Int) (wx : World) : Prop where
  ps : ∃ A c, PS wx pb ok ws A c e0 e1 e2 e3 ne op
  ch : Chg (fun b => b = pb) w0 wx
  okl : ∀ b, ok b → b < w0.heap.size
  pbl : pb < w0.heap.size
  opl : 0 ≤ op ∧ op ≤ ne ∧ ne ≤ 1000
/-- it gave up -/
def Lost (w0 : World) (pb : Nat) (e : Ending) (w' : World) : Prop := Chg (fun b => b = pb) w0 w' ∧ Gave w0.heap.size e
section
variable {w0 : World} {pb : Nat} {ok : Nat → Prop} {ws : List Wd} {e0 e1 e2 e3 ne op : Int} {wx : World}
theorem St.start {A : Option Addr} {c : Nat} (h : PS w0 pb ok ws A c e0 e1 e2 e3 ne op) (hk : ∀ b, ok b → b < w0.heap.size) (h0 : 0 ≤ op) (h1 : op ≤ ne) (h2 : ne ≤ 1000) : St w0 pb ok ws e0 e1 e2 e3 ne op w0 :=
  ⟨⟨A, c, h⟩, Chg.refl _ _, hk, h.blk.lt, h0, h1, h2⟩
theorem St.sz (h : St w0 pb ok ws e0 e1 e2 e3 ne op wx) : w0.heap.size ≤ wx.heap.size := h.ch.size
theorem St.far {p : Nat → Prop} {w1 : World} (h : St w0 pb ok ws e0 e1 e2 e3 ne op wx) (hc : Chg p wx w1) (hp : ∀ k, p k → w0.heap.size ≤ k) : St w0 pb ok ws e0 e1 e2 e3 ne op w1 := by
  obtain ⟨⟨A, c, hps⟩, hch, hk, hb, ho⟩ := h
  exact ⟨⟨A, c, hps.chg hc (fun hh => by have := hp _ hh; omega) (fun b hb' hh => by have := hp _ hh; have := hk b hb'; omega)⟩,
    ⟨hc.os.trans hch.os, hc.tape.trans hch.tape, hc.output.trans hch.output, Nat.le_trans hch.size hc.size, fun k hk2 hn => (hc.block k (Nat.lt_of_lt_of_le hk2 hch.size) (fun hh => by have := hp _ hh; omega)).trans (hch.block k hk2 hn)⟩, hk, hb, ho⟩
theorem St.bel {w1 : World} (h : St w0 pb ok ws e0 e1 e2 e3 ne op wx) (hb : Below wx.heap.size wx w1) : St w0 pb ok ws e0 e1 e2 e3 ne op w1 := h.far (Chg.of_below (p := fun _ => False) hb) (fun _ h => h.elim)
theorem St.al {o : Obj} (h : St w0 pb ok ws e0 e1 e2 e3 ne op wx) : St w0 pb ok ws e0 e1 e2 e3 ne op (wx.alloc o) := h.bel (bl1 (Nat.le_refl _))
theorem St.dr (h : St w0 pb ok ws e0 e1 e2 e3 ne op wx) : St w0 pb ok ws e0 e1 e2 e3 ne op wx.drew := h.bel (Below.refl _ _).drew
theorem St.set {a : Addr} {u : Value} (h : St w0 pb ok ws e0 e1 e2 e3 ne op wx) (ha : w0.heap.size ≤ a.block) : St w0 pb ok ws e0 e1 e2 e3 ne op (wx.setCell a u) := h.far (p := fun k => k = a.block) (Chg.set rfl (Chg.refl _ _)) (fun k hk => by omega)
theorem St.hk (h : St w0 pb ok ws e0 e1 e2 e3 ne op wx) : ∀ b, ok b → b < wx.heap.size := fun b hb => Nat.lt_of_lt_of_le (h.okl b hb) h.sz
theorem St.of {ws' : List Wd} {op' : Int} {w1 : World} {A : Option Addr} {c : Nat} (h : St w0 pb ok ws e0 e1 e2 e3 ne op wx) (hc : Chg (fun b => b = pb) wx w1) (hps : PS w1 pb ok ws' A c e0 e1 e2 e3 ne op') (ho : 0 ≤ op' ∧ op' ≤ ne) : St w0 pb ok ws' e0 e1 e2 e3 ne op' w1 :=
  ⟨⟨A, c, hps⟩, h.ch.trans hc, h.okl, h.pbl, ho.1, ho.2, h.opl.2.2⟩
theorem St.lost {e : Ending} {w1 : World} (h : St w0 pb ok ws e0 e1 e2 e3 ne op wx) (hc : Chg (fun b => b = pb) wx w1) (hg : Gave wx.heap.size e) : Lost w0 pb e w1 := by
  obtain ⟨g, rfl, hg⟩ := hg
  exact ⟨h.ch.trans hc, g, rfl, Nat.le_trans h.sz hg⟩

theorem St.sign (h : St w0 pb ok ws e0 e1 e2 e3 ne op wx) (n : Nat) (s : ByteArray) : Calls Tryz.prog 69 #[.pointer (some ⟨pb, 0, none⟩), .int .i64 n, .string s] wx fun e w' => e = .returned (.bool (signB ws n s)) ∧ wx = w' := by
  obtain ⟨A, c, hps⟩ := h.ps
  exact (sign_any n s wx pb ok ws A c e0 e1 e2 e3 ne op hps).mono fun _ _ ⟨a, b⟩ => ⟨a, b.symm⟩
theorem St.name (h : St w0 pb ok ws e0 e1 e2 e3 ne op wx) (s : ByteArray) : Calls Tryz.prog 119 #[.pointer (some ⟨pb, 0, none⟩), .string s] wx fun e w' => e = .returned (.bool (nameIs ws s)) ∧ wx = w' := by
  obtain ⟨A, c, hps⟩ := h.ps
  exact (pname_any s wx pb ok ws A c e0 e1 e2 e3 ne op hps).mono fun _ _ ⟨a, b⟩ => ⟨a, b.symm⟩
theorem St.take {x : Wd} {t : List Wd} (h : St w0 pb ok (x :: t) e0 e1 e2 e3 ne op wx) : Calls Tryz.prog 71 #[.pointer (some ⟨pb, 0, none⟩)] wx fun e w' => e = .returned (.agg (encW x).toArray) ∧ Chg (fun b => b = pb) wx w' ∧ St w0 pb ok t e0 e1 e2 e3 ne op w' := by
  obtain ⟨A, c, hps⟩ := h.ps
  exact (take_any wx pb ok x t A c e0 e1 e2 e3 ne op hps h.hk).mono fun e w' ⟨a, b, A', c', hps'⟩ => ⟨a, b, h.of b hps' ⟨h.opl.1, h.opl.2.1⟩⟩
theorem St.give (h : St w0 pb ok ws e0 e1 e2 e3 ne op wx) (why : Int) : Calls Tryz.prog 73 #[.pointer (some ⟨pb, 0, none⟩), .int .i64 why] wx fun e w' => Lost w0 pb e w' := by
  obtain ⟨A, c, hps⟩ := h.ps
  exact (give_any why wx pb ok ws A c e0 e1 e2 e3 ne op hps h.hk).mono fun e w' ⟨hg, hb⟩ => h.lost (Chg.of_below hb) hg
theorem St.want_yes {s : ByteArray} {t : List Wd} (h : St w0 pb ok ws e0 e1 e2 e3 ne op wx) (hw : pWant s ws = some t) : Calls Tryz.prog 120 #[.pointer (some ⟨pb, 0, none⟩), .string s] wx fun e w' => e = .returned (.tuple #[]) ∧ Chg (fun b => b = pb) wx w' ∧ St w0 pb ok t e0 e1 e2 e3 ne op w' := by
  obtain ⟨A, c, hps⟩ := h.ps
  unfold pWant at hw
  split at hw
  · rename_i hs
    cases hw
    exact (want_any s wx pb ok ws A c e0 e1 e2 e3 ne op hps h.hk).mono fun e w' ⟨a, b, _⟩ => by
      obtain ⟨rfl, A', c', hps'⟩ := b hs
      exact ⟨rfl, a, h.of a hps' ⟨h.opl.1, h.opl.2.1⟩⟩
  · cases hw
theorem St.want_no {s : ByteArray} (h : St w0 pb ok ws e0 e1 e2 e3 ne op wx) (hw : pWant s ws = none) : Calls Tryz.prog 120 #[.pointer (some ⟨pb, 0, none⟩), .string s] wx fun e w' => Lost w0 pb e w' := by
  obtain ⟨A, c, hps⟩ := h.ps
  unfold pWant at hw
  split at hw
  · cases hw
  · rename_i hs
    exact (want_any s wx pb ok ws A c e0 e1 e2 e3 ne op hps h.hk).mono fun e w' ⟨a, _, b⟩ => h.lost a (b (by simpa using hs))
theorem St.kind_yes {k : Int} {x : Wd} {t : List Wd} (h : St w0 pb ok ws e0 e1 e2 e3 ne op wx) (hw : pKind k ws = some (x, t)) : Calls Tryz.prog 97 #[.pointer (some ⟨pb, 0, none⟩), .int .i64 k] wx fun e w' => e = .returned (.agg (encW x).toArray) ∧ Chg (fun b => b = pb) wx w' ∧ St w0 pb ok t e0 e1 e2 e3 ne op w' := by
  obtain ⟨A, c, hps⟩ := h.ps
  unfold pKind at hw
  split at hw
  · split at hw
    · rename_i y t' hs
      cases hw
      exact (wantKind_any k wx pb ok _ A c e0 e1 e2 e3 ne op hps h.hk).mono fun e w' ⟨a, b, _⟩ => by
        obtain ⟨x', t'', he, rfl, A', c', hps'⟩ := b (by simpa [kindIs] using hs)
        cases he
        exact ⟨rfl, a, h.of a hps' ⟨h.opl.1, h.opl.2.1⟩⟩
    · cases hw
  · cases hw
theorem St.kind_no {k : Int} (h : St w0 pb ok ws e0 e1 e2 e3 ne op wx) (hw : pKind k ws = none) : Calls Tryz.prog 97 #[.pointer (some ⟨pb, 0, none⟩), .int .i64 k] wx fun e w' => Lost w0 pb e w' := by
  obtain ⟨A, c, hps⟩ := h.ps
  have hk : kindIs ws k = false := by
    unfold pKind at hw
    split at hw
    · split at hw
      · cases hw
      · rename_i hs; simpa [kindIs] using hs
    · rfl
  exact (wantKind_any k wx pb ok ws A c e0 e1 e2 e3 ne op hps h.hk).mono fun e w' ⟨a, _, b⟩ => h.lost a (b hk)
theorem St.enter_yes {s : ByteArray} {t : List Wd} {o : Int} (h : St w0 pb ok ws e0 e1 e2 e3 ne op wx) (hw : pEnter ne s ws op = some (t, o)) : Calls Tryz.prog 121 #[.pointer (some ⟨pb, 0, none⟩), .string s] wx fun e w' => e = .returned (.tuple #[]) ∧ Chg (fun b => b = pb) wx w' ∧ St w0 pb ok t e0 e1 e2 e3 ne o w' := by
  obtain ⟨A, c, hps⟩ := h.ps
  have ho := h.opl
  unfold pEnter at hw
  split at hw
  · rename_i hs
    cases hw
    have hne : op ≠ ne := by simp at hs; exact hs.2
    exact (enter_any s wx pb ok ws A c e0 e1 e2 e3 ne op hps h.hk ho.1 (by omega)).mono fun e w' ⟨a, b, _⟩ => by
      obtain ⟨rfl, A', c', hps'⟩ := b hs
      exact ⟨rfl, a, h.of a hps' ⟨by omega, by omega⟩⟩
  · cases hw
theorem St.enter_no {s : ByteArray} (h : St w0 pb ok ws e0 e1 e2 e3 ne op wx) (hw : pEnter ne s ws op = none) : Calls Tryz.prog 121 #[.pointer (some ⟨pb, 0, none⟩), .string s] wx fun e w' => Lost w0 pb e w' := by
  obtain ⟨A, c, hps⟩ := h.ps
  have ho := h.opl
  unfold pEnter at hw
  split at hw
  · cases hw
  · rename_i hs
    exact (enter_any s wx pb ok ws A c e0 e1 e2 e3 ne op hps h.hk ho.1 (by omega)).mono fun e w' ⟨a, _, b⟩ => h.lost a (b (by simpa using hs))
theorem St.leave_yes {s : ByteArray} {t : List Wd} {o : Int} (h : St w0 pb ok ws e0 e1 e2 e3 ne op wx) (h1 : 1 ≤ op) (hw : pLeave s ws op = some (t, o)) : Calls Tryz.prog 123 #[.pointer (some ⟨pb, 0, none⟩), .string s] wx fun e w' => e = .returned (.tuple #[]) ∧ Chg (fun b => b = pb) wx w' ∧ St w0 pb ok t e0 e1 e2 e3 ne o w' := by
  obtain ⟨A, c, hps⟩ := h.ps
  have ho := h.opl
  unfold pLeave at hw
  split at hw
  · rename_i hs
    cases hw
    exact (leave_any s wx pb ok ws A c e0 e1 e2 e3 ne op hps h.hk ho.1 (by omega)).mono fun e w' ⟨a, b, _⟩ => by
      obtain ⟨rfl, A', c', hps'⟩ := b hs
      exact ⟨rfl, a, h.of a hps' ⟨by omega, by omega⟩⟩
  · cases hw
theorem St.leave_no {s : ByteArray} (h : St w0 pb ok ws e0 e1 e2 e3 ne op wx) (hw : pLeave s ws op = none) : Calls Tryz.prog 123 #[.pointer (some ⟨pb, 0, none⟩), .string s] wx fun e w' => Lost w0 pb e w' := by
  obtain ⟨A, c, hps⟩ := h.ps
  have ho := h.opl
  unfold pLeave at hw
  split at hw
  · cases hw
  · rename_i hs
    exact (leave_any s wx pb ok ws A c e0 e1 e2 e3 ne op hps h.hk ho.1 (by omega)).mono fun e w' ⟨a, _, b⟩ => h.lost a (b (by simpa using hs))
theorem St.read_yes {f L : Nat} {g : List Wd → Int → Ans Expr} {x : Expr} {t : List Wd} {o : Int} (h : St w0 pb ok ws e0 e1 e2 e3 ne op wx) (H : Reads f L ne g) (hL : ws.length < L) (hw : g ws op = some (x, t, o)) :
    Calls Tryz.prog f #[.pointer (some ⟨pb, 0, none⟩)] wx fun e w' => (∃ cs, e = .returned (.agg cs.toArray) ∧ RE w' (fun k => wx.heap.size ≤ k) x cs) ∧ Chg (fun b => b = pb) wx w' ∧ St w0 pb ok t e0 e1 e2 e3 ne o w' ∧ o = op := by
  obtain ⟨A, c, hps⟩ := h.ps
  have hC := H wx pb ok ws A c e0 e1 e2 e3 op hL hps h.hk h.opl.1 h.opl.2.1 h.opl.2.2
  rw [hw] at hC
  exact hC.mono fun e w' ⟨a, cs, A', c', he, hre, hps', ho, _⟩ => ⟨⟨cs, he, hre⟩, a, h.of a hps' ⟨by rw [ho]; exact h.opl.1, by rw [ho]; exact h.opl.2.1⟩, ho⟩
theorem St.read_no {f L : Nat} {g : List Wd → Int → Ans Expr} (h : St w0 pb ok ws e0 e1 e2 e3 ne op wx) (H : Reads f L ne g) (hL : ws.length < L) (hw : g ws op = none) :
    Calls Tryz.prog f #[.pointer (some ⟨pb, 0, none⟩)] wx fun e w' => Lost w0 pb e w' := by
  obtain ⟨A, c, hps⟩ := h.ps
  have hC := H wx pb ok ws A c e0 e1 e2 e3 op hL hps h.hk h.opl.1 h.opl.2.1 h.opl.2.2
  rw [hw] at hC
  exact hC.mono fun e w' ⟨a, b⟩ => h.lost a b
/-- the end of a method that reads an expression -/
theorem St.ends {x : Expr} {cs : List Value} (h : St w0 pb ok ws e0 e1 e2 e3 ne op wx) (hre : RE wx (fun k => w0.heap.size ≤ k) x cs) : ExprP (some (x, ws, op)) op pb ok e0 e1 e2 e3 ne w0 (.returned (.agg cs.toArray)) wx := by
  obtain ⟨A, c, hps⟩ := h.ps
  exact ⟨h.ch, cs, A, c, rfl, hre, hps, rfl, h.hk⟩
theorem Lost.none {e : Ending} {w' : World} (h : Lost w0 pb e w') : ExprP Option.none op pb ok e0 e1 e2 e3 ne w0 e w' := h
theorem Lost.noneS {e : Ending} {w' : World} (h : Lost w0 pb e w') : StepE Option.none op pb ok e0 e1 e2 e3 ne w0 e w' := h
end
end Go.Proofs.YtbbmmeaicilabaaGreatDoor

/- ask's parser: some (a path, an attribute, or both). Conditions: the words lie in memory; what reads a step does so by its contract. -/
namespace Go.Proofs.YtbbmmeaicilabaaGreatDoor
open Go.RowKit

set_option maxRecDepth 10000 in
set_option maxHeartbeats 8000000 in
theorem some_any (L F : Nat) (ne : Int) (st : List Wd → Int → Ans Step) (HS : Short st) (H : ReadsS L ne st) (hF : L ≤ F) (hLm : L ≤ 1000000) : Reads 161 L ne (pSome st F) := by
  intro w pb ok ws A c e0 e1 e2 e3 op hL h hpw h0 h1 hne
  have hpb := h.blk.lt
  obtain ⟨W0, hW0⟩ : ∃ W, W = (w.alloc (.cells #[.int .i64 0, .slice none 0 0, .slice none 0 0, .string ⟨#[]⟩, .int .i64 0, .string ⟨#[]⟩, .int .i64 0] 64)).alloc (.cells #[.int .i64 3, .slice none 0 0, .slice none 0 0, .string ⟨#[]⟩, .int .i64 0, .string ⟨#[]⟩, .int .i64 0] 64) := ⟨_, rfl⟩
  have S0 : St w pb ok ws e0 e1 e2 e3 ne op W0 := by rw [hW0]; exact (St.start h hpw h0 h1 hne).al.al
  have BT : Blk W0 w.heap.size #[.int .i64 0, .slice none 0 0, .slice none 0 0, .string ⟨#[]⟩, .int .i64 0, .string ⟨#[]⟩, .int .i64 0] 64 := by rw [hW0]; exact (Blk.new _ _ _).al _
  have BX : Blk W0 (w.heap.size + 1) #[.int .i64 3, .slice none 0 0, .slice none 0 0, .string ⟨#[]⟩, .int .i64 0, .string ⟨#[]⟩, .int .i64 0] 64 := by
    rw [hW0]; have h := Blk.new (w.alloc (.cells #[.int .i64 0, .slice none 0 0, .slice none 0 0, .string ⟨#[]⟩, .int .i64 0, .string ⟨#[]⟩, .int .i64 0] 64)) #[.int .i64 3, .slice none 0 0, .slice none 0 0, .string ⟨#[]⟩, .int .i64 0, .string ⟨#[]⟩, .int .i64 0] 64; simpa using h
  have hs0 := BX.lt
  have HH := Lib.hid H
  have HSh := Lib.hid HS
  clear h H HS
  generalize hr : pSome st F ws op = r
  have HR := Lib.hid hr
  clear hr
  go_enter Tryz.func161, Tryz.ntmps161
  go_wp2_with fail
  rw [← hW0]
  clear hW0
  refine (S0.sign 0 ⟨#[64]⟩).mono ?_
  rintro e w1 ⟨rfl, rfl⟩
  cases hs : signB ws 0 ⟨#[64]⟩
  · obtain ⟨A1, c1, hps⟩ := S0.ps
    have HC := Lib.hid (path_read L F ne st HSh.out HH.out hF hLm W0 pb ok ws A1 c1 e0 e1 e2 e3 op hL hps S0.hk h0 h1 hne true W0.heap.size none 0 [] (OwnK.nil _ _ _ _ _) (Nat.le_refl _) (by have := S0.sz; omega) (fun b hb => S0.hk b hb) (by simp))
    go_wp2_with fail
    refine HC.out.mono ?_
    rintro e w2 ⟨hch0, hm⟩
    have hch : Chg (fun b => b = pb) W0 w2 := Chg.mono (fun k hk => by rcases hk with hk | hk; exact hk; cases hk) hch0
    cases hp : pPath st F true [] ws op
    · rw [hp] at hm
      have hr2 : r = none := by rw [← HR.out]; unfold pSome sg; rw [hs, hp]; rfl
      subst hr2
      obtain ⟨h1', g, rfl, hg⟩ := S0.lost hch hm
      exact ⟨rfl, h1', g, rfl, hg⟩
    · rename_i p0
      obtain ⟨⟨p, a⟩, t, o⟩ := p0
      rw [hp] at hm
      have hr2 : r = some (.mk 3 [] p a 0 ByteArray.empty 0, t, o) := by rw [← HR.out]; unfold pSome sg; rw [hs, hp]; rfl
      subst hr2
      obtain ⟨As, cp, A2, c2, rfl, hrow, hps2, hop, -⟩ := hm
      subst hop
      have S2 := S0.of hch hps2 ⟨h0, h1⟩
      have BT2 := BT.chg hch (by omega)
      have BX2 := BX.chg hch (by omega)
      have hsz := hch.size
      have z0 := (BT2).cell 0
      have z1 := (BT2).cell 1
      have z2 := (BT2).cell 2
      have z3 := (BT2).cell 3
      have z4 := (BT2).cell 4
      have z5 := (BT2).cell 5
      have z6 := (BT2).cell 6
      simp at z0 z1 z2 z3 z4 z5 z6
      have zf := fun o => (BT2).frozen o
      have m0 := (BX2).cell 0
      have m1 := (BX2).cell 1
      have m2 := (BX2).cell 2
      have m3 := (BX2).cell 3
      have m4 := (BX2).cell 4
      have m5 := (BX2).cell 5
      have m6 := (BX2).cell 6
      simp at m0 m1 m2 m3 m4 m5 m6
      have mf := fun o => (BX2).frozen o
      go_wp2_with fail
      refine bodyPost_ret (v := .agg [.int .i64 3, .slice none 0 0, .slice As p.length cp, .string a, .int .i64 0, .string ⟨#[]⟩, .int .i64 0].toArray) ?h1 rfl ?h2
      case h1 => simp [results, Tryz.results161, go_sem, z0, z1, z2, z3, z4, z5, z6]
      case h2 =>
        refine St.ends ?h3 (RE.of_rows (x := .mk 3 [] p a 0 ByteArray.empty 0) (RowK.nil _ _ _) ?h4)
        case h3 => repeat' first | with_reducible exact S2 | with_reducible refine St.set ?_ ?_ | (simp; done)
        case h4 => exact (hrow.chg (p := fun k => k = w.heap.size ∨ k = w.heap.size + 1) (by repeat' (first | with_reducible exact Chg.refl _ _ | with_reducible assumption | with_reducible refine Chg.al ?_ | with_reducible refine Chg.set ?_ ?_ | with_reducible refine Chg.dr ?_ | with_reducible refine Chg.dn ?_ | with_reducible rfl | omega | (simp; done) | (simp; omega))) (by intro k hk; omega)).mono (by intro k hk; omega)
  · obtain ⟨x0, t0, rfl⟩ := signB_cons hs
    go_wp2_with fail
    refine S0.take.mono ?_
    rintro e w2 ⟨rfl, hch2, S2⟩
    have BT2 := BT.chg hch2 (by omega)
    have BX2 := BX.chg hch2 (by omega)
    have hsz := hch2.size
    have ma2 : ∀ o, (w2.alloc o).cell? ⟨w.heap.size + 1, 2, none⟩ = some (.slice none 0 0) := fun o => ((BX2.al o).cell 2).trans rfl
    have maf : ∀ o, (w2.alloc o).frozen? ⟨w.heap.size + 1, 2, none⟩ = false := fun o => (BX2.al o).frozen 2
    go_wp2_with fail
    have S3 := (S2.al (o := .cells #[.int .i64 3, .int .i64 3, .string ⟨#[]⟩, .slice none 0 0] 55)).set (a := ⟨w.heap.size + 1, 2, none⟩) (u := .slice (some ⟨w2.heap.size, 0, none⟩) 1 1) (by simp)
    have BT3 := (BT2.al (.cells #[.int .i64 3, .int .i64 3, .string ⟨#[]⟩, .slice none 0 0] 55)).far (a := ⟨w.heap.size + 1, 2, none⟩) (by simp) (.slice (some ⟨w2.heap.size, 0, none⟩) 1 1)
    have BX3 := (BX2.al (.cells #[.int .i64 3, .int .i64 3, .string ⟨#[]⟩, .slice none 0 0] 55)).set 2 (.slice (some ⟨w2.heap.size, 0, none⟩) 1 1)
    have BN3 := (Blk.new w2 #[.int .i64 3, .int .i64 3, .string ⟨#[]⟩, .slice none 0 0] 55).far (a := ⟨w.heap.size + 1, 2, none⟩) (by simp; omega) (.slice (some ⟨w2.heap.size, 0, none⟩) 1 1)
    simp only [List.setIfInBounds_toArray, List.set_cons_zero, List.set_cons_succ] at BX3
    generalize (w2.alloc (.cells #[.int .i64 3, .int .i64 3, .string ⟨#[]⟩, .slice none 0 0] 55)).setCell ⟨w.heap.size + 1, 2, none⟩ (.slice (some ⟨w2.heap.size, 0, none⟩) 1 1) = W3 at *
    cases hk : pKind 0 t0
    · have hr2 : r = none := by rw [← HR.out]; unfold pSome sg; rw [hs, if_pos rfl, List.tail_cons, hk]
      subst hr2
      refine (S3.kind_no hk).mono ?_
      rintro e w4 ⟨h1', g, rfl, hg⟩
      exact ⟨rfl, h1', g, rfl, hg⟩
    · rename_i p0
      obtain ⟨y, t⟩ := p0
      have hr2 : r = some (.mk 3 [] [.mk 3 3 ByteArray.empty []] y.text 0 ByteArray.empty 0, t, op) := by rw [← HR.out]; unfold pSome sg; rw [hs, if_pos rfl, List.tail_cons, hk]
      subst hr2
      have hfd : ∀ (W : World), (Instr.field 109 (.agg (encW y).toArray) 1).run Tryz.prog W = .ok (.string y.text) W := fun _ => by kernel_rfl
      refine (S3.kind_yes hk).mono ?_
      rintro e w4 ⟨rfl, hch4, S4⟩
      have BT4 := BT3.chg hch4 (by omega)
      have BX4 := BX3.chg hch4 (by omega)
      have BN4 := BN3.chg hch4 (by omega)
      have z0 := (BT4).cell 0
      have z1 := (BT4).cell 1
      have z2 := (BT4).cell 2
      have z3 := (BT4).cell 3
      have z4 := (BT4).cell 4
      have z5 := (BT4).cell 5
      have z6 := (BT4).cell 6
      simp at z0 z1 z2 z3 z4 z5 z6
      have zf := fun o => (BT4).frozen o
      have m0 := (BX4).cell 0
      have m1 := (BX4).cell 1
      have m2 := (BX4).cell 2
      have m3 := (BX4).cell 3
      have m4 := (BX4).cell 4
      have m5 := (BX4).cell 5
      have m6 := (BX4).cell 6
      simp at m0 m1 m2 m3 m4 m5 m6
      have mf := fun o => (BX4).frozen o
      go_wp2_with fail
      refine bodyPost_ret (v := .agg [.int .i64 3, .slice none 0 0, .slice (some ⟨w2.heap.size, 0, none⟩) 1 1, .string y.text, .int .i64 0, .string ⟨#[]⟩, .int .i64 0].toArray) ?h1 rfl ?h2
      case h1 => simp [results, Tryz.results161, go_sem, z0, z1, z2, z3, z4, z5, z6]
      case h2 =>
        have hrow : RowK kS w4 (fun k => k = w2.heap.size) (some ⟨w2.heap.size, 0, none⟩) [.mk 3 3 ByteArray.empty []] :=
          RowK.oneSc (hf := fun o => BN4.frozen o) (.mk 3 3 ByteArray.empty []) none 0 rfl (RS.of_rows (RowK.nil _ _ _)) ((BN4.cell 0).trans rfl) ((BN4.cell 1).trans rfl) ((BN4.cell 2).trans rfl) ((BN4.cell 3).trans rfl)
        refine St.ends ?h3 (RE.of_rows (x := .mk 3 [] [.mk 3 3 ByteArray.empty []] y.text 0 ByteArray.empty 0) (RowK.nil _ _ _) ?h4)
        case h3 => repeat' first | with_reducible exact S4 | with_reducible refine St.set ?_ ?_ | (simp; done)
        case h4 => exact (hrow.chg (p := fun k => k = w.heap.size ∨ k = w.heap.size + 1) (by repeat' (first | with_reducible exact Chg.refl _ _ | with_reducible assumption | with_reducible refine Chg.al ?_ | with_reducible refine Chg.set ?_ ?_ | with_reducible refine Chg.dr ?_ | with_reducible refine Chg.dn ?_ | with_reducible rfl | omega | (simp; done) | (simp; omega))) (by intro k hk; omega)).mono (by intro k hk; omega)
end Go.Proofs.YtbbmmeaicilabaaGreatDoor
