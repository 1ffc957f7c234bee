/- ask.Parse: a query's path, where the text is cut and read to its end. Conditions: the bytes and the tables lie in memory; at most a million bytes. -/
import Derived.Test.YtbbmmeaicilabaaGreatDoorQJr
import Derived.Test.YtbbmmeaicilabaaGreatDoorQKh
import Derived.Defers
import Derived.Recover
import Derived.Tactics2
import Derived.Test.YtbbmmeaicilabaaGreatDoorQKi
import Derived.Lib.ConvBytes
import Derived.Test.YtbbmmeaicilabaaGreatDoorQGq
set_option linter.unusedVariables false
set_option linter.unusedSimpArgs false
namespace Go.Proofs.YtbbmmeaicilabaaGreatDoor
open Go.RowKit

theorem catch_idle (p q : Addr) (w : World) :
    CallsD Tryz.prog 39 #[.pointer (some p), .pointer (some q)] .returning w fun e u' w' => e = .returned (.tuple #[]) ∧ u' = .returning ∧ w' = w := by
  refine callsD_of_wpS Tryz.func39 rfl fun c₀ cs hu => ?_
  apply wpS_seq
  apply wpS_region
  simp [wpOpsS, go_sem, recoverD, hu, Tryz.ntmps39, Exit.thenS]
  refine wpS_of_wp ?_
  go_wp2
  cases c₀
  simp_all [bodyPostS, results, Tryz.results39]

/-- what Parse answers where it can -/
def ParseE (p : List Step) (w : World) (e : Ending) (w' : World) : Prop :=
  ∃ As cp, e = .returned (.tuple #[.agg #[.slice As p.length cp], .nilIface]) ∧ RowK kS w' (fun k => w.heap.size ≤ k) As p ∧ Below w.heap.size w w'
theorem strip_len {ws toks : List Wd} (h : ws.map strip = toks) : ws.length = toks.length := by rw [← h]; simp

set_option maxRecDepth 100000 in
set_option maxHeartbeats 8000000 in
theorem parse_any (F : Nat) (hF : F ≤ 1000000) (A : Option Addr) (bs : List UInt8) (c : Nat) (s : ByteArray) (hs : s = ⟨bs.toArray⟩) (toks : List Wd) (length nested ne : Int) (p : List Step) (w : World) (hb : RowK kB w (fun _ => True) A bs) (hc : bs.length ≤ c) (hcm : c ≤ 9223372036854775807) (hlen : bs.length ≤ 1000000) (hT : WOX w)
    (hL : (bs.length : Int) ≤ max 0 (min length 65536)) (hne : ne = max 0 (min nested 200)) (hl : lexF s = some toks) (hFt : toks.length < F) (hq : ∀ ws, ws.map strip = toks → pQuery ne F ws = some p) :
    Calls Tryz.prog 20 #[.slice A bs.length c, .int .i64 length, .int .i64 nested] w (ParseE p w) := by
  have hmf : ∀ (fn : Fn) (first cap : Array Value) (w : World), (Instr.makeFunc fn first cap).run Tryz.prog w = .ok (.func fn first cap) w := fun _ _ _ _ => rfl
  have hne1 : 0 ≤ ne ∧ ne ≤ 200 := by omega
  have HW := Lib.hid (fun W hW => words_any A bs c s hs toks W (hb.below hW) hc hcm hlen (hT.below hW) hl)
  have HB := Lib.hid hb
  have HQ := Lib.hid hq
  have HNE := Lib.hid hne.symm
  have hL2 : decide (max 0 (min length 65536) < (bs.length : Int)) = false := by rw [decide_eq_false_iff_not]; omega
  clear hb hT hs hl hq hne hL
  go_enter_defers Tryz.func20, Tryz.ntmps20
  go_wp2_with fail
  refine (HW.out _ (bl2 (Nat.le_refl _))).mono ?_
  rintro e w1 ⟨A', c', ws, rfl, hrow, hstrip, hcap, hcapm, hb1⟩
  have BT1 := ((Blk.new w #[.slice none 0 0] 27).al (.cells #[.nilIface] 42)).below hb1
  have BE1 := (Blk.new (w.alloc (.cells #[.slice none 0 0] 27)) #[.nilIface] 42).below hb1
  have hw1 : Below w.heap.size w w1 := (bl2 (Nat.le_refl _)).trans (hb1.mono (by simp; omega))
  have hs1 : w.heap.size + 2 ≤ w1.heap.size := by have := hb1.size; simp at this; omega
  have hsz : (w.alloc (.cells #[.slice none 0 0] 27)).heap.size = w.heap.size + 1 := by simp
  have hsz2 : ((w.alloc (.cells #[.slice none 0 0] 27)).alloc (.cells #[.nilIface] 42)).heap.size = w.heap.size + 2 := by simp
  rw [hsz] at BE1
  rw [hsz2] at hrow
  clear hsz hsz2
  have m0 := (BE1).cell 0
  simp at m0
  have mf := fun o => (BE1).frozen o
  go_wp2_with fail
  have BE2 := BE1.set 0 .nilIface
  have BT2 := BT1.far (a := ⟨w.heap.size + 1, 0, none⟩) (by simp) .nilIface
  have hw2 : Below w.heap.size w (w1.setCell ⟨w.heap.size + 1, 0, none⟩ .nilIface) := hw1.setCell (p := ⟨w.heap.size + 1, 0, none⟩) (Nat.le_succ _) _
  have hrow2 := hrow.chg (p := fun k => k = w.heap.size + 1) (Chg.set (ad := ⟨w.heap.size + 1, 0, none⟩) (u := .nilIface) rfl (Chg.refl _ _)) (by intro k hk; omega)
  have hs2 : w.heap.size + 2 ≤ (w1.setCell ⟨w.heap.size + 1, 0, none⟩ .nilIface).heap.size := by simp; omega
  simp only [List.setIfInBounds_toArray, List.set_cons_zero] at BE2
  clear m0 mf
  generalize w1.setCell ⟨w.heap.size + 1, 0, none⟩ .nilIface = w2 at *
  refine (at_any A bs c (bs.length : Int) w2 (HB.out.below hw2) hc hcm).mono ?_
  rintro e w3 ⟨⟨p0, p1, p2, p3, kk, rfl⟩, hb3⟩
  have hs3 := hb3.size
  go_wp2_with fail
  rw [HNE.out]
  obtain ⟨W5, hW5⟩ : ∃ W, W = (w3.alloc (.cells #[.int .i64 p0, .int .i64 p1, .int .i64 p2, .int .i64 p3] 68)).alloc (.cells #[.slice A' ws.length c', .int .i64 p0, .int .i64 p1, .int .i64 p2, .int .i64 p3, .int .i64 ne, .int .i64 0] 79) := ⟨_, rfl⟩
  have hrow3 : RowK kW w3 (fun k => w.heap.size + 2 ≤ k ∧ k < w3.heap.size) A' ws := (hrow2.below hb3).move (w1 := w3) (Nat.le_refl _) (fun _ _ _ => rfl)
  have hb5 : Below w3.heap.size w3 W5 := by rw [hW5]; exact bl2 (Nat.le_refl _)
  have hps : PS W5 (w3.heap.size + 1) (fun k => w.heap.size + 2 ≤ k ∧ k < w3.heap.size) ws A' c' p0 p1 p2 p3 ne 0 := by
    refine ⟨?_, hrow3.below hb5, hcap, hcapm, fun b hb => by omega⟩
    rw [hW5]
    have h := Blk.new (w3.alloc (.cells #[.int .i64 p0, .int .i64 p1, .int .i64 p2, .int .i64 p3] 68)) #[.slice A' ws.length c', .int .i64 p0, .int .i64 p1, .int .i64 p2, .int .i64 p3, .int .i64 ne, .int .i64 0] 79
    simpa using h
  have hs5 : w3.heap.size + 1 < W5.heap.size := hps.blk.lt
  have hwl := strip_len hstrip
  have HC := Lib.hid (query_any F ne hF W5 (w3.heap.size + 1) (fun k => w.heap.size + 2 ≤ k ∧ k < w3.heap.size) ws A' c' p0 p1 p2 p3 (by omega) hps (fun b hb => by omega) hne1.1 (by omega))
  rw [HQ.out ws hstrip] at HC
  have BT5 := (BT2.below hb3).below hb5
  have BE5 := (BE2.below hb3).below hb5
  have hw5 : Below w.heap.size w W5 := (hw2.trans (hb3.mono (by omega))).trans (hb5.mono (by omega))
  rw [← hW5]
  clear hW5 hps hrow3 hrow2 hrow BT2 BE2 BT1 BE1
  refine HC.out.mono ?_
  rintro e w6 ⟨hch, As, cp, rfl, hrowp⟩
  have BT6 := BT5.chg hch (by omega)
  have BE6 := BE5.chg hch (by omega)
  have hw6 : Below w.heap.size w w6 := hw5.trans (hch.below (B := w.heap.size) (by omega) (fun k hk => by omega))
  have m0 := (BE6).cell 0
  simp at m0
  have mf := fun o => (BE6).frozen o
  have z0 := (BT6).cell 0
  simp at z0
  have zf := fun o => (BT6).frozen o
  go_wp2_with fail
  refine leaves_cons (f := 39) (args := #[.pointer (some ⟨w.heap.size, 0, none⟩), .pointer (some ⟨w.heap.size + 1, 0, none⟩)]) (by simp) (by simp [go_sem]) ?_
  refine (catch_idle _ _ _).mono ?_
  rintro e u' w'' ⟨rfl, rfl, rfl⟩
  have BT7 := (BT6.set 0 (.slice As p.length cp)).far (a := ⟨w.heap.size + 1, 0, none⟩) (by simp) .nilIface
  have BE7 := (BE6.far (a := ⟨w.heap.size, 0, none⟩) (by simp) (.slice As p.length cp)).set 0 .nilIface
  simp only [List.setIfInBounds_toArray, List.set_cons_zero] at BT7 BE7
  have hrow7 : RowK kS ((w6.setCell ⟨w.heap.size, 0, none⟩ (.slice As p.length cp)).setCell ⟨w.heap.size + 1, 0, none⟩ .nilIface) (fun k => w.heap.size ≤ k) As p :=
    (hrowp.chg (p := fun k => k = w.heap.size ∨ k = w.heap.size + 1) (by repeat' (first | with_reducible exact Chg.refl _ _ | with_reducible assumption | with_reducible refine Chg.al ?_ | with_reducible refine Chg.set ?_ ?_ | with_reducible refine Chg.dr ?_ | with_reducible refine Chg.dn ?_ | with_reducible rfl | omega | (simp; done) | (simp; omega))) (by intro k hk; omega)).mono (by intro k hk; omega)
  have hw7 : Below w.heap.size w ((w6.setCell ⟨w.heap.size, 0, none⟩ (.slice As p.length cp)).setCell ⟨w.heap.size + 1, 0, none⟩ .nilIface) :=
    (hw6.setCell (p := ⟨w.heap.size, 0, none⟩) (Nat.le_refl _) _).setCell (p := ⟨w.heap.size + 1, 0, none⟩) (Nat.le_succ _) _
  generalize (w6.setCell ⟨w.heap.size, 0, none⟩ (.slice As p.length cp)).setCell ⟨w.heap.size + 1, 0, none⟩ .nilIface = w7 at *
  clear m0 mf z0 zf
  have m0 := (BE7).cell 0
  simp at m0
  have mf := fun o => (BE7).frozen o
  have z0 := (BT7).cell 0
  simp at z0
  have zf := fun o => (BT7).frozen o
  refine ⟨.tuple #[.agg #[.slice As p.length cp], .nilIface], ?_, As, cp, rfl, hrow7, hw7⟩
  simp [results, Tryz.results20, go_sem, m0, z0]
end Go.Proofs.YtbbmmeaicilabaaGreatDoor

/- gimletlaw13.parsed: a query's path out of its text. Conditions: the tables lie as the text lays them; the text is cut and read to its end. -/
namespace Go.Proofs.YtbbmmeaicilabaaGreatDoor
open Go.RowKit

theorem RowK.ofB {w : World} {ok : Nat → Prop} {bs : List UInt8} {b off : Nat} (ho : ok b) (hb : b < w.heap.size) (hn : bs.length ≤ 9223372036854775807) (h : ∀ j (hj : j < bs.length), w.cell? ⟨b, off + j, none⟩ = some (.int .u8 (bs[j].toNat : Int))) (hf : ∀ j, j < bs.length → w.frozen? ⟨b, off + j, none⟩ = false) : RowK kB w ok (some ⟨b, off, none⟩) bs := by
  refine ⟨fun j => [.int .u8 ((bs.getD j 0).toNat : Int)], ⟨hn, fun _ => ⟨b, off, rfl, ho, hb, fun j hj i u hu => ?_⟩⟩, fun j p hj => ?_⟩
  · match i, hu with
    | 0, hu =>
      simp at hu
      have := h j hj
      rw [show kB.sz = 1 from rfl, Nat.mul_one, Nat.add_zero, this, hf j hj, ← hu]
      simp [hj]
    | i + 1, hu => simp at hu
  · show [Value.int .u8 ((bs.getD j 0).toNat : Int)] = [Value.int .u8 (p.toNat : Int)]
    simp [hj]
theorem bytesWorld_fz (w : World) (e : TypeId) (s : ByteArray) (j : Nat) (hj : j < s.size) : (Lib.bytesWorld w e s).frozen? ⟨w.heap.size, j, none⟩ = false := by
  have : s.size ≤ (Lib.bytesCells w e s).size := by simp [Lib.bytesCells, ByteArray.size_data]
  simp [World.frozen?, Lib.bytesWorld_at_new]
  intro h; omega
theorem bytesWorld_below (w : World) (e : TypeId) (s : ByteArray) : Below w.heap.size w (Lib.bytesWorld w e s) :=
  ⟨rfl, rfl, rfl, by rw [Lib.bytesWorld_size]; omega, fun k hk => Lib.bytesWorld_at_old w e s k hk⟩

set_option maxRecDepth 100000 in
set_option maxHeartbeats 4000000 in
theorem parsed_any (F : Nat) (hF : F ≤ 1000000) (s : ByteArray) (toks : List Wd) (p : List Step) (w : World) (hT : WOX w) (hsz : s.size ≤ 65536) (hl : lexF s = some toks) (hFt : toks.length < F) (hq : pQuery 200 F toks = some p) :
    Calls Tryz.prog 8 #[.string s] w fun e w' => ∃ As cp, e = .returned (.tuple #[.agg #[.slice As p.length cp], .bool true]) ∧ RowK kS w' (fun k => w.heap.size ≤ k) As p ∧ Below w.heap.size w w' := by
  have hcv := fun (w : World) (x : ByteArray) => Lib.run_convert_string_bytes (P := Tryz.prog) w 9 22 5 x Tryz.underlying9 Tryz.underlying22 Tryz.underlying5
  obtain ⟨W0, hW0⟩ : ∃ W, W = w.alloc (.cells #[.slice none 0 0] 27) := ⟨_, rfl⟩
  have hb0 : Below w.heap.size w W0 := by rw [hW0]; exact bl1 (Nat.le_refl _)
  have BT : Blk W0 w.heap.size #[.slice none 0 0] 27 := by rw [hW0]; exact Blk.new _ _ _
  have hbb := bytesWorld_below W0 5 s
  have hlen : s.data.toList.length = s.size := by simp [ByteArray.size_data]
  have hrow : RowK kB (Lib.bytesWorld W0 5 s) (fun _ => True) (some ⟨W0.heap.size, 0, none⟩) s.data.toList :=
    RowK.ofB trivial (by rw [Lib.bytesWorld_size]; omega) (by omega) (fun j hj => by
      rw [Nat.zero_add, Lib.bytesWorld_cell _ _ _ j (by omega), List.getD_eq_getElem?_getD, List.getElem?_eq_getElem hj]
      rfl) (fun j hj => by rw [Nat.zero_add]; exact bytesWorld_fz W0 5 s j (by omega))
  have hcg := grownCap_ge W0 s.size 0 5
  have hcm := grownCap_le_maxLen W0 s.size 0 5 (by unfold maxLen; omega)
  unfold maxLen at hcm
  generalize hcc : grownCap W0 s.size 0 5 = cc at hcg hcm
  have hcv0 := hcv W0 s
  rw [hcc] at hcv0
  have HC := Lib.hid (parse_any F hF (some ⟨W0.heap.size, 0, none⟩) s.data.toList cc s (by simp) toks 65536 200 200 p (Lib.bytesWorld W0 5 s) hrow (by omega) hcm (by omega) ((hT.below hb0).below hbb) (by rw [hlen]; simp; omega) (by decide) hl hFt (fun ws hws => by rw [← al_query, hws]; exact hq))
  rw [hlen] at HC
  have hwb := hb0.trans (hbb.mono hb0.size)
  have BT1 := BT.below hbb
  clear hcv hl hq hT hrow hcg hcm hcc hlen
  generalize Lib.bytesWorld W0 5 s = W1 at *
  go_enter Tryz.func8, Tryz.ntmps8
  go_wp2_with fail
  rw [← hW0]
  clear hW0
  go_simp
  go_wp2_with fail
  refine HC.out.mono ?_
  rintro e w2 ⟨As, cp, rfl, hrow, hb2⟩
  have hwb2 := hwb.trans (hb2.mono hwb.size)
  have BT2 := BT1.below hb2
  have B4 := Blk.new w2 #[.slice As p.length cp] 27
  have BT3 := BT2.al (.cells #[.slice As p.length cp] 27)
  have hrow3 := hrow.al (o := .cells #[.slice As p.length cp] 27)
  have hwb3 := hwb2.trans (bl1 (o := .cells #[.slice As p.length cp] 27) hwb2.size)
  have hs2 := hwb.size
  have hlt2 := BT2.lt
  have hltW := BT1.lt
  go_wp2_with fail
  generalize w2.alloc (.cells #[.slice As p.length cp] 27) = w3 at *
  have q0 : w3.cell? ⟨w2.heap.size, 0, none⟩ = some (.slice As p.length cp) := (B4.cell 0).trans rfl
  have t0 : w3.cell? ⟨w.heap.size, 0, none⟩ = some (.slice none 0 0) := (BT3.cell 0).trans rfl
  have tf : w3.frozen? ⟨w.heap.size, 0, none⟩ = false := BT3.frozen 0
  have kq : ∀ u, (w3.setCell ⟨w.heap.size, 0, none⟩ u).cell? ⟨w2.heap.size, 0, none⟩ = some (.slice As p.length cp) := fun u => ((B4.far (a := ⟨w.heap.size, 0, none⟩) (by simp; omega) u).cell 0).trans rfl
  have td : w3.drew.cell? ⟨w.heap.size, 0, none⟩ = some (.slice none 0 0) := t0
  have tdf : w3.drew.frozen? ⟨w.heap.size, 0, none⟩ = false := tf
  have kqd : ∀ u, (w3.drew.setCell ⟨w.heap.size, 0, none⟩ u).cell? ⟨w2.heap.size, 0, none⟩ = some (.slice As p.length cp) := kq
  go_region_held3 (fun w' => w'.cell? ⟨w2.heap.size, 0, none⟩ = some (.slice As p.length cp)) (first | exact q0 | exact kqd _ | exact kq _ | assumption) (fail)
  go_wp2_with fail
  have B5 : Blk (w3.setCell ⟨w.heap.size, 0, none⟩ (.slice As p.length cp)).drew w.heap.size #[.slice As p.length cp] 27 := by
    have h := (BT3.set 0 (.slice As p.length cp)).below ((Below.refl _ _).drew)
    simpa using h
  have hrow5 : RowK kS (w3.setCell ⟨w.heap.size, 0, none⟩ (.slice As p.length cp)).drew (fun k => w.heap.size ≤ k) As p :=
    (hrow3.chg (p := fun k => k = w.heap.size) (Chg.dr (Chg.set rfl (Chg.refl _ _))) (by intro k hk; omega)).mono (by intro k hk; omega)
  have hwb5 : Below w.heap.size w (w3.setCell ⟨w.heap.size, 0, none⟩ (.slice As p.length cp)).drew := (hwb3.setCell (p := ⟨w.heap.size, 0, none⟩) (Nat.le_refl _) _).drew
  generalize (w3.setCell ⟨w.heap.size, 0, none⟩ (.slice As p.length cp)).drew = w5 at *
  clear q0 t0 tf kq td tdf kqd
  have z0 := (B5).cell 0
  simp at z0
  have zf := fun o => (B5).frozen o
  refine bodyPost_ret (v := .tuple #[.agg #[.slice As p.length cp], .bool true]) ?h1 rfl ⟨As, cp, rfl, hrow5, hwb5⟩
  case h1 => simp [results, Tryz.results8, go_sem, z0]
end Go.Proofs.YtbbmmeaicilabaaGreatDoor

/- gimletlaw13.awake: the calls whose answers the document fixes. Conditions: the tables lie as the text lays them. -/
namespace Go.Proofs.YtbbmmeaicilabaaGreatDoor
open Go.RowKit

def toksA : List Wd := [⟨3, ⟨#[47, 47]⟩, 0, 0, 0, 0, 0⟩, ⟨3, ⟨#[46]⟩, 0, 0, 0, 0, 0⟩, ⟨3, ⟨#[47, 47]⟩, 0, 0, 0, 0, 0⟩, ⟨0, ⟨#[97]⟩, 0, 0, 0, 0, 0⟩, ⟨3, ⟨#[91]⟩, 0, 0, 0, 0, 0⟩, ⟨0, ⟨#[98]⟩, 0, 0, 0, 0, 0⟩, ⟨0, ⟨#[97, 110, 100]⟩, 0, 0, 0, 0, 0⟩, ⟨3, ⟨#[40]⟩, 0, 0, 0, 0, 0⟩, ⟨0, ⟨#[99]⟩, 0, 0, 0, 0, 0⟩, ⟨0, ⟨#[97, 110, 100]⟩, 0, 0, 0, 0, 0⟩, ⟨0, ⟨#[98]⟩, 0, 0, 0, 0, 0⟩, ⟨3, ⟨#[41]⟩, 0, 0, 0, 0, 0⟩, ⟨3, ⟨#[93]⟩, 0, 0, 0, 0, 0⟩, ⟨3, ⟨#[91]⟩, 0, 0, 0, 0, 0⟩, ⟨0, ⟨#[110, 111, 116]⟩, 0, 0, 0, 0, 0⟩, ⟨3, ⟨#[40]⟩, 0, 0, 0, 0, 0⟩, ⟨0, ⟨#[110, 111, 116]⟩, 0, 0, 0, 0, 0⟩, ⟨3, ⟨#[40]⟩, 0, 0, 0, 0, 0⟩, ⟨0, ⟨#[99]⟩, 0, 0, 0, 0, 0⟩, ⟨3, ⟨#[41]⟩, 0, 0, 0, 0, 0⟩, ⟨3, ⟨#[41]⟩, 0, 0, 0, 0, 0⟩, ⟨3, ⟨#[93]⟩, 0, 0, 0, 0, 0⟩]
def toksB : List Wd := [⟨0, ⟨#[100, 101, 115, 99, 101, 110, 100, 97, 110, 116]⟩, 0, 0, 0, 0, 0⟩, ⟨3, ⟨#[58, 58]⟩, 0, 0, 0, 0, 0⟩, ⟨0, ⟨#[97]⟩, 0, 0, 0, 0, 0⟩, ⟨3, ⟨#[91]⟩, 0, 0, 0, 0, 0⟩, ⟨0, ⟨#[98]⟩, 0, 0, 0, 0, 0⟩, ⟨3, ⟨#[93]⟩, 0, 0, 0, 0, 0⟩, ⟨3, ⟨#[91]⟩, 0, 0, 0, 0, 0⟩, ⟨0, ⟨#[99]⟩, 0, 0, 0, 0, 0⟩, ⟨3, ⟨#[93]⟩, 0, 0, 0, 0, 0⟩]
def pathA : List Step := [.mk 2 3 ⟨#[]⟩ [], .mk 3 3 ⟨#[]⟩ [], .mk 2 3 ⟨#[]⟩ [], .mk 0 0 ⟨#[97]⟩ [.mk 0 [.mk 3 [] [.mk 0 0 ⟨#[98]⟩ []] ⟨#[]⟩ 0 ⟨#[]⟩ 0, .mk 0 [.mk 3 [] [.mk 0 0 ⟨#[99]⟩ []] ⟨#[]⟩ 0 ⟨#[]⟩ 0, .mk 3 [] [.mk 0 0 ⟨#[98]⟩ []] ⟨#[]⟩ 0 ⟨#[]⟩ 0] [] ⟨#[]⟩ 0 ⟨#[]⟩ 0] [] ⟨#[]⟩ 0 ⟨#[]⟩ 0, .mk 2 [.mk 2 [.mk 3 [] [.mk 0 0 ⟨#[99]⟩ []] ⟨#[]⟩ 0 ⟨#[]⟩ 0] [] ⟨#[]⟩ 0 ⟨#[]⟩ 0] [] ⟨#[]⟩ 0 ⟨#[]⟩ 0]]
def pathB : List Step := [.mk 1 0 ⟨#[97]⟩ [.mk 3 [] [.mk 0 0 ⟨#[98]⟩ []] ⟨#[]⟩ 0 ⟨#[]⟩ 0, .mk 3 [] [.mk 0 0 ⟨#[99]⟩ []] ⟨#[]⟩ 0 ⟨#[]⟩ 0]]
theorem lexA : lexF ⟨#[47, 47, 46, 47, 47, 97, 91, 98, 32, 97, 110, 100, 32, 40, 99, 32, 97, 110, 100, 32, 98, 41, 93, 91, 110, 111, 116, 40, 110, 111, 116, 40, 99, 41, 41, 93]⟩ = some toksA := by kernel_rfl
theorem lexB : lexF ⟨#[100, 101, 115, 99, 101, 110, 100, 97, 110, 116, 58, 58, 97, 91, 98, 93, 91, 99, 93]⟩ = some toksB := by kernel_rfl
theorem readA : pQuery 200 60 toksA = some pathA := by kernel_rfl
theorem readB : pQuery 200 60 toksB = some pathB := by kernel_rfl
theorem isA : isQ pathA = true := by kernel_rfl
theorem isB : isQ pathB = true := by kernel_rfl
theorem nrmA : nrm 100 pathA = pathB := by kernel_rfl
theorem emB : emptyB (nrm 100 pathB) = false := by kernel_rfl

set_option maxRecDepth 100000 in
set_option maxHeartbeats 8000000 in
theorem awake_any (w : World) (hT : WOX w) : Calls Tryz.prog 6 #[] w fun e w' => e = .returned (.bool true) ∧ Below w.heap.size w w' := by
  have HT := Lib.hid hT
  clear hT
  go_enter Tryz.func6, Tryz.ntmps6
  go_wp2_with fail
  refine (parsed_any 60 (by omega) ⟨#[47, 47, 46, 47, 47, 97, 91, 98, 32, 97, 110, 100, 32, 40, 99, 32, 97, 110, 100, 32, 98, 41, 93, 91, 110, 111, 116, 40, 110, 111, 116, 40, 99, 41, 41, 93]⟩ toksA pathA w HT.out (by decide) lexA (by decide) readA).mono ?_
  rintro e w1 ⟨A1, c1, rfl, hr1, hb1⟩
  go_wp2_with fail
  have B1 := Blk.new w1 #[.slice A1 pathA.length c1] 27
  have hbb := bl1 (o := .cells #[.slice A1 pathA.length c1] 27) (Nat.le_refl w1.heap.size)
  have hr1a := hr1.below hbb
  have hw1 : Below w.heap.size w (w1.alloc (.cells #[.slice A1 pathA.length c1] 27)) := hb1.trans (hbb.mono hb1.size)
  generalize w1.alloc (.cells #[.slice A1 pathA.length c1] 27) = W1 at *
  refine (parsed_any 60 (by omega) ⟨#[100, 101, 115, 99, 101, 110, 100, 97, 110, 116, 58, 58, 97, 91, 98, 93, 91, 99, 93]⟩ toksB pathB W1 (HT.out.below hw1) (by decide) lexB (by decide) readB).mono ?_
  rintro e w2 ⟨A2, c2, rfl, hr2, hb2⟩
  go_upto_region 3 with fail
  have B2 := Blk.new w2 #[.slice A2 pathB.length c2] 27
  have hbb2 := bl1 (o := .cells #[.slice A2 pathB.length c2] 27) (Nat.le_refl w2.heap.size)
  have hb12 : Below W1.heap.size W1 (w2.alloc (.cells #[.slice A2 pathB.length c2] 27)) := hb2.trans (hbb2.mono hb2.size)
  have hr2a := hr2.below hbb2
  have B1a := B1.below hb12
  have hr1b := hr1a.below hb12
  have hw2 := hw1.trans (hb12.mono hw1.size)
  generalize w2.alloc (.cells #[.slice A2 pathB.length c2] 27) = W2 at *
  have p0 := (B1a).cell 0
  simp at p0
  have pf := fun o => (B1a).frozen o
  have hwt : wtP pathA ≤ 100 := of_decide_eq_true (by kernel_rfl)
  have hwt2 : wtP pathB ≤ 100 := of_decide_eq_true (by kernel_rfl)
  have hN := normal_calls 100 (by omega) pathA A1 c1 W2 _ hr1b hwt (HT.out.below hw2).base
  rw [isA, nrmA] at hN
  have HN := Lib.hid hN
  clear hN
  go_wp2_with fail
  refine HN.out.mono ?_
  rintro e w3 ⟨A3, c3, rfl, hr3, hb3⟩
  go_upto_region 4 with fail
  have B3 := Blk.new w3 #[.slice A3 pathB.length c3] 27
  have hbb3 := bl1 (o := .cells #[.slice A3 pathB.length c3] 27) (Nat.le_refl w3.heap.size)
  have hb23 : Below W2.heap.size W2 (w3.alloc (.cells #[.slice A3 pathB.length c3] 27)) := hb3.trans (hbb3.mono hb3.size)
  have hr3a := hr3.below hbb3
  have B2a := B2.below hb23
  have hr2b := hr2a.below hb23
  have hw3 := hw2.trans (hb23.mono hw2.size)
  generalize w3.alloc (.cells #[.slice A3 pathB.length c3] 27) = W3 at *
  clear p0 pf
  have p0 := (B2a).cell 0
  simp at p0
  have pf := fun o => (B2a).frozen o
  have hE := empty_calls 100 (by omega) pathB A2 c2 W3 _ hr2b hwt2 (HT.out.below hw3).base
  rw [isB, emB] at hE
  have HE := Lib.hid hE
  clear hE
  go_wp2_with fail
  refine HE.out.mono ?_
  rintro e w4 ⟨rfl, hb4⟩
  have B2b := B2a.below hb4
  have B3b := B3.below hb4
  have hr2c := hr2b.below hb4
  have hr3b := hr3a.below hb4
  have hw4 := hw3.trans (hb4.mono hw3.size)
  clear p0 pf
  have p0 := (B2b).cell 0
  simp at p0
  have pf := fun o => (B2b).frozen o
  have q0 := (B3b).cell 0
  simp at q0
  have qf := fun o => (B3b).frozen o
  have HS := Lib.hid (same_calls pathB pathB A3 A2 c3 c2 w4 _ _ hr3b hr2c)
  have hsh : shapeE true = 0 := rfl
  rw [hsh]
  clear hsh
  go_wp2_with fail
  refine HS.out.mono ?_
  rintro e w5 ⟨rfl, hb5⟩
  rw [eqP_refl]
  go_wp2_with fail
  go_ret
  exact ⟨rfl, hw4.trans (hb5.mono hw4.size)⟩
end Go.Proofs.YtbbmmeaicilabaaGreatDoor
