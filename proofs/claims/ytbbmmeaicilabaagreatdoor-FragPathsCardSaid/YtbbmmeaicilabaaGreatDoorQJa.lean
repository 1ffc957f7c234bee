/- ask's parser: its state in memory; sign, name, take. Conditions: the words lie in memory. -/
import Derived.Test.YtbbmmeaicilabaaGreatDoorQGd
import Derived.Deep.DeepCutAuto
import Derived.Deep.RegionHeld3
set_option linter.unusedVariables false
set_option linter.unusedSimpArgs false
namespace Go.Proofs.YtbbmmeaicilabaaGreatDoor
open Go.RowKit

/-- a word, with its place -/
structure Wd where
  kind : Int
  text : ByteArray
  num : Int
  p0 : Int
  p1 : Int
  p2 : Int
  p3 : Int
def encW (x : Wd) : List Value := [.int .i64 x.kind, .string x.text, .int .i64 x.num, .int .i64 x.p0, .int .i64 x.p1, .int .i64 x.p2, .int .i64 x.p3]
def kW : Knd Wd := kF 7 (by decide) encW (fun _ => rfl) (fun x u hu => by simp [encW] at hu; rcases hu with rfl | rfl | rfl | rfl | rfl | rfl | rfl <;> rfl)
theorem RowK.atW {w : World} {ok : Nat → Prop} {A : Option Addr} {xs : List Wd} (h : RowK kW w ok A xs) (k : Nat) (hk : k < xs.length) :
    ∃ b off, A = some ⟨b, off, none⟩ ∧ b < w.heap.size ∧ w.cell? ⟨b, off + k * 7, none⟩ = some (.int .i64 (xs[k]).kind) ∧ w.cell? ⟨b, off + k * 7 + 1, none⟩ = some (.string (xs[k]).text) ∧ w.cell? ⟨b, off + k * 7 + 2, none⟩ = some (.int .i64 (xs[k]).num) ∧ w.cell? ⟨b, off + k * 7 + 3, none⟩ = some (.int .i64 (xs[k]).p0) ∧ w.cell? ⟨b, off + k * 7 + 4, none⟩ = some (.int .i64 (xs[k]).p1) ∧ w.cell? ⟨b, off + k * 7 + 5, none⟩ = some (.int .i64 (xs[k]).p2) ∧ w.cell? ⟨b, off + k * 7 + 6, none⟩ = some (.int .i64 (xs[k]).p3) := by
  obtain ⟨b, off, cs, rfl, hbw, hK, hcell⟩ := h.at k hk
  obtain rfl : cs = _ := hK
  exact ⟨b, off, rfl, hbw, hcell 0 _ rfl, hcell 1 _ rfl, hcell 2 _ rfl, hcell 3 _ rfl, hcell 4 _ rfl, hcell 5 _ rfl, hcell 6 _ rfl⟩
theorem RowK.tailW {w : World} {ok : Nat → Prop} {b off : Nat} {x : Wd} {xs : List Wd} (h : RowK kW w ok (some ⟨b, off, none⟩) (x :: xs)) : RowK kW w ok (some ⟨b, off + 7, none⟩) xs := by
  obtain ⟨f, hl, hr⟩ := h
  refine ⟨fun j => f (j + 1), ⟨by have := hl.1; simp at this; omega, fun hn => ?_⟩, fun j p hj => hr (j + 1) p (by simpa using hj)⟩
  obtain ⟨b', off', e, ho, hlt, hc⟩ := hl.2 (by simp)
  obtain ⟨rfl, rfl⟩ : b = b' ∧ off = off' := by simpa using e
  refine ⟨b, off + 7, rfl, ho, hlt, fun j hj i u hu => ?_⟩
  have := hc (j + 1) (by simp; omega) i u hu
  have e2 : off + (j + 1) * kW.sz + i = off + 7 + j * kW.sz + i := by show off + (j + 1) * 7 + i = off + 7 + j * 7 + i; omega
  rw [e2] at this; exact this

/-- the parser's state: what words are left -/
structure PS (w : World) (pb : Nat) (ok : Nat → Prop) (ws : List Wd) (A : Option Addr) (c : Nat) (e0 e1 e2 e3 nested opn : Int) : Prop where
  blk : Blk w pb #[.slice A ws.length c, .int .i64 e0, .int .i64 e1, .int .i64 e2, .int .i64 e3, .int .i64 nested, .int .i64 opn] 79
  row : RowK kW w ok A ws
  cap : ws.length ≤ c
  capm : c ≤ 9223372036854775807
  far : ∀ b, ok b → b ≠ pb

/-- is the word number n from here that sign? -/
def signB (ws : List Wd) (n : Nat) (s : ByteArray) : Bool := match ws[n]? with | some x => decide (x.kind = 3) && decide (x.text = s) | none => false
def nameIs (ws : List Wd) (s : ByteArray) : Bool := match ws with | x :: _ => decide (x.kind = 0) && decide (x.text = s) | [] => false

set_option maxHeartbeats 4000000 in
theorem sign_any (n : Nat) (s : ByteArray) (w : World) (pb : Nat) (ok : Nat → Prop) (ws : List Wd) (A : Option Addr) (c : Nat) (e0 e1 e2 e3 ne op : Int) (h : PS w pb ok ws A c e0 e1 e2 e3 ne op) :
    Calls Tryz.prog 69 #[.pointer (some ⟨pb, 0, none⟩), .int .i64 n, .string s] w fun e w' => e = .returned (.bool (signB ws n s)) ∧ w' = w := by
  have hb := h.blk
  have q0 := (hb).cell 0
  have q1 := (hb).cell 1
  have q2 := (hb).cell 2
  have q3 := (hb).cell 3
  have q4 := (hb).cell 4
  have q5 := (hb).cell 5
  have q6 := (hb).cell 6
  simp at q0 q1 q2 q3 q4 q5 q6
  have qf := fun o => (hb).frozen o
  have hlen := h.row.len
  by_cases hn : n < ws.length
  · obtain ⟨b, off, rfl, hbw, x0, x1, -, -, -, -, -⟩ := h.row.atW n hn
    have hs : signB ws n s = (decide (ws[n].kind = 3) && decide (ws[n].text = s)) := by unfold signB; rw [List.getElem?_eq_getElem hn]
    rw [hs]
    generalize ws[n] = x at *
    have hni : decide ((n : Int) < (ws.length : Int)) = true := by rw [decide_eq_true_eq]; omega
    clear hs h
    go_enter Tryz.func69, Tryz.ntmps69
    go_wp2_with fail
    all_goals
      go_ret
      exact ⟨by first | (simp [str_eq, *]; done) | (simp [str_eq, *]; rw [Bool.eq_iff_iff]; simp), rfl⟩
  · have hs : signB ws n s = false := by unfold signB; rw [List.getElem?_eq_none (by omega)]
    rw [hs]
    have hni : decide ((n : Int) < (ws.length : Int)) = false := by rw [decide_eq_false_iff_not]; omega
    clear hs h
    go_enter Tryz.func69, Tryz.ntmps69
    go_wp2_with fail
    go_ret
    exact ⟨rfl, rfl⟩

set_option maxHeartbeats 4000000 in
theorem pname_any (s : ByteArray) (w : World) (pb : Nat) (ok : Nat → Prop) (ws : List Wd) (A : Option Addr) (c : Nat) (e0 e1 e2 e3 ne op : Int) (h : PS w pb ok ws A c e0 e1 e2 e3 ne op) :
    Calls Tryz.prog 119 #[.pointer (some ⟨pb, 0, none⟩), .string s] w fun e w' => e = .returned (.bool (nameIs ws s)) ∧ w' = w := by
  have hb := h.blk
  have q0 := (hb).cell 0
  have q1 := (hb).cell 1
  have q2 := (hb).cell 2
  have q3 := (hb).cell 3
  have q4 := (hb).cell 4
  have q5 := (hb).cell 5
  have q6 := (hb).cell 6
  simp at q0 q1 q2 q3 q4 q5 q6
  have qf := fun o => (hb).frozen o
  have hlen := h.row.len
  cases ws with
  | nil =>
    clear h hb
    go_enter Tryz.func119, Tryz.ntmps119
    go_wp2_with fail
    go_ret
    exact ⟨rfl, rfl⟩
  | cons x t =>
    obtain ⟨b, off, rfl, hbw, x0, x1, -, -, -, -, -⟩ := h.row.atW 0 (by simp)
    simp only [List.getElem_cons_zero, Nat.zero_mul, Nat.add_zero] at x0 x1
    have hs : nameIs (x :: t) s = (decide (x.kind = 0) && decide (x.text = s)) := rfl
    rw [hs]
    have hl1 : (0 : Int) < ((x :: t).length : Nat) := by simp only [List.length_cons]; omega
    generalize hL : (x :: t).length = L at *
    clear hs h hb
    go_enter Tryz.func119, Tryz.ntmps119
    go_wp2_with fail
    all_goals
      go_ret
      exact ⟨by first | (simp [str_eq, *]; done) | (simp [str_eq, *]; rw [Bool.eq_iff_iff]; simp), rfl⟩

set_option maxRecDepth 10000 in
set_option maxHeartbeats 8000000 in
theorem take_any (w : World) (pb : Nat) (ok : Nat → Prop) (x : Wd) (t : List Wd) (A : Option Addr) (c : Nat) (e0 e1 e2 e3 ne op : Int) (h : PS w pb ok (x :: t) A c e0 e1 e2 e3 ne op) (hpw : ∀ b, ok b → b < w.heap.size) :
    Calls Tryz.prog 71 #[.pointer (some ⟨pb, 0, none⟩)] w fun e w' => e = .returned (.agg (encW x).toArray) ∧ Chg (fun b => b = pb) w w' ∧ ∃ A' c', PS w' pb ok t A' c' e0 e1 e2 e3 ne op := by
  have hb := h.blk
  have hp := hb.lt
  have q0 := (hb).cell 0
  have q1 := (hb).cell 1
  have q2 := (hb).cell 2
  have q3 := (hb).cell 3
  have q4 := (hb).cell 4
  have q5 := (hb).cell 5
  have q6 := (hb).cell 6
  simp at q0 q1 q2 q3 q4 q5 q6
  have qf := fun o => (hb).frozen o
  have hlen := h.row.len
  have hcap := h.cap
  have hcapm := h.capm
  obtain ⟨b, off, rfl, hbw, x0, x1, x2, x3, x4, x5, x6⟩ := h.row.atW 0 (by simp)
  simp only [List.getElem_cons_zero, Nat.zero_mul, Nat.add_zero] at x0 x1 x2 x3 x4 x5 x6
  have hpne : pb ≠ w.heap.size := by omega
  have hpne1 : pb ≠ w.heap.size + 1 := by omega
  have hbne : b ≠ w.heap.size := by omega
  have hbne1 : b ≠ w.heap.size + 1 := by omega
  have HH := Lib.hid h
  simp only [List.length_cons] at hcap hlen q0
  clear h hb
  by_cases hc1 : c = 1
  · subst hc1
    obtain rfl : t = [] := List.eq_nil_of_length_eq_zero (by omega)
    go_enter Tryz.func71, Tryz.ntmps71
    go_wp2_with fail
    refine bodyPost_ret (v := .agg (encW x).toArray) ?h1 rfl ⟨rfl, ?h2, some ⟨b, off, none⟩, 0, ?h3⟩
    case h1 => simp [results, Tryz.results71, go_sem, encW]
    case h2 => exact (by repeat' (first | with_reducible exact Chg.refl _ _ | with_reducible assumption | with_reducible refine Chg.al ?_ | with_reducible refine Chg.set ?_ ?_ | with_reducible refine Chg.dr ?_ | with_reducible refine Chg.dn ?_ | with_reducible rfl | omega | (simp; done) | (simp; omega)))
    case h3 =>
      refine ⟨?_, RowK.nil _ _ _, Nat.zero_le _, by omega, HH.out.far⟩
      have h2 := ((HH.out.blk.set 0 (.slice (some ⟨b, off, none⟩) 0 0)).al (.cells (encW x).toArray 109)).al (.cells (encW x).toArray 109)
      simpa [encW] using h2
  · go_enter Tryz.func71, Tryz.ntmps71
    go_wp2_with fail
    refine bodyPost_ret (v := .agg (encW x).toArray) ?h1 rfl ⟨rfl, ?h2, some ⟨b, off + 7, none⟩, c - 1, ?h3⟩
    case h1 => simp [results, Tryz.results71, go_sem, encW]
    case h2 => exact (by repeat' (first | with_reducible exact Chg.refl _ _ | with_reducible assumption | with_reducible refine Chg.al ?_ | with_reducible refine Chg.set ?_ ?_ | with_reducible refine Chg.dr ?_ | with_reducible refine Chg.dn ?_ | with_reducible rfl | omega | (simp; done) | (simp; omega)))
    case h3 =>
      refine ⟨?_, (HH.out.row.tailW).chg (p := fun b => b = pb) (by repeat' (first | with_reducible exact Chg.refl _ _ | with_reducible assumption | with_reducible refine Chg.al ?_ | with_reducible refine Chg.set ?_ ?_ | with_reducible refine Chg.dr ?_ | with_reducible refine Chg.dn ?_ | with_reducible rfl | omega | (simp; done) | (simp; omega))) (fun b hb => HH.out.far b hb), by omega, by omega, HH.out.far⟩
      have h2 := ((HH.out.blk.set 0 (.slice (some ⟨b, off + 7, none⟩) t.length (c - 1))).al (.cells (encW x).toArray 109)).al (.cells (encW x).toArray 109)
      simpa [encW] using h2
end Go.Proofs.YtbbmmeaicilabaaGreatDoor

/- ask's parser: give (the panic), want, wantKind, enter, leave. Conditions: the words lie in memory. -/
namespace Go.Proofs.YtbbmmeaicilabaaGreatDoor
open Go.RowKit

/-- the parser gave up: it panics with a fault that it made -/
def Gave (B : Nat) (e : Ending) : Prop := ∃ g, e = .panicked [{ v := .iface 71 (.pointer (some ⟨g, 0, none⟩)), recovered := false }] ∧ B ≤ g

set_option maxRecDepth 10000 in
set_option maxHeartbeats 8000000 in
theorem give_any (why : Int) (w : World) (pb : Nat) (ok : Nat → Prop) (ws : List Wd) (A : Option Addr) (c : Nat) (e0 e1 e2 e3 ne op : Int) (h : PS w pb ok ws A c e0 e1 e2 e3 ne op) (hpw : ∀ b, ok b → b < w.heap.size) :
    Calls Tryz.prog 73 #[.pointer (some ⟨pb, 0, none⟩), .int .i64 why] w fun e w' => Gave w.heap.size e ∧ Below w.heap.size w w' := by
  have hb := h.blk
  have hp := hb.lt
  have q0 := (hb).cell 0
  have q1 := (hb).cell 1
  have q2 := (hb).cell 2
  have q3 := (hb).cell 3
  have q4 := (hb).cell 4
  have q5 := (hb).cell 5
  have q6 := (hb).cell 6
  simp at q0 q1 q2 q3 q4 q5 q6
  have qf := fun o => (hb).frozen o
  have hlen := h.row.len
  have hpne : pb ≠ w.heap.size := by omega
  cases ws with
  | nil =>
    go_enter Tryz.func73, Tryz.ntmps73
    go_wp2_with fail
    exact ⟨rfl, ⟨w.heap.size + 1, rfl, by omega⟩, (by repeat' (first | with_reducible exact Below.refl _ _ | with_reducible assumption | with_reducible refine Below.alloc ?_ ?_ _ | with_reducible refine Below.setCell ?_ ?_ _ | with_reducible refine Below.drew ?_ | with_reducible refine below_dn ?_ | omega | (simp; done) | (simp; omega)))⟩
  | cons x t =>
    obtain ⟨b, off, rfl, hbw, x0, x1, x2, x3, x4, x5, x6⟩ := h.row.atW 0 (by simp)
    simp only [List.getElem_cons_zero, Nat.zero_mul, Nat.add_zero] at x0 x1 x2 x3 x4 x5 x6
    have hbne : b ≠ w.heap.size := by omega
    have hl1 : (0 : Int) < ((x :: t).length : Nat) := by simp only [List.length_cons]; omega
    generalize hL : (x :: t).length = L at *
    clear h hb
    go_enter Tryz.func73, Tryz.ntmps73
    go_wp2_with fail
    exact ⟨rfl, ⟨w.heap.size + 1, rfl, by omega⟩, (by repeat' (first | with_reducible exact Below.refl _ _ | with_reducible assumption | with_reducible refine Below.alloc ?_ ?_ _ | with_reducible refine Below.setCell ?_ ?_ _ | with_reducible refine Below.drew ?_ | with_reducible refine below_dn ?_ | omega | (simp; done) | (simp; omega)))⟩

theorem signB_cons {ws : List Wd} {s : ByteArray} (h : signB ws 0 s = true) : ∃ x t, ws = x :: t := by
  cases ws with
  | nil => simp [signB] at h
  | cons x t => exact ⟨x, t, rfl⟩
/-- what a method that takes a word that must stand there does -/
def WantP (b : Bool) (pb : Nat) (ok : Nat → Prop) (ws : List Wd) (e0 e1 e2 e3 ne op : Int) (w : World) (e : Ending) (w' : World) : Prop :=
  Chg (fun b => b = pb) w w' ∧ (b = true → e = .returned (.tuple #[]) ∧ ∃ A' c', PS w' pb ok ws.tail A' c' e0 e1 e2 e3 ne op) ∧ (b = false → Gave w.heap.size e)

set_option maxHeartbeats 4000000 in
theorem want_any (s : ByteArray) (w : World) (pb : Nat) (ok : Nat → Prop) (ws : List Wd) (A : Option Addr) (c : Nat) (e0 e1 e2 e3 ne op : Int) (h : PS w pb ok ws A c e0 e1 e2 e3 ne op) (hpw : ∀ b, ok b → b < w.heap.size) :
    Calls Tryz.prog 120 #[.pointer (some ⟨pb, 0, none⟩), .string s] w (WantP (signB ws 0 s) pb ok ws e0 e1 e2 e3 ne op w) := by
  have HH := Lib.hid h
  have HW := Lib.hid hpw
  clear h hpw
  generalize hs : signB ws 0 s = sb
  have HS := Lib.hid hs
  clear hs
  go_enter Tryz.func120, Tryz.ntmps120
  go_wp2_with fail
  refine (sign_any 0 s w pb ok ws A c e0 e1 e2 e3 ne op HH.out).mono ?_
  rintro e w1 ⟨rfl, rfl⟩
  rw [HS.out]
  cases sb
  · go_wp2_with fail
    refine (give_any 105 w1 pb ok ws A c e0 e1 e2 e3 ne op HH.out HW.out).mono ?_
    rintro e w2 ⟨⟨g, rfl, hg⟩, hb2⟩
    exact ⟨rfl, Chg.of_below hb2, (fun h => by cases h), fun _ => ⟨g, rfl, hg⟩⟩
  · obtain ⟨x, t, rfl⟩ := signB_cons HS.out
    go_wp2_with fail
    refine (take_any w1 pb ok x t A c e0 e1 e2 e3 ne op HH.out HW.out).mono ?_
    rintro e w2 ⟨rfl, hch, A', c', hps⟩
    go_wp2_with fail
    exact ⟨rfl, .tuple #[], by simp [results, Tryz.results120, go_sem], hch, fun _ => ⟨rfl, A', c', hps⟩, (fun h => by cases h)⟩

theorem Chg.setN {p : Nat → Prop} {a b : World} {ad : Addr} {u : Value} (hn : a.heap.size ≤ ad.block) (h : Chg p a b) : Chg p a (b.setCell ad u) :=
  ⟨h.os, h.tape, h.output, by rw [World.setCell]; simp; exact h.size, fun i hi hq => (Below.heap_setCell b ad u i (by omega)).trans (h.block i hi hq)⟩
theorem PS.setN {w : World} {pb : Nat} {ok : Nat → Prop} {ws : List Wd} {A : Option Addr} {c : Nat} {e0 e1 e2 e3 ne op : Int} {ad : Addr} {u : Value} (h : PS w pb ok ws A c e0 e1 e2 e3 ne op) (h1 : pb ≠ ad.block) (h2 : ∀ b, ok b → b ≠ ad.block) : PS (w.setCell ad u) pb ok ws A c e0 e1 e2 e3 ne op :=
  ⟨h.blk.far h1 _, h.row.chg (p := fun b => b = ad.block) (Chg.set rfl (Chg.refl _ _)) h2, h.cap, h.capm, h.far⟩
/-- is the next word of that kind? -/
def kindIs (ws : List Wd) (k : Int) : Bool := match ws with | x :: _ => decide (x.kind = k) | [] => false
def WantW (b : Bool) (pb : Nat) (ok : Nat → Prop) (ws : List Wd) (e0 e1 e2 e3 ne op : Int) (w : World) (e : Ending) (w' : World) : Prop :=
  Chg (fun b => b = pb) w w' ∧ (b = true → ∃ x t, ws = x :: t ∧ e = .returned (.agg (encW x).toArray) ∧ ∃ A' c', PS w' pb ok t A' c' e0 e1 e2 e3 ne op) ∧ (b = false → Gave w.heap.size e)

theorem PS.below {w w1 : World} {pb : Nat} {ok : Nat → Prop} {ws : List Wd} {A : Option Addr} {c : Nat} {e0 e1 e2 e3 ne op : Int} (h : PS w pb ok ws A c e0 e1 e2 e3 ne op) (hb : Below w.heap.size w w1) : PS w1 pb ok ws A c e0 e1 e2 e3 ne op :=
  ⟨h.blk.below hb, h.row.below hb, h.cap, h.capm, h.far⟩

set_option maxHeartbeats 8000000 in
theorem wantKind_any (k : Int) (w : World) (pb : Nat) (ok : Nat → Prop) (ws : List Wd) (A : Option Addr) (c : Nat) (e0 e1 e2 e3 ne op : Int) (h : PS w pb ok ws A c e0 e1 e2 e3 ne op) (hpw : ∀ b, ok b → b < w.heap.size) :
    Calls Tryz.prog 97 #[.pointer (some ⟨pb, 0, none⟩), .int .i64 k] w (WantW (kindIs ws k) pb ok ws e0 e1 e2 e3 ne op w) := by
  have hb := h.blk
  have hp := hb.lt
  have q0 := (hb).cell 0
  have q1 := (hb).cell 1
  have q2 := (hb).cell 2
  have q3 := (hb).cell 3
  have q4 := (hb).cell 4
  have q5 := (hb).cell 5
  have q6 := (hb).cell 6
  simp at q0 q1 q2 q3 q4 q5 q6
  have qf := fun o => (hb).frozen o
  have hpne : pb ≠ w.heap.size := by omega
  have HH := Lib.hid (h.below (w1 := w.alloc (.cells #[.int .i64 0, .string ⟨#[]⟩, .int .i64 0, .int .i64 0, .int .i64 0, .int .i64 0, .int .i64 0] 109)) (bl1 (Nat.le_refl _)))
  have HW : Hid (∀ b, ok b → b < (w.alloc (.cells #[.int .i64 0, .string ⟨#[]⟩, .int .i64 0, .int .i64 0, .int .i64 0, .int .i64 0, .int .i64 0] 109)).heap.size) := fun b hb => by have := hpw b hb; simp; omega
  have RB := Blk.new w #[.int .i64 0, .string ⟨#[]⟩, .int .i64 0, .int .i64 0, .int .i64 0, .int .i64 0, .int .i64 0] 109
  cases ws with
  | nil =>
    clear h hb
    go_enter Tryz.func97, Tryz.ntmps97
    go_wp2_with fail
    refine (give_any 105 _ pb ok [] A c e0 e1 e2 e3 ne op HH.out HW.out).mono ?_
    rintro e w2 ⟨⟨g, rfl, hg⟩, hb2⟩
    exact ⟨rfl, Chg.of_below (al1 (Nat.le_refl _) hb2), (fun h => by cases h), fun _ => ⟨g, rfl, by simp at hg; omega⟩⟩
  | cons x t =>
    obtain ⟨b, off, rfl, hbw, x0, -, -, -, -, -, -⟩ := h.row.atW 0 (by simp)
    simp only [List.getElem_cons_zero, Nat.zero_mul, Nat.add_zero] at x0
    have hbne : b ≠ w.heap.size := by omega
    have hl1 : (((x :: t).length : Nat) : Int) ≠ 0 := by simp only [List.length_cons]; omega
    have hl2 : (0 : Int) < ((x :: t).length : Nat) := by simp only [List.length_cons]; omega
    have hki : kindIs (x :: t) k = decide (x.kind = k) := rfl
    rw [hki]
    generalize hL : (x :: t).length = L at *
    have HL := Lib.hid hL
    clear h hb hki hL
    by_cases hk : x.kind = k
    · have hkb : decide (x.kind = k) = true := by simp [hk]
      have hkn : (x.kind != k) = false := by simp [hk]
      rw [hkb]
      clear hkb hk
      go_enter Tryz.func97, Tryz.ntmps97
      go_wp2_with fail
      refine (take_any _ pb ok x t _ c e0 e1 e2 e3 ne op HH.out HW.out).mono ?_
      rintro e w2 ⟨rfl, hch, A', c', hps⟩
      have hch0 : Chg (fun b => b = pb) w w2 := (Chg.of_below (bl1 (Nat.le_refl _))).trans hch
      have RB2 := RB.chg hch (by omega)
      have r0 := (RB2).cell 0
      have r1 := (RB2).cell 1
      have r2 := (RB2).cell 2
      have r3 := (RB2).cell 3
      have r4 := (RB2).cell 4
      have r5 := (RB2).cell 5
      have r6 := (RB2).cell 6
      simp at r0 r1 r2 r3 r4 r5 r6
      have rf := fun o => (RB2).frozen o
      unfold encW
      go_wp2_with fail
      refine bodyPost_ret (v := .agg (encW x).toArray) ?h1 rfl ⟨?h2, fun _ => ⟨x, t, rfl, rfl, A', c', ?h3⟩, (fun h => by cases h)⟩
      case h1 => simp [results, Tryz.results97, go_sem, encW, r0, r1, r2, r3, r4, r5, r6]
      case h2 => repeat' first | with_reducible exact hch0 | with_reducible refine Chg.setN ?_ ?_ | exact Nat.le_refl _
      case h3 => repeat' first | with_reducible exact hps | with_reducible refine PS.setN ?_ ?_ ?_ | exact hpne | exact (fun b hb => Nat.ne_of_lt (hpw b hb))
    · have hkb : decide (x.kind = k) = false := by simp [hk]
      have hkn : (x.kind != k) = true := by simp [hk]
      rw [hkb]
      clear hkb hk
      go_enter Tryz.func97, Tryz.ntmps97
      go_wp2_with fail
      refine (give_any 105 _ pb ok (x :: t) _ c e0 e1 e2 e3 ne op HH.out HW.out).mono ?_
      rintro e w2 ⟨⟨g, rfl, hg⟩, hb2⟩
      exact ⟨rfl, Chg.of_below (al1 (Nat.le_refl _) hb2), (fun h => by cases h), fun _ => ⟨g, rfl, by simp at hg; omega⟩⟩
end Go.Proofs.YtbbmmeaicilabaaGreatDoor

/- ask's parser: enter, leave. Conditions: the words lie in memory. -/
namespace Go.Proofs.YtbbmmeaicilabaaGreatDoor
open Go.RowKit

theorem PS.setOpen {w : World} {pb : Nat} {ok : Nat → Prop} {ws : List Wd} {A : Option Addr} {c : Nat} {e0 e1 e2 e3 ne op : Int} (op' : Int) (h : PS w pb ok ws A c e0 e1 e2 e3 ne op) : PS (w.setCell ⟨pb, 6, none⟩ (.int .i64 op')) pb ok ws A c e0 e1 e2 e3 ne op' := by
  refine ⟨?_, h.row.chg (p := fun b => b = pb) (Chg.set rfl (Chg.refl _ _)) (fun b hb => h.far b hb), h.cap, h.capm, h.far⟩
  have h2 := h.blk.set 6 (.int .i64 op')
  simpa using h2
def StepP (b : Bool) (pb : Nat) (ok : Nat → Prop) (ws : List Wd) (e0 e1 e2 e3 ne op : Int) (w : World) (e : Ending) (w' : World) : Prop :=
  Chg (fun b => b = pb) w w' ∧ (b = true → e = .returned (.tuple #[]) ∧ ∃ A' c', PS w' pb ok ws A' c' e0 e1 e2 e3 ne op) ∧ (b = false → Gave w.heap.size e)

set_option maxHeartbeats 8000000 in
theorem enter_any (s : ByteArray) (w : World) (pb : Nat) (ok : Nat → Prop) (ws : List Wd) (A : Option Addr) (c : Nat) (e0 e1 e2 e3 ne op : Int) (h : PS w pb ok ws A c e0 e1 e2 e3 ne op) (hpw : ∀ b, ok b → b < w.heap.size) (h0 : 0 ≤ op) (h1 : op ≤ 1000) :
    Calls Tryz.prog 121 #[.pointer (some ⟨pb, 0, none⟩), .string s] w (StepP (signB ws 0 s && !decide (op = ne)) pb ok ws.tail e0 e1 e2 e3 ne (op + 1) w) := by
  have hb := h.blk
  have q0 := (hb).cell 0
  have q1 := (hb).cell 1
  have q2 := (hb).cell 2
  have q3 := (hb).cell 3
  have q4 := (hb).cell 4
  have q5 := (hb).cell 5
  have q6 := (hb).cell 6
  simp at q0 q1 q2 q3 q4 q5 q6
  have qf := fun o => (hb).frozen o
  have HH := Lib.hid h
  have HW := Lib.hid hpw
  clear h hb
  generalize hs : signB ws 0 s = sb
  have HS := Lib.hid hs
  clear hs
  have hwr : IntKind.i64.wrap (op + 1) = op + 1 := by simp only [IntKind.wrap, IntKind.bits, IntKind.signed]; simp; omega
  go_enter Tryz.func121, Tryz.ntmps121
  go_wp2_with fail
  refine (sign_any 0 s w pb ok ws A c e0 e1 e2 e3 ne op HH.out).mono ?_
  rintro e w1 ⟨rfl, rfl⟩
  rw [HS.out]
  cases sb
  · go_wp2_with fail
    refine (give_any 105 w1 pb ok ws A c e0 e1 e2 e3 ne op HH.out HW.out).mono ?_
    rintro e w2 ⟨⟨g, rfl, hg⟩, hb2⟩
    exact ⟨rfl, Chg.of_below hb2, (fun h => by cases h), fun _ => ⟨g, rfl, hg⟩⟩
  · obtain ⟨x, t, rfl⟩ := signB_cons HS.out
    have hbd : Below w1.heap.size w1 w1.drew := (Below.refl _ _).drew
    have HD := Lib.hid (HH.out.below hbd)
    by_cases hd : op = ne
    · subst hd
      go_wp2_with fail
      go_region_held3 (fun w' => w'.cell? ⟨pb, 5, none⟩ = some (.int .i64 op) ∧ w'.cell? ⟨pb, 6, none⟩ = some (.int .i64 op)) (exact ⟨q5, q6⟩) (fail)
      go_wp2_with fail
      refine (give_any 102 w1.drew pb ok (x :: t) A c e0 e1 e2 e3 op op HD.out HW.out).mono ?_
      rintro e w2 ⟨⟨g, rfl, hg⟩, hb2⟩
      exact ⟨rfl, Chg.of_below (hbd.trans hb2), (fun h => by simp at h), fun _ => ⟨g, rfl, hg⟩⟩
    · have hdb : (op == ne) = false := by rw [beq_eq_false_iff_ne]; exact hd
      have HDN := Lib.hid hd
      clear hd
      go_wp2_with fail
      go_region_held3 (fun w' => w'.cell? ⟨pb, 5, none⟩ = some (.int .i64 ne) ∧ w'.cell? ⟨pb, 6, none⟩ = some (.int .i64 op)) (exact ⟨q5, q6⟩) (fail)
      go_wp2_with fail
      refine (take_any _ pb ok x t A c e0 e1 e2 e3 ne (op + 1) (HD.out.setOpen (op + 1)) (fun b hb => by have := HW.out b hb; simpa using this)).mono ?_
      rintro e w2 ⟨rfl, hch, A', c', hps⟩
      go_wp2_with fail
      exact ⟨rfl, .tuple #[], by simp [results, Tryz.results121, go_sem], (show Chg (fun b => b = pb) w1 (w1.drew.setCell ⟨pb, 6, none⟩ (.int .i64 (op + 1))) from Chg.set rfl (Chg.of_below hbd)).trans hch, fun _ => ⟨rfl, A', c', hps⟩, (fun h => absurd h (by simp [HDN.out]))⟩

set_option maxHeartbeats 8000000 in
theorem leave_any (s : ByteArray) (w : World) (pb : Nat) (ok : Nat → Prop) (ws : List Wd) (A : Option Addr) (c : Nat) (e0 e1 e2 e3 ne op : Int) (h : PS w pb ok ws A c e0 e1 e2 e3 ne op) (hpw : ∀ b, ok b → b < w.heap.size) (h0 : 0 ≤ op) (h1 : op ≤ 1001) :
    Calls Tryz.prog 123 #[.pointer (some ⟨pb, 0, none⟩), .string s] w (StepP (signB ws 0 s) pb ok ws.tail e0 e1 e2 e3 ne (op - 1) w) := by
  have hwr : IntKind.i64.wrap (op - 1) = op - 1 := by simp only [IntKind.wrap, IntKind.bits, IntKind.signed]; simp; omega
  generalize hs : signB ws 0 s = sb
  have HH := Lib.hid h
  have HW := Lib.hid hpw
  have HS := Lib.hid hs
  clear h hpw hs
  go_enter Tryz.func123, Tryz.ntmps123
  go_wp2_with fail
  refine (want_any s w pb ok ws A c e0 e1 e2 e3 ne op HH.out HW.out).mono ?_
  rintro e w1 ⟨hch, ht, hf⟩
  rw [HS.out] at ht hf
  cases sb
  · obtain ⟨g, rfl, hg⟩ := hf rfl
    exact ⟨rfl, hch, (fun h => by cases h), fun _ => ⟨g, rfl, hg⟩⟩
  · obtain ⟨rfl, A', c', hps⟩ := ht rfl
    have hb := hps.blk
    have q0 := (hb).cell 0
    have q1 := (hb).cell 1
    have q2 := (hb).cell 2
    have q3 := (hb).cell 3
    have q4 := (hb).cell 4
    have q5 := (hb).cell 5
    have q6 := (hb).cell 6
    simp at q0 q1 q2 q3 q4 q5 q6
    have qf := fun o => (hb).frozen o
    go_wp2_with fail
    exact ⟨rfl, .tuple #[], by simp [results, Tryz.results123, go_sem], Chg.set rfl hch, fun _ => ⟨rfl, A', c', hps.setOpen (op - 1)⟩, (fun h => by cases h)⟩
end Go.Proofs.YtbbmmeaicilabaaGreatDoor

/- ask's parser: axisNamed, called, below. Conditions: none. -/
namespace Go.Proofs.YtbbmmeaicilabaaGreatDoor
open Go.RowKit

def axisF (s : ByteArray) : Option Int :=
  if s = ⟨#[99, 104, 105, 108, 100]⟩ then some 0 else if s = ⟨#[100, 101, 115, 99, 101, 110, 100, 97, 110, 116]⟩ then some 1 else if s = ⟨#[100, 101, 115, 99, 101, 110, 100, 97, 110, 116, 45, 111, 114, 45, 115, 101, 108, 102]⟩ then some 2 else if s = ⟨#[115, 101, 108, 102]⟩ then some 3 else none
def calledF (s : ByteArray) : Option Int :=
  if s = ⟨#[115, 116, 97, 114, 116, 115, 45, 119, 105, 116, 104]⟩ then some 3 else if s = ⟨#[101, 110, 100, 115, 45, 119, 105, 116, 104]⟩ then some 4 else if s = ⟨#[99, 111, 110, 116, 97, 105, 110, 115]⟩ then some 5 else none
def optRes (o : Option Int) : Ending := match o with | some a => .returned (.tuple #[.int .i64 a, .bool true]) | none => .returned (.tuple #[.int .i64 0, .bool false])

set_option maxHeartbeats 4000000 in
theorem axisNamed_any (s : ByteArray) (w : World) : Calls Tryz.prog 118 #[.string s] w fun e w' => e = optRes (axisF s) ∧ w' = w := by
  go_enter Tryz.func118, Tryz.ntmps118
  go_wp2_with fail
  all_goals
    go_ret2
    exact ⟨by simp_all [axisF, optRes, str_eq], rfl⟩
set_option maxHeartbeats 4000000 in
theorem called_any (s : ByteArray) (w : World) : Calls Tryz.prog 160 #[.string s] w fun e w' => e = optRes (calledF s) ∧ w' = w := by
  go_enter Tryz.func160, Tryz.ntmps160
  go_wp2_with fail
  all_goals
    go_ret2
    exact ⟨by simp_all [calledF, optRes, str_eq], rfl⟩
set_option maxHeartbeats 400000 in
theorem below_any (w : World) : Calls Tryz.prog 70 #[] w fun e w' => ∃ cs, e = .returned (.agg cs.toArray) ∧ RS w' (fun k => w.heap.size ≤ k) (.mk 2 3 ByteArray.empty []) cs ∧ Below w.heap.size w w' := by
  go_enter Tryz.func70, Tryz.ntmps70
  go_wp2_with fail
  exact bodyPost_ret (v := .agg #[.int .i64 2, .int .i64 3, .string ⟨#[]⟩, .slice none 0 0]) (by simp [results, Tryz.results70, go_sem]) rfl ⟨[.int .i64 2, .int .i64 3, .string ⟨#[]⟩, .slice none 0 0], rfl, RS.of_rows (x := .mk 2 3 ByteArray.empty []) (RowK.nil _ _ _), bl1 (Nat.le_refl _)⟩
end Go.Proofs.YtbbmmeaicilabaaGreatDoor
