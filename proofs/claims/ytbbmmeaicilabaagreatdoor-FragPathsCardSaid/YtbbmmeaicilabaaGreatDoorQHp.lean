/- gimletref02's way to read a character (Span, Bytes, Read) as plain functions; it is the model's own decoding. Conditions: none. -/
import Derived.Test.YtbbmmeaicilabaaGreatDoorQGy
set_option linter.unusedVariables false
set_option linter.unusedSimpArgs false
namespace Go.Proofs.YtbbmmeaicilabaaGreatDoor
open Go.RowKit

def headN (x : Nat) : Nat := if x < 128 then 1 else if 192 ≤ x ∧ x < 224 then 2 else if 224 ≤ x ∧ x < 240 then 3 else if 240 ≤ x ∧ x < 248 then 4 else 0
def headV (x : Nat) : Nat := if x < 128 then x else if 192 ≤ x ∧ x < 224 then x - 192 else if 224 ≤ x ∧ x < 240 then x - 224 else if 240 ≤ x ∧ x < 248 then x - 240 else 0
def headL (x : Nat) : Nat := if x < 128 then 0 else if 192 ≤ x ∧ x < 224 then 128 else if 224 ≤ x ∧ x < 240 then 2048 else if 240 ≤ x ∧ x < 248 then 65536 else 0
def contF : List UInt8 → Nat → Option Nat
  | [], f => some f
  | y :: r, f => if y.toNat < 128 ∨ 191 < y.toNat then none else contF r (f * 64 + (y.toNat - 128))
def loK : Nat → Nat → Nat
  | 0, f => f
  | k + 1, f => loK k f * 64
def hiK : Nat → Nat → Nat
  | 0, f => f
  | k + 1, f => hiK k f * 64 + 63
def spanF (b : UInt8) (t : List UInt8) : Int × Int :=
  if headN b.toNat < t.length + 1 then (1, 0)
  else match contF t (headV b.toNat) with
  | none => (1, 0)
  | some f => (((max (loK (headN b.toNat - (t.length + 1)) f) (headL b.toNat) : Nat) : Int), ((min (hiK (headN b.toNat - (t.length + 1)) f) 1114111 : Nat) : Int))
theorem contF_bound : ∀ (t : List UInt8) (f g : Nat), contF t f = some g → g + 1 ≤ (f + 1) * 64 ^ t.length
  | [], f, g, h => by simp [contF] at h; subst h; simp
  | y :: r, f, g, h => by
    rw [contF] at h
    split at h
    · cases h
    · rename_i hy
      have := contF_bound r _ g h
      rw [List.length_cons, Nat.pow_succ]
      have h2 : (f * 64 + (y.toNat - 128) + 1) * 64 ^ r.length ≤ ((f + 1) * 64) * 64 ^ r.length := Nat.mul_le_mul_right _ (by omega)
      calc g + 1 ≤ _ := this
        _ ≤ _ := h2
        _ = _ := by rw [Nat.mul_assoc, Nat.mul_comm 64]
theorem contF_take (t : List UInt8) (f : Nat) (k : Nat) (hk : k < t.length) (g : Nat) (h : contF (t.take k) f = some g) : contF (t.take (k + 1)) f = if t[k].toNat < 128 ∨ 191 < t[k].toNat then none else some (g * 64 + (t[k].toNat - 128)) := by
  induction t generalizing f k with
  | nil => simp at hk
  | cons y r ih =>
    cases k with
    | zero => simp [contF] at h ⊢; subst h; rfl
    | succ k =>
      rw [List.take_succ_cons, contF] at h ⊢
      split at h
      · cases h
      · rename_i hy
        rw [if_neg hy]
        simpa using ih _ k (by simpa using hk) h
theorem contF_none (t : List UInt8) (f : Nat) (k : Nat) (h : contF (t.take k) f = none) : contF t f = none := by
  induction t generalizing f k with
  | nil => simpa using h
  | cons y r ih =>
    cases k with
    | zero => simp [contF] at h
    | succ k =>
      rw [List.take_succ_cons, contF] at h
      rw [contF]
      split at h
      · rename_i hy; rw [if_pos hy]
      · rename_i hy; rw [if_neg hy]; exact ih _ k h
theorem lohi (k f : Nat) : loK k f ≤ hiK k f ∧ hiK k f + 1 ≤ (f + 1) * 64 ^ k := by
  induction k with
  | zero => simp [loK, hiK]
  | succ k ih =>
    rw [loK, hiK, Nat.pow_succ, ← Nat.mul_assoc]
    generalize (f + 1) * 64 ^ k = q at *
    omega
theorem head_bound (x : Nat) (hx : x < 256) : headN x ≤ 4 ∧ headV x < 128 ∧ headL x ≤ 65536 := by
  unfold headN headV headL
  repeat' split
  all_goals omega
theorem pow64 (k : Nat) (h : k ≤ 3) : 64 ^ k ≤ 262144 := by
  match k, h with
  | 0, _ => decide
  | 1, _ => decide
  | 2, _ => decide
  | 3, _ => decide


/-- the character whose bytes these are, surrogates among them -/
def hitF (l : List UInt8) : Option Nat :=
  match l with
  | [] => none
  | b :: t => if (spanF b t).1 = (spanF b t).2 ∧ bytesF (spanF b t).1.toNat = b :: t then some (spanF b t).1.toNat else none
def readGo (s : ByteArray) (at' : Nat) : Nat → Nat → Nat × Nat
  | 0, _ => (0, 0)
  | k + 1, n => if at' + n ≤ s.size then (match hitF ((s.data.toList.drop at').take n) with | some v => if 55296 ≤ v ∧ v ≤ 57343 then (0, 0) else (v, n) | none => readGo s at' k (n + 1)) else (0, 0)
def readF (s : ByteArray) (at' : Nat) : Nat × Nat := readGo s at' 4 1

theorem head1 {x : Nat} (h : x < 128) : headN x = 1 ∧ headV x = x ∧ headL x = 0 := by unfold headN headV headL; simp [h]
theorem head2 {x : Nat} (h : 192 ≤ x) (h' : x < 224) : headN x = 2 ∧ headV x = x - 192 ∧ headL x = 128 := by
  unfold headN headV headL; rw [if_neg (by omega), if_pos ⟨h, h'⟩, if_neg (by omega), if_pos ⟨h, h'⟩, if_neg (by omega), if_pos ⟨h, h'⟩]; exact ⟨rfl, rfl, rfl⟩
theorem head3 {x : Nat} (h : 224 ≤ x) (h' : x < 240) : headN x = 3 ∧ headV x = x - 224 ∧ headL x = 2048 := by
  unfold headN headV headL; rw [if_neg (by omega), if_neg (by omega), if_pos ⟨h, h'⟩, if_neg (by omega), if_neg (by omega), if_pos ⟨h, h'⟩, if_neg (by omega), if_neg (by omega), if_pos ⟨h, h'⟩]; exact ⟨rfl, rfl, rfl⟩
theorem head4 {x : Nat} (h : 240 ≤ x) (h' : x < 248) : headN x = 4 ∧ headV x = x - 240 ∧ headL x = 65536 := by
  unfold headN headV headL; rw [if_neg (by omega), if_neg (by omega), if_neg (by omega), if_pos ⟨h, h'⟩, if_neg (by omega), if_neg (by omega), if_neg (by omega), if_pos ⟨h, h'⟩, if_neg (by omega), if_neg (by omega), if_neg (by omega), if_pos ⟨h, h'⟩]; exact ⟨rfl, rfl, rfl⟩
theorem head0 {x : Nat} (h : (128 ≤ x ∧ x < 192) ∨ 248 ≤ x) : headN x = 0 := by
  unfold headN; rw [if_neg (by omega), if_neg (by omega), if_neg (by omega), if_neg (by omega)]
theorem u8_eq (n : Nat) (b : UInt8) (h : n = b.toNat) : UInt8.ofNat n = b := by subst h; simp

theorem hit_cons (b : UInt8) (t : List UInt8) : hitF (b :: t) = if (spanF b t).1 = (spanF b t).2 ∧ bytesF (spanF b t).1.toNat = b :: t then some (spanF b t).1.toNat else none := rfl
theorem contF_cons (y : UInt8) (r : List UInt8) (f : Nat) : contF (y :: r) f = if y.toNat < 128 ∨ 191 < y.toNat then none else contF r (f * 64 + (y.toNat - 128)) := rfl
theorem b1 {v : Nat} (h : v < 128) : bytesF v = [UInt8.ofNat v] := by unfold bytesF; rw [if_pos h]
theorem b2 {v : Nat} (h : 128 ≤ v) (h' : v < 2048) : bytesF v = [UInt8.ofNat (192 + v / 64), UInt8.ofNat (128 + v % 64)] := by unfold bytesF; rw [if_neg (by omega), if_pos h']
theorem b3 {v : Nat} (h : 2048 ≤ v) (h' : v < 65536) : bytesF v = [UInt8.ofNat (224 + v / 4096), UInt8.ofNat (128 + v / 64 % 64), UInt8.ofNat (128 + v % 64)] := by unfold bytesF; rw [if_neg (by omega), if_neg (by omega), if_pos h']
theorem b4 {v : Nat} (h : 65536 ≤ v) : bytesF v = [UInt8.ofNat (240 + v / 262144), UInt8.ofNat (128 + v / 4096 % 64), UInt8.ofNat (128 + v / 64 % 64), UInt8.ofNat (128 + v % 64)] := by unfold bytesF; rw [if_neg (by omega), if_neg (by omega), if_neg (by omega)]

theorem hit1 (b : UInt8) : hitF [b] = if (b.toNat < 128 ∧ 0 ≤ b.toNat) then some b.toNat else none := by
  have hb := b.toNat_lt
  by_cases hc : (b.toNat < 128 ∧ 0 ≤ b.toNat)
  · rw [if_pos hc]
    obtain ⟨e1, e2, e3⟩ := head1 hc.1
    have hk : contF [] (headV b.toNat) = some b.toNat := by
      rw [e2]
      rfl
    have hs : spanF b [] = (((b.toNat : Nat) : Int), ((b.toNat : Nat) : Int)) := by
      unfold spanF; rw [hk, e1, e3, if_neg (by simp)]
      show (((max b.toNat 0 : Nat) : Int), ((min b.toNat 1114111 : Nat) : Int)) = _
      rw [Nat.max_eq_left (by omega), Nat.min_eq_left (by omega)]
    rw [hit_cons, hs]
    simp only [Int.toNat_natCast, true_and]
    rw [if_pos (by rw [b1 (by omega), u8_eq _ b (by omega)])]
  · rw [if_neg hc, hit_cons, if_neg]
    rintro ⟨hs, -⟩
    by_cases h1 : b.toNat < 128
    · obtain ⟨e1, e2, e3⟩ := head1 h1
      unfold spanF at hs; rw [e1, e2, e3] at hs
      rw [if_neg (by simp)] at hs
      simp [contF, loK, hiK] at hs; omega
    by_cases c2 : 192 ≤ b.toNat ∧ b.toNat < 224
    · obtain ⟨e1, e2, e3⟩ := head2 c2.1 c2.2
      unfold spanF at hs; rw [e1, e2, e3] at hs
      rw [if_neg (by simp)] at hs
      simp [contF, loK, hiK] at hs; omega
    by_cases c3 : 224 ≤ b.toNat ∧ b.toNat < 240
    · obtain ⟨e1, e2, e3⟩ := head3 c3.1 c3.2
      unfold spanF at hs; rw [e1, e2, e3] at hs
      rw [if_neg (by simp)] at hs
      simp [contF, loK, hiK] at hs; omega
    by_cases c4 : 240 ≤ b.toNat ∧ b.toNat < 248
    · obtain ⟨e1, e2, e3⟩ := head4 c4.1 c4.2
      unfold spanF at hs; rw [e1, e2, e3] at hs
      rw [if_neg (by simp)] at hs
      simp [contF, loK, hiK] at hs; omega
    · have e0 := head0 (x := b.toNat) (by omega)
      unfold spanF at hs; rw [e0, if_pos (by simp)] at hs; simp at hs
theorem hit2 (b c : UInt8) : hitF [b, c] = if (192 ≤ b.toNat ∧ b.toNat < 224 ∧ 128 ≤ c.toNat ∧ c.toNat ≤ 191 ∧ 128 ≤ ((b.toNat - 192) * 64 + (c.toNat - 128))) then some ((b.toNat - 192) * 64 + (c.toNat - 128)) else none := by
  have hb := b.toNat_lt
  have hc := c.toNat_lt
  by_cases hc : (192 ≤ b.toNat ∧ b.toNat < 224 ∧ 128 ≤ c.toNat ∧ c.toNat ≤ 191 ∧ 128 ≤ ((b.toNat - 192) * 64 + (c.toNat - 128)))
  · rw [if_pos hc]
    obtain ⟨e1, e2, e3⟩ := head2 (x := b.toNat) (by omega) (by omega)
    have hk : contF [c] (headV b.toNat) = some ((b.toNat - 192) * 64 + (c.toNat - 128)) := by
      rw [e2]
      rw [contF_cons, if_neg (by omega)]
      rfl
    have hs : spanF b [c] = (((((b.toNat - 192) * 64 + (c.toNat - 128)) : Nat) : Int), ((((b.toNat - 192) * 64 + (c.toNat - 128)) : Nat) : Int)) := by
      unfold spanF; rw [hk, e1, e3, if_neg (by simp)]
      show (((max ((b.toNat - 192) * 64 + (c.toNat - 128)) 128 : Nat) : Int), ((min ((b.toNat - 192) * 64 + (c.toNat - 128)) 1114111 : Nat) : Int)) = _
      rw [Nat.max_eq_left (by omega), Nat.min_eq_left (by omega)]
    rw [hit_cons, hs]
    simp only [Int.toNat_natCast, true_and]
    rw [if_pos (by rw [b2 (by omega) (by omega), u8_eq _ b (by omega), u8_eq _ c (by omega)])]
  · rw [if_neg hc, hit_cons, if_neg]
    rintro ⟨hs, -⟩
    by_cases h1 : b.toNat < 128
    · obtain ⟨e1, e2, e3⟩ := head1 h1
      unfold spanF at hs; rw [e1, e2, e3] at hs
      rw [if_pos (by simp)] at hs; simp at hs
    by_cases c2 : 192 ≤ b.toNat ∧ b.toNat < 224
    · obtain ⟨e1, e2, e3⟩ := head2 c2.1 c2.2
      unfold spanF at hs; rw [e1, e2, e3] at hs
      rw [if_neg (by simp)] at hs
      rw [contF_cons] at hs
      by_cases kc : c.toNat < 128 ∨ 191 < c.toNat
      · rw [if_pos kc] at hs; simp at hs
      rw [if_neg kc] at hs
      simp [contF, loK, hiK] at hs; omega
    by_cases c3 : 224 ≤ b.toNat ∧ b.toNat < 240
    · obtain ⟨e1, e2, e3⟩ := head3 c3.1 c3.2
      unfold spanF at hs; rw [e1, e2, e3] at hs
      rw [if_neg (by simp)] at hs
      rw [contF_cons] at hs
      by_cases kc : c.toNat < 128 ∨ 191 < c.toNat
      · rw [if_pos kc] at hs; simp at hs
      rw [if_neg kc] at hs
      simp [contF, loK, hiK] at hs; omega
    by_cases c4 : 240 ≤ b.toNat ∧ b.toNat < 248
    · obtain ⟨e1, e2, e3⟩ := head4 c4.1 c4.2
      unfold spanF at hs; rw [e1, e2, e3] at hs
      rw [if_neg (by simp)] at hs
      rw [contF_cons] at hs
      by_cases kc : c.toNat < 128 ∨ 191 < c.toNat
      · rw [if_pos kc] at hs; simp at hs
      rw [if_neg kc] at hs
      simp [contF, loK, hiK] at hs; omega
    · have e0 := head0 (x := b.toNat) (by omega)
      unfold spanF at hs; rw [e0, if_pos (by simp)] at hs; simp at hs
theorem hit3 (b c d : UInt8) : hitF [b, c, d] = if (224 ≤ b.toNat ∧ b.toNat < 240 ∧ 128 ≤ c.toNat ∧ c.toNat ≤ 191 ∧ 128 ≤ d.toNat ∧ d.toNat ≤ 191 ∧ 2048 ≤ (((b.toNat - 224) * 64 + (c.toNat - 128)) * 64 + (d.toNat - 128))) then some (((b.toNat - 224) * 64 + (c.toNat - 128)) * 64 + (d.toNat - 128)) else none := by
  have hb := b.toNat_lt
  have hc := c.toNat_lt
  have hd := d.toNat_lt
  by_cases hc : (224 ≤ b.toNat ∧ b.toNat < 240 ∧ 128 ≤ c.toNat ∧ c.toNat ≤ 191 ∧ 128 ≤ d.toNat ∧ d.toNat ≤ 191 ∧ 2048 ≤ (((b.toNat - 224) * 64 + (c.toNat - 128)) * 64 + (d.toNat - 128)))
  · rw [if_pos hc]
    obtain ⟨e1, e2, e3⟩ := head3 (x := b.toNat) (by omega) (by omega)
    have hk : contF [c, d] (headV b.toNat) = some (((b.toNat - 224) * 64 + (c.toNat - 128)) * 64 + (d.toNat - 128)) := by
      rw [e2]
      rw [contF_cons, if_neg (by omega)]
      rw [contF_cons, if_neg (by omega)]
      rfl
    have hs : spanF b [c, d] = ((((((b.toNat - 224) * 64 + (c.toNat - 128)) * 64 + (d.toNat - 128)) : Nat) : Int), (((((b.toNat - 224) * 64 + (c.toNat - 128)) * 64 + (d.toNat - 128)) : Nat) : Int)) := by
      unfold spanF; rw [hk, e1, e3, if_neg (by simp)]
      show (((max (((b.toNat - 224) * 64 + (c.toNat - 128)) * 64 + (d.toNat - 128)) 2048 : Nat) : Int), ((min (((b.toNat - 224) * 64 + (c.toNat - 128)) * 64 + (d.toNat - 128)) 1114111 : Nat) : Int)) = _
      rw [Nat.max_eq_left (by omega), Nat.min_eq_left (by omega)]
    rw [hit_cons, hs]
    simp only [Int.toNat_natCast, true_and]
    rw [if_pos (by rw [b3 (by omega) (by omega), u8_eq _ b (by omega), u8_eq _ c (by omega), u8_eq _ d (by omega)])]
  · rw [if_neg hc, hit_cons, if_neg]
    rintro ⟨hs, -⟩
    by_cases h1 : b.toNat < 128
    · obtain ⟨e1, e2, e3⟩ := head1 h1
      unfold spanF at hs; rw [e1, e2, e3] at hs
      rw [if_pos (by simp)] at hs; simp at hs
    by_cases c2 : 192 ≤ b.toNat ∧ b.toNat < 224
    · obtain ⟨e1, e2, e3⟩ := head2 c2.1 c2.2
      unfold spanF at hs; rw [e1, e2, e3] at hs
      rw [if_pos (by simp)] at hs; simp at hs
    by_cases c3 : 224 ≤ b.toNat ∧ b.toNat < 240
    · obtain ⟨e1, e2, e3⟩ := head3 c3.1 c3.2
      unfold spanF at hs; rw [e1, e2, e3] at hs
      rw [if_neg (by simp)] at hs
      rw [contF_cons] at hs
      by_cases kc : c.toNat < 128 ∨ 191 < c.toNat
      · rw [if_pos kc] at hs; simp at hs
      rw [if_neg kc] at hs
      rw [contF_cons] at hs
      by_cases kd : d.toNat < 128 ∨ 191 < d.toNat
      · rw [if_pos kd] at hs; simp at hs
      rw [if_neg kd] at hs
      simp [contF, loK, hiK] at hs; omega
    by_cases c4 : 240 ≤ b.toNat ∧ b.toNat < 248
    · obtain ⟨e1, e2, e3⟩ := head4 c4.1 c4.2
      unfold spanF at hs; rw [e1, e2, e3] at hs
      rw [if_neg (by simp)] at hs
      rw [contF_cons] at hs
      by_cases kc : c.toNat < 128 ∨ 191 < c.toNat
      · rw [if_pos kc] at hs; simp at hs
      rw [if_neg kc] at hs
      rw [contF_cons] at hs
      by_cases kd : d.toNat < 128 ∨ 191 < d.toNat
      · rw [if_pos kd] at hs; simp at hs
      rw [if_neg kd] at hs
      simp [contF, loK, hiK] at hs; omega
    · have e0 := head0 (x := b.toNat) (by omega)
      unfold spanF at hs; rw [e0, if_pos (by simp)] at hs; simp at hs
theorem hit4 (b c d e : UInt8) : hitF [b, c, d, e] = if (240 ≤ b.toNat ∧ b.toNat < 248 ∧ 128 ≤ c.toNat ∧ c.toNat ≤ 191 ∧ 128 ≤ d.toNat ∧ d.toNat ≤ 191 ∧ 128 ≤ e.toNat ∧ e.toNat ≤ 191 ∧ 65536 ≤ ((((b.toNat - 240) * 64 + (c.toNat - 128)) * 64 + (d.toNat - 128)) * 64 + (e.toNat - 128)) ∧ ((((b.toNat - 240) * 64 + (c.toNat - 128)) * 64 + (d.toNat - 128)) * 64 + (e.toNat - 128)) ≤ 1114111) then some ((((b.toNat - 240) * 64 + (c.toNat - 128)) * 64 + (d.toNat - 128)) * 64 + (e.toNat - 128)) else none := by
  have hb := b.toNat_lt
  have hc := c.toNat_lt
  have hd := d.toNat_lt
  have he := e.toNat_lt
  by_cases hc : (240 ≤ b.toNat ∧ b.toNat < 248 ∧ 128 ≤ c.toNat ∧ c.toNat ≤ 191 ∧ 128 ≤ d.toNat ∧ d.toNat ≤ 191 ∧ 128 ≤ e.toNat ∧ e.toNat ≤ 191 ∧ 65536 ≤ ((((b.toNat - 240) * 64 + (c.toNat - 128)) * 64 + (d.toNat - 128)) * 64 + (e.toNat - 128)) ∧ ((((b.toNat - 240) * 64 + (c.toNat - 128)) * 64 + (d.toNat - 128)) * 64 + (e.toNat - 128)) ≤ 1114111)
  · rw [if_pos hc]
    obtain ⟨e1, e2, e3⟩ := head4 (x := b.toNat) (by omega) (by omega)
    have hk : contF [c, d, e] (headV b.toNat) = some ((((b.toNat - 240) * 64 + (c.toNat - 128)) * 64 + (d.toNat - 128)) * 64 + (e.toNat - 128)) := by
      rw [e2]
      rw [contF_cons, if_neg (by omega)]
      rw [contF_cons, if_neg (by omega)]
      rw [contF_cons, if_neg (by omega)]
      rfl
    have hs : spanF b [c, d, e] = (((((((b.toNat - 240) * 64 + (c.toNat - 128)) * 64 + (d.toNat - 128)) * 64 + (e.toNat - 128)) : Nat) : Int), ((((((b.toNat - 240) * 64 + (c.toNat - 128)) * 64 + (d.toNat - 128)) * 64 + (e.toNat - 128)) : Nat) : Int)) := by
      unfold spanF; rw [hk, e1, e3, if_neg (by simp)]
      show (((max ((((b.toNat - 240) * 64 + (c.toNat - 128)) * 64 + (d.toNat - 128)) * 64 + (e.toNat - 128)) 65536 : Nat) : Int), ((min ((((b.toNat - 240) * 64 + (c.toNat - 128)) * 64 + (d.toNat - 128)) * 64 + (e.toNat - 128)) 1114111 : Nat) : Int)) = _
      rw [Nat.max_eq_left (by omega), Nat.min_eq_left (by omega)]
    rw [hit_cons, hs]
    simp only [Int.toNat_natCast, true_and]
    rw [if_pos (by rw [b4 (by omega), u8_eq _ b (by omega), u8_eq _ c (by omega), u8_eq _ d (by omega), u8_eq _ e (by omega)])]
  · rw [if_neg hc, hit_cons, if_neg]
    rintro ⟨hs, -⟩
    by_cases h1 : b.toNat < 128
    · obtain ⟨e1, e2, e3⟩ := head1 h1
      unfold spanF at hs; rw [e1, e2, e3] at hs
      rw [if_pos (by simp)] at hs; simp at hs
    by_cases c2 : 192 ≤ b.toNat ∧ b.toNat < 224
    · obtain ⟨e1, e2, e3⟩ := head2 c2.1 c2.2
      unfold spanF at hs; rw [e1, e2, e3] at hs
      rw [if_pos (by simp)] at hs; simp at hs
    by_cases c3 : 224 ≤ b.toNat ∧ b.toNat < 240
    · obtain ⟨e1, e2, e3⟩ := head3 c3.1 c3.2
      unfold spanF at hs; rw [e1, e2, e3] at hs
      rw [if_pos (by simp)] at hs; simp at hs
    by_cases c4 : 240 ≤ b.toNat ∧ b.toNat < 248
    · obtain ⟨e1, e2, e3⟩ := head4 c4.1 c4.2
      unfold spanF at hs; rw [e1, e2, e3] at hs
      rw [if_neg (by simp)] at hs
      rw [contF_cons] at hs
      by_cases kc : c.toNat < 128 ∨ 191 < c.toNat
      · rw [if_pos kc] at hs; simp at hs
      rw [if_neg kc] at hs
      rw [contF_cons] at hs
      by_cases kd : d.toNat < 128 ∨ 191 < d.toNat
      · rw [if_pos kd] at hs; simp at hs
      rw [if_neg kd] at hs
      rw [contF_cons] at hs
      by_cases ke : e.toNat < 128 ∨ 191 < e.toNat
      · rw [if_pos ke] at hs; simp at hs
      rw [if_neg ke] at hs
      simp [contF, loK, hiK] at hs; omega
    · have e0 := head0 (x := b.toNat) (by omega)
      unfold spanF at hs; rw [e0, if_pos (by simp)] at hs; simp at hs

def goodD (d : Nat × Nat) : Nat × Nat := if d.1 = 65533 ∧ d.2 = 1 then (0, 0) else d
theorem drop_take_get (l : List UInt8) (i n : Nat) (h : i + n < l.length) : (l.drop i).take (n + 1) = (l.drop i).take n ++ [l.getD (i + n) 0] := by
  rw [List.take_succ_eq_append_getElem (by rw [List.length_drop]; omega)]
  congr 2
  rw [List.getElem_drop, List.getD_eq_getElem?_getD, List.getElem?_eq_getElem h]
  rfl
set_option maxRecDepth 100000 in
set_option maxHeartbeats 4000000 in
theorem read_decode (s : ByteArray) (i : Nat) (hi : i < s.size) : readF s i = goodD (Utf8.decode s i) := by
  have hlen : s.data.toList.length = s.size := by rw [Array.length_toList]; rfl
  have hg : ∀ j, (s.data.toList.getD j 0) = s.get! j := by 
    intro j; rw [List.getD_eq_getElem?_getD, Array.getElem?_toList]; show s.data[j]?.getD 0 = s.data[j]!; rw [getElem!_def]; cases s.data[j]? <;> rfl
  rw [Lib.decode_at]
  have l1 : (s.data.toList.drop i).take 1 = [s.get! i] := by
    have := drop_take_get s.data.toList i 0 (by omega)
    rw [this, hg]; simp
  have l2 : i + 1 < s.size → (s.data.toList.drop i).take 2 = [s.get! i, s.get! (i + 1)] := fun h => by
    have := drop_take_get s.data.toList i 1 (by omega)
    rw [this, hg, l1]; simp
  have l3 : i + 2 < s.size → (s.data.toList.drop i).take 3 = [s.get! i, s.get! (i + 1), s.get! (i + 2)] := fun h => by
    have := drop_take_get s.data.toList i 2 (by omega)
    rw [this, hg, l2 (by omega)]; simp
  have l4 : i + 3 < s.size → (s.data.toList.drop i).take 4 = [s.get! i, s.get! (i + 1), s.get! (i + 2), s.get! (i + 3)] := fun h => by
    have := drop_take_get s.data.toList i 3 (by omega)
    rw [this, hg, l3 (by omega)]; simp
  unfold readF
  rw [readGo, if_pos (by omega), l1, hit1]
  generalize s.get! i = b at *
  generalize s.get! (i + 1) = c at *
  generalize s.get! (i + 2) = d at *
  generalize s.get! (i + 3) = e at *
  have hb := b.toNat_lt
  have hc := c.toNat_lt
  have hd := d.toNat_lt
  have he := e.toNat_lt
  have good : ∀ (v k : Nat), k ≠ 1 → goodD (v, k) = (v, k) := by intro v k hk; unfold goodD; rw [if_neg (by simp only; omega)]
  have bad : goodD (65533, 1) = (0, 0) := rfl
  by_cases h1 : b.toNat < 128
  · rw [if_pos ⟨h1, Nat.zero_le _⟩]
    simp only
    rw [if_neg (by omega)]
    have hD : Lib.decodeN (s.size - i) b.toNat c.toNat d.toNat e.toNat = (b.toNat, 1) := by unfold Lib.decodeN; rw [if_pos h1]
    rw [hD]; unfold goodD; rw [if_neg (by simp only; omega)]
  rw [if_neg (fun h => h1 h.1)]
  simp only
  by_cases s2 : i + 1 < s.size
  · rw [readGo, if_pos (by omega), l2 s2, hit2]
    by_cases c2 : (192 ≤ b.toNat ∧ b.toNat < 224 ∧ 128 ≤ c.toNat ∧ c.toNat ≤ 191 ∧ 128 ≤ ((b.toNat - 192) * 64 + (c.toNat - 128)))
    · rw [if_pos c2]
      simp only
      rw [if_neg (by omega)]
      have hD : Lib.decodeN (s.size - i) b.toNat c.toNat d.toNat e.toNat = (((b.toNat - 192) * 64 + (c.toNat - 128)), 2) := by (unfold Lib.decodeN; (repeat' split) <;> first | (exfalso; omega) | rfl | (apply Prod.ext <;> simp only <;> omega))
      rw [hD, good _ _ (by decide)]
    rw [if_neg c2]
    simp only
    by_cases s3 : i + 2 < s.size
    · rw [readGo, if_pos (by omega), l3 s3, hit3]
      by_cases c3 : (224 ≤ b.toNat ∧ b.toNat < 240 ∧ 128 ≤ c.toNat ∧ c.toNat ≤ 191 ∧ 128 ≤ d.toNat ∧ d.toNat ≤ 191 ∧ 2048 ≤ (((b.toNat - 224) * 64 + (c.toNat - 128)) * 64 + (d.toNat - 128)))
      · rw [if_pos c3]
        simp only
        by_cases hsur : 55296 ≤ (((b.toNat - 224) * 64 + (c.toNat - 128)) * 64 + (d.toNat - 128)) ∧ (((b.toNat - 224) * 64 + (c.toNat - 128)) * 64 + (d.toNat - 128)) ≤ 57343
        · rw [if_pos hsur]
          have hD : Lib.decodeN (s.size - i) b.toNat c.toNat d.toNat e.toNat = (65533, 1) := by (unfold Lib.decodeN; (repeat' split) <;> first | (exfalso; omega) | rfl | (apply Prod.ext <;> simp only <;> omega))
          rw [hD, bad]
        · rw [if_neg hsur]
          have hD : Lib.decodeN (s.size - i) b.toNat c.toNat d.toNat e.toNat = ((((b.toNat - 224) * 64 + (c.toNat - 128)) * 64 + (d.toNat - 128)), 3) := by (unfold Lib.decodeN; (repeat' split) <;> first | (exfalso; omega) | rfl | (apply Prod.ext <;> simp only <;> omega))
          rw [hD, good _ _ (by decide)]
      rw [if_neg c3]
      simp only
      by_cases s4 : i + 3 < s.size
      · rw [readGo, if_pos (by omega), l4 s4, hit4]
        by_cases c4 : (240 ≤ b.toNat ∧ b.toNat < 248 ∧ 128 ≤ c.toNat ∧ c.toNat ≤ 191 ∧ 128 ≤ d.toNat ∧ d.toNat ≤ 191 ∧ 128 ≤ e.toNat ∧ e.toNat ≤ 191 ∧ 65536 ≤ ((((b.toNat - 240) * 64 + (c.toNat - 128)) * 64 + (d.toNat - 128)) * 64 + (e.toNat - 128)) ∧ ((((b.toNat - 240) * 64 + (c.toNat - 128)) * 64 + (d.toNat - 128)) * 64 + (e.toNat - 128)) ≤ 1114111)
        · rw [if_pos c4]
          simp only
          rw [if_neg (by omega)]
          have hD : Lib.decodeN (s.size - i) b.toNat c.toNat d.toNat e.toNat = (((((b.toNat - 240) * 64 + (c.toNat - 128)) * 64 + (d.toNat - 128)) * 64 + (e.toNat - 128)), 4) := by (unfold Lib.decodeN; (repeat' split) <;> first | (exfalso; omega) | rfl | (apply Prod.ext <;> simp only <;> omega))
          rw [hD, good _ _ (by decide)]
        · rw [if_neg c4]
          simp only
          rw [readGo]
          have hD : Lib.decodeN (s.size - i) b.toNat c.toNat d.toNat e.toNat = (65533, 1) := by (unfold Lib.decodeN; (repeat' split) <;> first | (exfalso; omega) | rfl | (apply Prod.ext <;> simp only <;> omega))
          rw [hD, bad]
      · rw [readGo, if_neg (by omega)]
        have hD : Lib.decodeN (s.size - i) b.toNat c.toNat d.toNat e.toNat = (65533, 1) := by (unfold Lib.decodeN; (repeat' split) <;> first | (exfalso; omega) | rfl | (apply Prod.ext <;> simp only <;> omega))
        rw [hD, bad]
    · rw [readGo, if_neg (by omega)]
      have hD : Lib.decodeN (s.size - i) b.toNat c.toNat d.toNat e.toNat = (65533, 1) := by (unfold Lib.decodeN; (repeat' split) <;> first | (exfalso; omega) | rfl | (apply Prod.ext <;> simp only <;> omega))
      rw [hD, bad]
  · rw [readGo, if_neg (by omega)]
    have hD : Lib.decodeN (s.size - i) b.toNat c.toNat d.toNat e.toNat = (65533, 1) := by (unfold Lib.decodeN; (repeat' split) <;> first | (exfalso; omega) | rfl | (apply Prod.ext <;> simp only <;> omega))
    rw [hD, bad]
end Go.Proofs.YtbbmmeaicilabaaGreatDoor
