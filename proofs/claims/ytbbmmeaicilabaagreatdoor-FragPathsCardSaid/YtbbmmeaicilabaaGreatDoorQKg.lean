/- lexis, plain: how a text is cut into words; each word has a byte at least. Conditions: none. -/
import Derived.Test.YtbbmmeaicilabaaGreatDoorQKf
import Derived.Test.YtbbmmeaicilabaaGreatDoorQJe
set_option linter.unusedVariables false
set_option linter.unusedSimpArgs false
namespace Go.Proofs.YtbbmmeaicilabaaGreatDoor
open Go.RowKit

theorem inR_mem (l : List (Int × Int)) (r : Int) (h : inR l r = true) : ∃ p ∈ l, p.1 ≤ r ∧ r ≤ p.2 := by
  induction l with
  | nil => cases h
  | cons a t ih =>
    unfold inR at h
    split at h
    · rename_i hr; exact ⟨a, by simp, by simpa using h, hr⟩
    · obtain ⟨p, hp, h1⟩ := ih h; exact ⟨p, by simp [hp], h1⟩
theorem inR_of (l : List (Int × Int)) (hs : l.Pairwise (fun a b => a.2 < b.1)) (r : Int) (p : Int × Int) (hp : p ∈ l) (h1 : p.1 ≤ r) (h2 : r ≤ p.2) : inR l r = true := by
  induction l with
  | nil => cases hp
  | cons a t ih =>
    rw [List.pairwise_cons] at hs
    unfold inR
    rcases List.mem_cons.1 hp with rfl | hp
    · rw [if_pos h2]; simpa using h1
    · have := hs.1 p hp
      rw [if_neg (by omega)]
      exact ih hs.2 hp
theorem start_rest (r : Int) (h : isC 2 r = true) : isC 3 r = true := by
  obtain ⟨p, hp, h1, h2⟩ := inR_mem _ _ h
  have hall : ∀ p ∈ rangesL 2, ∃ q ∈ rangesL 3, q.1 ≤ p.1 ∧ p.2 ≤ q.2 := by decide
  obtain ⟨q, hq, h3, h4⟩ := hall p hp
  exact inR_of _ (by decide) r q hq (by omega) (by omega)
theorem runGo_pos (s : ByteArray) (c : Nat) (h : 0 < s.size) (h1 : isC c (Utf8.decode s 0).1 = true) : 1 ≤ runF s c := by
  have hge : ∀ f pos, pos ≤ s.size → pos ≤ runGo s c f pos := by
    intro f
    induction f with
    | zero => intro pos hp; exact hp
    | succ f ih =>
      intro pos hp
      unfold runGo
      split
      · split
        · rcases Nat.lt_or_ge s.size (pos + (Utf8.decode s pos).2) with hlt | hle
          · have hz : runGo s c f (pos + (Utf8.decode s pos).2) = s.size := by
              cases f with
              | zero => rfl
              | succ f => unfold runGo; rw [if_neg (by omega)]
            rw [hz]; exact hp
          · have := ih _ hle; omega
        · exact Nat.le_refl _
      · exact hp
  unfold runF
  obtain ⟨f, hf⟩ : ∃ f, s.size = f + 1 := ⟨s.size - 1, by omega⟩
  rw [hf]
  unfold runGo
  rw [if_pos h, h1, if_pos rfl]
  have hw := Lib.width_pos s 0
  rcases Nat.lt_or_ge s.size (0 + (Utf8.decode s 0).2) with hlt | hle
  · have hz : runGo s c f (0 + (Utf8.decode s 0).2) = s.size := by
      cases f with
      | zero => rfl
      | succ f => unfold runGo; rw [if_neg (by omega)]
    rw [hz]; omega
  · have := hge f _ hle; omega
theorem runeGo_or (s : ByteArray) (r : Int) : ∀ f pos, runeGo s r f pos = -1 ∨ runeGo s r f pos < s.size
  | 0, _ => .inl rfl
  | f + 1, pos => by
    unfold runeGo
    split
    · split
      · right; omega
      · exact runeGo_or s r f _
    · exact .inl rfl
set_option maxRecDepth 100000 in
theorem sign_le (s : ByteArray) (l : List (List UInt8)) : (signGo s l).size ≤ s.size := by
  induction l with
  | nil => exact Nat.zero_le _
  | cons x r ih =>
    unfold signGo
    split
    · rename_i h
      unfold Lib.hasPrefix at h
      have := (List.isPrefixOf_iff_prefix.1 h).length_le
      show x.toArray.size ≤ s.data.size
      rw [List.size_toArray]
      rw [Array.length_toList] at this
      exact this
    · exact ih
set_option maxRecDepth 100000 in
theorem word_len (s : ByteArray) (x : Int × ByteArray × Int) (c : Int) (h : wordF s = (x, c, true)) : 1 ≤ c ∧ c ≤ s.size := by
  have hsg : ∀ x c, signW s = (x, c, true) → 1 ≤ c ∧ c ≤ (s.size : Int) := by
    intro x c h
    unfold signW at h
    simp only [Prod.mk.injEq] at h
    obtain ⟨-, hc, ht⟩ := h
    have hne : signF s ≠ ⟨#[]⟩ := by simpa using ht
    have hle := sign_le s signsL
    have hpos : 1 ≤ (signF s).size := by
      rcases Nat.eq_zero_or_pos (signF s).size with h0 | h0
      · exact absurd (ByteArray.ext (Array.eq_empty_of_size_eq_zero h0)) hne
      · exact h0
    have : (signF s).size ≤ s.size := hle
    omega
  unfold wordF at h
  split at h
  · rename_i hp
    split at h
    · rename_i h2
      simp only [Prod.mk.injEq] at h
      have h1 := runGo_pos s 3 hp (start_rest _ h2)
      have h3 := runF_le s 3
      omega
    · split at h
      · rename_i h4
        have h1 := runGo_pos s 4 hp h4
        have h3 := runF_le s 4
        unfold digW at h
        repeat' split at h
        all_goals simp only [Prod.mk.injEq] at h
        all_goals first | omega | (exfalso; simp at h)
      · split at h
        · unfold quoW at h
          split at h
          · simp at h
          · rename_i hm
            simp only [Prod.mk.injEq] at h
            have ho := runeGo_or (s.extract 1 s.size) ((Utf8.decode s 0).1 : Int) (s.extract 1 s.size).size 0
            have he : (s.extract 1 s.size).size = s.size - 1 := by simp
            unfold runeAtF at h hm
            rw [he] at h hm ho
            omega
        · exact hsg _ _ h
  · exact hsg _ _ h

def strip (x : Wd) : Wd := ⟨x.kind, x.text, x.num, 0, 0, 0, 0⟩
/-- the words from a byte on -/
def lexGo (s : ByteArray) : Nat → Nat → Option (List Wd)
  | 0, _ => none
  | f + 1, p =>
    if p < s.size then
      match wordF (s.extract p s.size) with
      | ((k, t, n), c, true) =>
        match lexGo s f (p + c.toNat + runF (s.extract (p + c.toNat) s.size) 1) with
        | some r => some (⟨k, t, n, 0, 0, 0, 0⟩ :: r)
        | none => none
      | (_, _, false) => none
    else some []
def lexF (s : ByteArray) : Option (List Wd) := if mendS s = s then lexGo s (s.size + 1) (runF s 1) else none
end Go.Proofs.YtbbmmeaicilabaaGreatDoor
