/- ask's parser, plain: the places of the words don't count. Conditions: none. -/
import Derived.Test.YtbbmmeaicilabaaGreatDoorQKg
set_option linter.unusedVariables false
set_option linter.unusedSimpArgs false
namespace Go.Proofs.YtbbmmeaicilabaaGreatDoor

def mp {α : Type} (a : Ans α) : Ans α := match a with | some (x, ws, op) => some (x, ws.map strip, op) | none => none
/-- it reads alike whatever the places -/
def Alike {α : Type} (g : List Wd → Int → Ans α) : Prop := ∀ ws op, g (ws.map strip) op = mp (g ws op)
theorem al_sign (ws : List Wd) (n : Nat) (s : ByteArray) : signB (ws.map strip) n s = signB ws n s := by
  unfold signB; rw [List.getElem?_map]; cases ws[n]? <;> rfl
theorem al_sg (ws : List Wd) (s : ByteArray) : sg (ws.map strip) s = sg ws s := al_sign ws 0 s
theorem al_name (ws : List Wd) (s : ByteArray) : nameIs (ws.map strip) s = nameIs ws s := by cases ws <;> rfl
theorem al_tail (ws : List Wd) : (ws.map strip).tail = ws.tail.map strip := by cases ws <;> rfl
def mp2 (a : Option (List Wd × Int)) : Option (List Wd × Int) := match a with | some (ws, op) => some (ws.map strip, op) | none => none
theorem al_enter (ne : Int) (s : ByteArray) (ws : List Wd) (op : Int) : pEnter ne s (ws.map strip) op = mp2 (pEnter ne s ws op) := by
  unfold pEnter; rw [al_sign, al_tail]; split <;> rfl
theorem al_leave (s : ByteArray) (ws : List Wd) (op : Int) : pLeave s (ws.map strip) op = mp2 (pLeave s ws op) := by
  unfold pLeave; rw [al_sign, al_tail]; split <;> rfl
theorem al_want (s : ByteArray) (ws : List Wd) : pWant s (ws.map strip) = (match pWant s ws with | some r => some (r.map strip) | none => none) := by
  unfold pWant; rw [al_sign, al_tail]; split <;> rfl
theorem al_kind (k : Int) (ws : List Wd) : pKind k (ws.map strip) = (match pKind k ws with | some (x, r) => some (strip x, r.map strip) | none => none) := by
  cases ws with
  | nil => rfl
  | cons x t =>
    simp only [List.map_cons, pKind, strip]
    split <;> rfl
theorem al_axis (ws : List Wd) : pAxis (ws.map strip) = (match pAxis ws with | some (a, r) => some (a, r.map strip) | none => none) := by
  cases ws with
  | nil => rfl
  | cons x t =>
    have h := al_sign (x :: t) 1 ⟨#[58, 58]⟩
    simp only [List.map_cons] at h
    simp only [List.map_cons, pAxis, h, show (strip x).kind = x.kind from rfl, show (strip x).text = x.text from rfl]
    split
    · cases axisF x.text with
      | none => rfl
      | some a => simp only [al_tail]
    · rfl
theorem al_test (ws : List Wd) : pTest (ws.map strip) = (match pTest ws with | some (a, nm, r) => some (a, nm, r.map strip) | none => none) := by
  unfold pTest
  rw [al_sg, al_name, al_name, al_sign, al_tail, al_tail, al_want, al_kind]
  split
  · rfl
  · split
    · cases pWant ⟨#[41]⟩ ws.tail.tail <;> rfl
    · cases pKind 0 ws <;> rfl
theorem al_preds {or : List Wd → Int → Ans Expr} (H : Alike or) (ne : Int) (f : Nat) : ∀ ws op acc, pPreds or ne f (ws.map strip) op acc = mp (pPreds or ne f ws op acc) := by
  induction f with
  | zero => intro ws op acc; rfl
  | succ f ih =>
    intro ws op acc
    rw [pPreds, pPreds, al_sg, al_enter]
    split
    · cases pEnter ne ⟨#[91]⟩ ws op with
      | none => rfl
      | some a =>
        obtain ⟨w1, o1⟩ := a
        simp only [mp2, H w1 o1]
        cases or w1 o1 with
        | none => rfl
        | some b =>
          obtain ⟨x, w2, o2⟩ := b
          simp only [mp, al_leave]
          cases pLeave ⟨#[93]⟩ w2 o2 with
          | none => rfl
          | some c =>
            obtain ⟨w3, o3⟩ := c
            simp only [mp2, ih]
            rfl
    · rfl
theorem al_step {or : List Wd → Int → Ans Expr} (H : Alike or) (ne : Int) (f : Nat) : Alike (pStep or ne f) := by
  intro ws op
  unfold pStep
  rw [al_sg, al_axis, al_tail]
  split
  · rfl
  · cases pAxis ws with
    | none => rfl
    | some a =>
      obtain ⟨a, w1⟩ := a
      simp only [al_test]
      cases pTest w1 with
      | none => rfl
      | some b =>
        obtain ⟨t, nm, w2⟩ := b
        simp only [al_preds H]
        cases pPreds or ne f w2 op [] with
        | none => rfl
        | some c => rfl
theorem al_path {st : List Wd → Int → Ans Step} (H : Alike st) (f : Nat) : ∀ at' acc ws op, pPath st f at' acc (ws.map strip) op = mp (pPath st f at' acc ws op) := by
  induction f with
  | zero => intro at' acc ws op; rfl
  | succ f ih =>
    intro at' acc ws op
    rw [pPath, pPath, H ws op]
    cases st ws op with
    | none => rfl
    | some a =>
      obtain ⟨s, w1, o1⟩ := a
      simp only [mp, al_sg, al_tail, al_kind, ih]
      split
      · split
        · cases pKind 0 w1.tail.tail <;> rfl
        · rfl
      · split
        · split
          · cases pKind 0 w1.tail.tail <;> rfl
          · rfl
        · rfl
theorem al_parts {part : List Wd → Int → Ans Expr} (H : Alike part) (b : ByteArray) (f : Nat) : ∀ acc ws op, pParts part b f acc (ws.map strip) op = mp (pParts part b f acc ws op) := by
  induction f with
  | zero => intro acc ws op; rfl
  | succ f ih =>
    intro acc ws op
    rw [pParts, pParts, H ws op]
    cases part ws op with
    | none => rfl
    | some a =>
      obtain ⟨s, w1, o1⟩ := a
      simp only [mp, al_name, al_tail, ih]
      split <;> rfl
theorem al_list {part : List Wd → Int → Ans Expr} (H : Alike part) (b : ByteArray) (code : Int) (f : Nat) : Alike (pList part b code f) := by
  intro ws op
  unfold pList
  rw [al_parts H]
  cases pParts part b f [] ws op <;> rfl
theorem al_some {st : List Wd → Int → Ans Step} (H : Alike st) (f : Nat) : Alike (pSome st f) := by
  intro ws op
  unfold pSome
  rw [al_sg, al_tail, al_kind, al_path H]
  split
  · cases pKind 0 ws.tail <;> rfl
  · cases pPath st f true [] ws op with
    | none => rfl
    | some a => rfl
theorem al_bracket {or : List Wd → Int → Ans Expr} (H : Alike or) (ne : Int) : Alike (pBracket or ne) := by
  intro ws op
  unfold pBracket
  rw [al_enter]
  cases pEnter ne ⟨#[40]⟩ ws op with
  | none => rfl
  | some a =>
    obtain ⟨w1, o1⟩ := a
    simp only [mp2, H w1 o1]
    cases or w1 o1 with
    | none => rfl
    | some b =>
      obtain ⟨x, w2, o2⟩ := b
      simp only [mp, al_leave]
      cases pLeave ⟨#[41]⟩ w2 o2 <;> rfl
theorem al_len {sm : List Wd → Int → Ans Expr} (H : Alike sm) (ne : Int) : Alike (pLen sm ne) := by
  intro ws op
  unfold pLen
  rw [al_tail, al_enter]
  cases pEnter ne ⟨#[40]⟩ ws.tail op with
  | none => rfl
  | some a =>
    obtain ⟨w1, o1⟩ := a
    simp only [mp2, H w1 o1]
    cases sm w1 o1 with
    | none => rfl
    | some b =>
      obtain ⟨x, w2, o2⟩ := b
      simp only [mp, al_leave]
      cases pLeave ⟨#[41]⟩ w2 o2 with
      | none => rfl
      | some c =>
        obtain ⟨w3, o3⟩ := c
        simp only [mp2, al_sg, al_tail, al_kind]
        generalize (if sg w3 ⟨#[61]⟩ then some 6 else if sg w3 ⟨#[62]⟩ then some 7 else if sg w3 ⟨#[60]⟩ then some 8 else none : Option Int) = q
        cases q with
        | none => rfl
        | some q => cases pKind 2 w3.tail <;> rfl
theorem al_ask {sm : List Wd → Int → Ans Expr} (H : Alike sm) (ne c : Int) : Alike (pAsk sm ne c) := by
  intro ws op
  unfold pAsk
  rw [al_tail, al_enter]
  cases pEnter ne ⟨#[40]⟩ ws.tail op with
  | none => rfl
  | some a =>
    obtain ⟨w1, o1⟩ := a
    simp only [mp2, H w1 o1]
    cases sm w1 o1 with
    | none => rfl
    | some b =>
      obtain ⟨x, w2, o2⟩ := b
      simp only [mp, al_want]
      cases pWant ⟨#[44]⟩ w2 with
      | none => rfl
      | some w3 =>
        simp only [al_kind]
        cases pKind 1 w3 with
        | none => rfl
        | some d =>
          obtain ⟨y, w4⟩ := d
          simp only [al_leave]
          cases pLeave ⟨#[41]⟩ w4 o2 <;> rfl
theorem al_comp {sm : List Wd → Int → Ans Expr} (H : Alike sm) : Alike (pComp sm) := by
  intro ws op
  unfold pComp
  rw [H ws op]
  cases sm ws op with
  | none => rfl
  | some a =>
    obtain ⟨x, w1, o1⟩ := a
    simp only [mp, al_sg, al_tail, al_kind]
    generalize (if sg w1 ⟨#[61]⟩ then some 1 else if sg w1 ⟨#[33, 61]⟩ then some 2 else none : Option Int) = q
    cases q with
    | none => rfl
    | some q => cases pKind 1 w1.tail <;> rfl
theorem al_one {or sm : List Wd → Int → Ans Expr} (H : Alike or) (H' : Alike sm) (ne : Int) : Alike (pOne or sm ne) := by
  intro ws op
  cases ws with
  | nil => exact al_comp H' [] op
  | cons x t =>
    have h1 := al_sg (x :: t) ⟨#[40]⟩
    have h2 := al_sign (x :: t) 1 ⟨#[40]⟩
    have h3 := al_bracket H ne (x :: t) op
    have h4 := al_comp H' (x :: t) op
    have h5 := al_len H' ne (x :: t) op
    have h6 := fun c => al_ask H' ne c (x :: t) op
    have h7 := al_bracket H ne t op
    simp only [List.map_cons] at h1 h2 h3 h4 h5 h6
    simp only [List.map_cons, pOne, h1, h2, h3, h4, h5, h6, h7, show (strip x).kind = x.kind from rfl, show (strip x).text = x.text from rfl]
    split
    · rfl
    · split
      · split
        · cases pBracket or ne t op <;> rfl
        · split
          · rfl
          · cases calledF x.text <;> rfl
      · rfl
theorem al_or (ne : Int) (f : Nat) : ∀ n, Alike (pOr ne f n)
  | 0 => fun _ _ => rfl
  | n + 1 => by
    have ih := al_or ne f n
    exact al_list (al_list (al_one ih (al_some (al_step ih ne f) f) ne) _ _ f) _ _ f
def qE (a : Ans (List Step × ByteArray)) : Option (List Step) := match a with | some ((p, _), [], _) => some p | _ => none
theorem qE_mp (a : Ans (List Step × ByteArray)) : qE (mp a) = qE a := by
  cases a with
  | none => rfl
  | some b =>
    obtain ⟨⟨p, q⟩, w, o⟩ := b
    cases w <;> rfl
theorem al_query (ne : Int) (f : Nat) (ws : List Wd) : pQuery ne f (ws.map strip) = pQuery ne f ws := by
  have hst := al_step (al_or ne f f) ne f
  have hq : ∀ ws, pQuery ne f ws = qE (if sg ws ⟨#[47, 47]⟩ then pPath (pStep (pOr ne f f) ne f) f false [.mk 2 3 ByteArray.empty []] ws.tail 0 else if sg ws ⟨#[47]⟩ then pPath (pStep (pOr ne f f) ne f) f false [] ws.tail 0 else pPath (pStep (pOr ne f f) ne f) f false [] ws 0) := fun _ => rfl
  rw [hq, hq]
  simp only [al_sg, al_tail, al_path hst]
  by_cases h1 : sg ws ⟨#[47, 47]⟩ = true
  · rw [if_pos h1, if_pos h1]; exact qE_mp _
  · rw [if_neg h1, if_neg h1]
    by_cases h2 : sg ws ⟨#[47]⟩ = true
    · rw [if_pos h2, if_pos h2]; exact qE_mp _
    · rw [if_neg h2, if_neg h2]; exact qE_mp _
end Go.Proofs.YtbbmmeaicilabaaGreatDoor
