/- ask's parser as plain functions: how words are read (with a number that bounds the depth; none: it gives up). Conditions: none. -/
import Derived.Test.YtbbmmeaicilabaaGreatDoorQJa
import Derived.Test.YtbbmmeaicilabaaGreatDoorQGf
set_option linter.unusedVariables false
set_option linter.unusedSimpArgs false
namespace Go.Proofs.YtbbmmeaicilabaaGreatDoor
open Go.RowKit

/-- what a method answers: the value, the words left, the open brackets -/
abbrev Ans (α : Type) : Type := Option (α × List Wd × Int)
def sg (ws : List Wd) (s : ByteArray) : Bool := signB ws 0 s
def pEnter (ne : Int) (s : ByteArray) (ws : List Wd) (op : Int) : Option (List Wd × Int) := if signB ws 0 s && !decide (op = ne) then some (ws.tail, op + 1) else none
def pLeave (s : ByteArray) (ws : List Wd) (op : Int) : Option (List Wd × Int) := if signB ws 0 s then some (ws.tail, op - 1) else none
def pWant (s : ByteArray) (ws : List Wd) : Option (List Wd) := if signB ws 0 s then some ws.tail else none
def pKind (k : Int) (ws : List Wd) : Option (Wd × List Wd) := match ws with | x :: t => if x.kind = k then some (x, t) else none | [] => none
/-- the axis that is written ahead, if one is -/
def pAxis (ws : List Wd) : Option (Int × List Wd) :=
  match ws with
  | x :: t => if decide (x.kind = 0) && signB ws 1 ⟨#[58, 58]⟩ then (match axisF x.text with | some a => some (a, t.tail) | none => none) else some (0, ws)
  | [] => some (0, ws)
/-- the test: kind, name, words left -/
def pTest (ws : List Wd) : Option (Int × ByteArray × List Wd) :=
  if sg ws ⟨#[42]⟩ then some (1, ByteArray.empty, ws.tail)
  else if (nameIs ws ⟨#[116, 101, 120, 116]⟩ || nameIs ws ⟨#[110, 111, 100, 101]⟩) && signB ws 1 ⟨#[40]⟩ then
    (match pWant ⟨#[41]⟩ ws.tail.tail with | some r => some (if nameIs ws ⟨#[110, 111, 100, 101]⟩ then 3 else 2, ByteArray.empty, r) | none => none)
  else match pKind 0 ws with | some (x, r) => some (0, x.text, r) | none => none
/-- the predicates behind a step -/
def pPreds (or : List Wd → Int → Ans Expr) (ne : Int) : Nat → List Wd → Int → List Expr → Ans (List Expr)
  | 0, _, _, _ => none
  | f + 1, ws, op, acc =>
    if sg ws ⟨#[91]⟩ then
      match pEnter ne ⟨#[91]⟩ ws op with
      | none => none
      | some (w1, o1) => match or w1 o1 with
        | none => none
        | some (x, w2, o2) => match pLeave ⟨#[93]⟩ w2 o2 with
          | none => none
          | some (w3, o3) => pPreds or ne f w3 o3 (acc ++ [x])
    else some (acc, ws, op)
def pStep (or : List Wd → Int → Ans Expr) (ne : Int) (f : Nat) (ws : List Wd) (op : Int) : Ans Step :=
  if sg ws ⟨#[46]⟩ then some (.mk 3 3 ByteArray.empty [], ws.tail, op)
  else match pAxis ws with
  | none => none
  | some (a, w1) => match pTest w1 with
    | none => none
    | some (t, nm, w2) => match pPreds or ne f w2 op [] with
      | none => none
      | some (wh, w3, o3) => some (.mk a t nm wh, w3, o3)
/-- steps; where an attribute may stand, its name -/
def pPath (step : List Wd → Int → Ans Step) : Nat → Bool → List Step → List Wd → Int → Ans (List Step × ByteArray)
  | 0, _, _, _, _ => none
  | f + 1, at', acc, ws, op =>
    match step ws op with
    | none => none
    | some (s, w1, o1) =>
      if sg w1 ⟨#[47, 47]⟩ then
        (if at' && sg w1.tail ⟨#[64]⟩ then (match pKind 0 w1.tail.tail with | some (x, r) => some ((acc ++ [s] ++ [.mk 2 3 ByteArray.empty []], x.text), r, o1) | none => none)
        else pPath step f at' (acc ++ [s] ++ [.mk 2 3 ByteArray.empty []]) w1.tail o1)
      else if sg w1 ⟨#[47]⟩ then
        (if at' && sg w1.tail ⟨#[64]⟩ then (match pKind 0 w1.tail.tail with | some (x, r) => some ((acc ++ [s], x.text), r, o1) | none => none)
        else pPath step f at' (acc ++ [s]) w1.tail o1)
      else some ((acc ++ [s], ByteArray.empty), w1, o1)
/-- parts with a name between -/
def pParts (part : List Wd → Int → Ans Expr) (between : ByteArray) : Nat → List Expr → List Wd → Int → Ans (List Expr)
  | 0, _, _, _ => none
  | f + 1, acc, ws, op => match part ws op with
    | none => none
    | some (x, w1, o1) => if nameIs w1 between then pParts part between f (acc ++ [x]) w1.tail o1 else some (acc ++ [x], w1, o1)
def pJoin (op : Int) (l : List Expr) : Expr := match l with | [x] => x | l => .mk op l [] ByteArray.empty 0 ByteArray.empty 0
def pList (part : List Wd → Int → Ans Expr) (between : ByteArray) (code : Int) (f : Nat) (ws : List Wd) (op : Int) : Ans Expr :=
  match pParts part between f [] ws op with | some (l, w1, o1) => some (pJoin code l, w1, o1) | none => none
/-- a path, an attribute, or both -/
def pSome (step : List Wd → Int → Ans Step) (f : Nat) (ws : List Wd) (op : Int) : Ans Expr :=
  if sg ws ⟨#[64]⟩ then (match pKind 0 ws.tail with | some (x, r) => some (.mk 3 [] [.mk 3 3 ByteArray.empty []] x.text 0 ByteArray.empty 0, r, op) | none => none)
  else match pPath step f true [] ws op with | some ((p, a), r, o) => some (.mk 3 [] p a 0 ByteArray.empty 0, r, o) | none => none
def setC (x : Expr) (c : Int) (t : ByteArray) (n : Int) : Expr := .mk x.op x.args x.path x.attr c t n
def pLen (sm : List Wd → Int → Ans Expr) (ne : Int) (ws : List Wd) (op : Int) : Ans Expr :=
  match pEnter ne ⟨#[40]⟩ ws.tail op with
  | none => none
  | some (w1, o1) => match sm w1 o1 with
    | none => none
    | some (x, w2, o2) => match pLeave ⟨#[41]⟩ w2 o2 with
      | none => none
      | some (w3, o3) =>
        match (if sg w3 ⟨#[61]⟩ then some 6 else if sg w3 ⟨#[62]⟩ then some 7 else if sg w3 ⟨#[60]⟩ then some 8 else none) with
        | none => none
        | some c => match pKind 2 w3.tail with | some (y, r) => some (setC x c x.text y.num, r, o3) | none => none
def pAsk (sm : List Wd → Int → Ans Expr) (ne : Int) (c : Int) (ws : List Wd) (op : Int) : Ans Expr :=
  match pEnter ne ⟨#[40]⟩ ws.tail op with
  | none => none
  | some (w1, o1) => match sm w1 o1 with
    | none => none
    | some (x, w2, o2) => match pWant ⟨#[44]⟩ w2 with
      | none => none
      | some w3 => match pKind 1 w3 with
        | none => none
        | some (y, w4) => match pLeave ⟨#[41]⟩ w4 o2 with
          | none => none
          | some (w5, o5) => some (setC x c y.text x.num, w5, o5)
def pBracket (or : List Wd → Int → Ans Expr) (ne : Int) (ws : List Wd) (op : Int) : Ans Expr :=
  match pEnter ne ⟨#[40]⟩ ws op with
  | none => none
  | some (w1, o1) => match or w1 o1 with
    | none => none
    | some (x, w2, o2) => match pLeave ⟨#[41]⟩ w2 o2 with
      | none => none
      | some (w3, o3) => some (x, w3, o3)
def pComp (sm : List Wd → Int → Ans Expr) (ws : List Wd) (op : Int) : Ans Expr :=
  match sm ws op with
  | none => none
  | some (x, w1, o1) =>
    match (if sg w1 ⟨#[61]⟩ then some 1 else if sg w1 ⟨#[33, 61]⟩ then some 2 else none) with
    | none => some (x, w1, o1)
    | some c => match pKind 1 w1.tail with | some (y, r) => some (setC x c y.text x.num, r, o1) | none => none
/-- a part -/
def pOne (or sm : List Wd → Int → Ans Expr) (ne : Int) (ws : List Wd) (op : Int) : Ans Expr :=
  if sg ws ⟨#[40]⟩ then pBracket or ne ws op
  else match ws with
  | [] => pComp sm ws op
  | x :: t =>
    if decide (x.kind = 0) && signB ws 1 ⟨#[40]⟩ then
      (if x.text = ⟨#[110, 111, 116]⟩ then (match pBracket or ne t op with | some (y, r, o) => some (.mk 2 [y] [] ByteArray.empty 0 ByteArray.empty 0, r, o) | none => none)
      else if x.text = ⟨#[115, 116, 114, 105, 110, 103, 45, 108, 101, 110, 103, 116, 104]⟩ then pLen sm ne ws op
      else match calledF x.text with | some c => pAsk sm ne c ws op | none => pComp sm ws op)
    else pComp sm ws op
/-- an expression, nested to the depth that the number bounds; f bounds the loops -/
def pOr (ne : Int) (f : Nat) : Nat → List Wd → Int → Ans Expr
  | 0, _, _ => none
  | n + 1, ws, op => pList (pList (pOne (pOr ne f n) (pSome (pStep (pOr ne f n) ne f) f) ne) ⟨#[97, 110, 100]⟩ 0 f) ⟨#[111, 114]⟩ 1 f ws op
/-- a query -/
def pQuery (ne : Int) (f : Nat) (ws : List Wd) : Option (List Step) :=
  let st := pStep (pOr ne f f) ne f
  let r := if sg ws ⟨#[47, 47]⟩ then pPath st f false [.mk 2 3 ByteArray.empty []] ws.tail 0 else if sg ws ⟨#[47]⟩ then pPath st f false [] ws.tail 0 else pPath st f false [] ws 0
  match r with | some ((p, _), [], _) => some p | _ => none
end Go.Proofs.YtbbmmeaicilabaaGreatDoor

/- ask's parser, plain: no method leaves more words than it was given. Conditions: none. -/
namespace Go.Proofs.YtbbmmeaicilabaaGreatDoor

def Short {α : Type} (g : List Wd → Int → Ans α) : Prop := ∀ ws op x ws' op', g ws op = some (x, ws', op') → ws'.length ≤ ws.length
theorem tail_le (ws : List Wd) : ws.tail.length ≤ ws.length := by cases ws <;> simp
theorem enter_le {ne : Int} {s : ByteArray} {ws w1 : List Wd} {op o1 : Int} (h : pEnter ne s ws op = some (w1, o1)) : w1.length ≤ ws.length := by
  unfold pEnter at h; split at h
  · simp at h; rw [← h.1]; exact tail_le ws
  · cases h
theorem leave_le {s : ByteArray} {ws w1 : List Wd} {op o1 : Int} (h : pLeave s ws op = some (w1, o1)) : w1.length ≤ ws.length := by
  unfold pLeave at h; split at h
  · simp at h; rw [← h.1]; exact tail_le ws
  · cases h
theorem want_le {s : ByteArray} {ws w1 : List Wd} (h : pWant s ws = some w1) : w1.length ≤ ws.length := by
  unfold pWant at h; split at h
  · simp at h; rw [← h]; exact tail_le ws
  · cases h
theorem kind_le {k : Int} {ws w1 : List Wd} {x : Wd} (h : pKind k ws = some (x, w1)) : w1.length ≤ ws.length := by
  unfold pKind at h; split at h
  · split at h
    · simp at h; rw [← h.2]; simp
    · cases h
  · cases h
theorem bracket_le {or : List Wd → Int → Ans Expr} (H : Short or) (ne : Int) : Short (pBracket or ne) := by
  intro ws op x ws' op' h
  unfold pBracket at h
  split at h
  · cases h
  · rename_i w1 o1 h1
    split at h
    · cases h
    · rename_i y w2 o2 h2
      split at h
      · cases h
      · rename_i w3 o3 h3
        have a := enter_le h1; have b := H _ _ _ _ _ h2; have c := leave_le h3
        cases h; omega
theorem parts_le {part : List Wd → Int → Ans Expr} (H : Short part) (b : ByteArray) (f : Nat) : ∀ acc ws op l ws' op', pParts part b f acc ws op = some (l, ws', op') → ws'.length ≤ ws.length := by
  induction f with
  | zero => intro acc ws op l ws' op' h; cases h
  | succ f ih =>
    intro acc ws op l ws' op' h
    rw [pParts] at h
    split at h
    · cases h
    · rename_i x w1 o1 h1
      have a := H _ _ _ _ _ h1
      by_cases hn : nameIs w1 b = true
      · rw [if_pos hn] at h
        have d := ih _ _ _ _ _ _ h; have c := tail_le w1; omega
      · rw [if_neg hn] at h
        cases h; exact a
theorem list_le {part : List Wd → Int → Ans Expr} (H : Short part) (b : ByteArray) (code : Int) (f : Nat) : Short (pList part b code f) := by
  intro ws op x ws' op' h
  unfold pList at h
  split at h
  · rename_i l w1 o1 h1
    have a := parts_le H b f _ _ _ _ _ _ h1
    cases h; exact a
  · cases h
theorem preds_le {or : List Wd → Int → Ans Expr} (H : Short or) (ne : Int) (f : Nat) : ∀ ws op acc l ws' op', pPreds or ne f ws op acc = some (l, ws', op') → ws'.length ≤ ws.length := by
  induction f with
  | zero => intro ws op acc l ws' op' h; cases h
  | succ f ih =>
    intro ws op acc l ws' op' h
    rw [pPreds] at h
    split at h
    · split at h
      · cases h
      · rename_i w1 o1 h1
        split at h
        · cases h
        · rename_i y w2 o2 h2
          split at h
          · cases h
          · rename_i w3 o3 h3
            have a := enter_le h1; have b := H _ _ _ _ _ h2; have c := leave_le h3; have d := ih _ _ _ _ _ _ h
            omega
    · cases h; exact Nat.le_refl _
theorem axis_le {ws w1 : List Wd} {a : Int} (h : pAxis ws = some (a, w1)) : w1.length ≤ ws.length := by
  unfold pAxis at h
  split at h
  · split at h
    · split at h
      · rename_i t _ _ _ _; cases h; have := tail_le t; simp; omega
      · cases h
    · cases h; exact Nat.le_refl _
  · cases h; exact Nat.le_refl _
theorem test_le {ws w1 : List Wd} {a : Int} {nm : ByteArray} (h : pTest ws = some (a, nm, w1)) : w1.length ≤ ws.length := by
  unfold pTest at h
  split at h
  · cases h; exact tail_le ws
  · split at h
    · split at h
      · rename_i r h1; cases h; have a := want_le h1; have b := tail_le ws; have c := tail_le ws.tail; omega
      · cases h
    · split at h
      · rename_i x r h1; cases h; exact kind_le h1
      · cases h
theorem step_le {or : List Wd → Int → Ans Expr} (H : Short or) (ne : Int) (f : Nat) : Short (pStep or ne f) := by
  intro ws op x ws' op' h
  unfold pStep at h
  split at h
  · cases h; exact tail_le ws
  · split at h
    · cases h
    · rename_i a w1 h1
      split at h
      · cases h
      · rename_i t nm w2 h2
        split at h
        · cases h
        · rename_i wh w3 o3 h3
          have a1 := axis_le h1; have a2 := test_le h2; have a3 := preds_le H ne f _ _ _ _ _ _ h3
          cases h; omega
theorem path_le {step : List Wd → Int → Ans Step} (H : Short step) (f : Nat) : ∀ at' acc ws op l ws' op', pPath step f at' acc ws op = some (l, ws', op') → ws'.length ≤ ws.length := by
  induction f with
  | zero => intro at' acc ws op l ws' op' h; cases h
  | succ f ih =>
    intro at' acc ws op l ws' op' h
    rw [pPath] at h
    split at h
    · cases h
    · rename_i s w1 o1 h1
      have a := H _ _ _ _ _ h1
      have t1 := tail_le w1
      have t2 := tail_le w1.tail
      split at h
      · split at h
        · split at h
          · rename_i y r h2; cases h; have b := kind_le h2; omega
          · cases h
        · have b := ih _ _ _ _ _ _ _ h; omega
      · split at h
        · split at h
          · split at h
            · rename_i y r h2; cases h; have b := kind_le h2; omega
            · cases h
          · have b := ih _ _ _ _ _ _ _ h; omega
        · cases h; exact a
theorem some_le {step : List Wd → Int → Ans Step} (H : Short step) (f : Nat) : Short (pSome step f) := by
  intro ws op x ws' op' h
  have t1 := tail_le ws
  unfold pSome at h
  split at h
  · split at h
    · rename_i y r h2; cases h; have b := kind_le h2; omega
    · cases h
  · split at h
    · rename_i p a r o h2; cases h; exact path_le H f _ _ _ _ _ _ _ h2
    · cases h
theorem len_le {sm : List Wd → Int → Ans Expr} (H : Short sm) (ne : Int) : Short (pLen sm ne) := by
  intro ws op x ws' op' h
  have t1 := tail_le ws
  unfold pLen at h
  split at h
  · cases h
  · rename_i w1 o1 h1
    split at h
    · cases h
    · rename_i y w2 o2 h2
      split at h
      · cases h
      · rename_i w3 o3 h3
        have t3 := tail_le w3
        split at h
        · cases h
        · split at h
          · rename_i z r h4; cases h
            have a := enter_le h1; have b := H _ _ _ _ _ h2; have c := leave_le h3; have d := kind_le h4; omega
          · cases h
theorem ask_le {sm : List Wd → Int → Ans Expr} (H : Short sm) (ne c : Int) : Short (pAsk sm ne c) := by
  intro ws op x ws' op' h
  have t1 := tail_le ws
  unfold pAsk at h
  split at h
  · cases h
  · rename_i w1 o1 h1
    split at h
    · cases h
    · rename_i y w2 o2 h2
      split at h
      · cases h
      · rename_i w3 h3
        split at h
        · cases h
        · rename_i z w4 h4
          split at h
          · cases h
          · rename_i w5 o5 h5; cases h
            have a := enter_le h1; have b := H _ _ _ _ _ h2; have c := want_le h3; have d := kind_le h4; have e := leave_le h5; omega
theorem comp_le {sm : List Wd → Int → Ans Expr} (H : Short sm) : Short (pComp sm) := by
  intro ws op x ws' op' h
  unfold pComp at h
  split at h
  · cases h
  · rename_i y w1 o1 h1
    have a := H _ _ _ _ _ h1
    have t1 := tail_le w1
    split at h
    · cases h; exact a
    · split at h
      · rename_i z r h2; cases h; have b := kind_le h2; omega
      · cases h
theorem one_le {or sm : List Wd → Int → Ans Expr} (H : Short or) (H' : Short sm) (ne : Int) : Short (pOne or sm ne) := by
  intro ws op x ws' op' h
  unfold pOne at h
  split at h
  · exact bracket_le H ne _ _ _ _ _ h
  · split at h
    · exact comp_le H' _ _ _ _ _ h
    · rename_i y t _
      split at h
      · split at h
        · split at h
          · rename_i z r o h1; cases h
            have a := bracket_le H ne _ _ _ _ _ h1
            simp; omega
          · cases h
        · split at h
          · exact len_le H' ne _ _ _ _ _ h
          · split at h
            · exact ask_le H' ne _ _ _ _ _ _ h
            · exact comp_le H' _ _ _ _ _ h
      · exact comp_le H' _ _ _ _ _ h
theorem or_le (ne : Int) (f : Nat) : ∀ n, Short (pOr ne f n)
  | 0 => fun ws op x ws' op' h => by cases h
  | n + 1 => fun ws op x ws' op' h => by
    have ih := or_le ne f n
    have h1 := one_le ih (some_le (step_le ih ne f) f) ne
    rw [pOr] at h
    exact list_le (list_le h1 _ _ f) _ _ f _ _ _ _ _ h
end Go.Proofs.YtbbmmeaicilabaaGreatDoor
