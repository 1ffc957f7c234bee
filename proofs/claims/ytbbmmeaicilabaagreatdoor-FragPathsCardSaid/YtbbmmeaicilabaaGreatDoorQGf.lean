/- The normal form as a plain function (with a number that bounds the nesting), and that it makes nothing heavier. Conditions: none. -/
import Derived.Test.YtbbmmeaicilabaaGreatDoorQGa
set_option linter.unusedVariables false
set_option linter.unusedSimpArgs false
namespace Go.Proofs.YtbbmmeaicilabaaGreatDoor
def sPoint : Step := .mk 3 3 ByteArray.empty []
def eTrue : Expr := .mk 3 [] [sPoint] ByteArray.empty 0 ByteArray.empty 0
def eFalse : Expr := .mk 2 [eTrue] [] ByteArray.empty 0 ByteArray.empty 0
def memE (l : List Expr) (x : Expr) : Bool := l.any (eqE x)
theorem memE_drop (l : List Expr) (k : Nat) (h : k < l.length) (x : Expr) : memE (l.drop k) x = (eqE x l[k] || memE (l.drop (k + 1)) x) := by
  unfold memE; rw [List.drop_eq_getElem_cons h, List.any_cons]

def nxt (op : Int) (n : Expr) : List Expr := if n.op = op then n.args else [n]
def addE (acc : List Expr) (y : Expr) : List Expr := if memE acc y then acc else acc ++ [y]
def addAll (acc l : List Expr) : List Expr := l.foldl addE acc
def spreadF (f : Expr → Expr) (op : Int) (l : List Expr) : List Expr := l.foldl (fun acc x => addAll acc (nxt op (f x))) []
def leftF (out alone : Expr) (parts : List Expr) : List Expr := if parts.any (fun y => eqE y alone) then [alone] else parts.filter (fun y => !eqE y out)
def turnF (f : Expr → Expr) (op : Int) (out alone : Expr) (l : List Expr) : List Expr := leftF out alone (spreadF f op l)
def andsF (f : Expr → Expr) (l : List Expr) : List Expr := turnF f 0 eTrue eFalse l
def orsF (f : Expr → Expr) (l : List Expr) : List Expr := turnF f 1 eFalse eTrue l
def joinF (op : Int) (parts : List Expr) (none : Expr) : Expr :=
  match parts with
  | [] => none
  | [x] => x
  | x :: y :: r => .mk op (x :: y :: r) [] ByteArray.empty 0 ByteArray.empty 0
def cmpF (x : Expr) : Int := if x.text = ByteArray.empty ∧ (x.cmp = 3 ∨ x.cmp = 4 ∨ x.cmp = 5) then 0 else x.cmp
def notF (n : Expr) : Expr := if n.op = 2 then n.args.headD default else .mk 2 [n] [] ByteArray.empty 0 ByteArray.empty 0
def exprF (f : Expr → Expr) (P : List Step → List Step) (x : Expr) : Expr :=
  if x.op = 0 then joinF 0 (andsF f x.args) eTrue
  else if x.op = 1 then joinF 1 (orsF f x.args) eFalse
  else if x.op = 2 then notF (f (x.args.headD default))
  else .mk x.op x.args (P x.path) x.attr (cmpF x) x.text x.num
theorem exprF_0 (f : Expr → Expr) (P : List Step → List Step) (x : Expr) (h : x.op = 0) : exprF f P x = joinF 0 (andsF f x.args) eTrue := by unfold exprF; rw [if_pos h]
theorem exprF_1 (f : Expr → Expr) (P : List Step → List Step) (x : Expr) (h : x.op = 1) : exprF f P x = joinF 1 (orsF f x.args) eFalse := by unfold exprF; rw [if_neg (by omega), if_pos h]
theorem exprF_2 (f : Expr → Expr) (P : List Step → List Step) (x : Expr) (h : x.op = 2) : exprF f P x = notF (f (x.args.headD default)) := by unfold exprF; rw [if_neg (by omega), if_neg (by omega), if_pos h]
theorem exprF_3 (f : Expr → Expr) (P : List Step → List Step) (x : Expr) (h0 : x.op ≠ 0) (h1 : x.op ≠ 1) (h2 : x.op ≠ 2) : exprF f P x = .mk x.op x.args (P x.path) x.attr (cmpF x) x.text x.num := by unfold exprF; rw [if_neg h0, if_neg h1, if_neg h2]
def bareF (s : Step) (a : Int) : Bool := s.axis == a && s.test == 3 && s.wh.isEmpty
def meetF (s t : Step) : Option (Int × ByteArray) :=
  if t.test = 3 ∨ (s.test = t.test ∧ s.name = t.name) ∨ (s.test = 0 ∧ t.test = 1) then some (s.test, s.name)
  else if s.test = 3 ∨ (s.test = 1 ∧ t.test = 0) then some (t.test, t.name)
  else none
def putF (f : Expr → Expr) (acc : List Step) (s : Step) : List Step :=
  if bareF s 3 then acc
  else match acc.getLast? with
  | none => acc ++ [s]
  | some last =>
    if s.axis = 3 then
      match meetF last s with
      | some (t, nm) => acc.dropLast ++ [.mk last.axis t nm (andsF f (last.wh ++ s.wh))]
      | none => acc ++ [s]
    else if bareF last 2 then acc.dropLast ++ [if s.axis = 0 then .mk 1 s.test s.name s.wh else s]
    else acc ++ [s]
def whF (f : Expr → Expr) (s : Step) : Step := .mk s.axis s.test s.name (andsF f s.wh)
def stepsF (f : Expr → Expr) (p : List Step) : List Step := p.foldl (fun acc s => putF f acc (whF f s)) []
def pathF (f : Expr → Expr) (p : List Step) : List Step := if (stepsF f p).isEmpty then [sPoint] else stepsF f p
def normE : Nat → Expr → Expr
  | 0, x => x
  | n + 1, x => exprF (normE n) (pathF (normE n)) x
def normP (n : Nat) (p : List Step) : List Step := pathF (normE n) p

theorem addE_len (acc : List Expr) (y : Expr) : acc.length ≤ (addE acc y).length := by unfold addE; split <;> simp
theorem addAll_len (acc l : List Expr) : acc.length ≤ (addAll acc l).length := by
  induction l generalizing acc with
  | nil => simp [addAll]
  | cons y r ih => have h1 := addE_len acc y; have h2 := ih (addE acc y); unfold addAll at *; rw [List.foldl_cons]; omega
theorem addAll_take (acc l : List Expr) (m : Nat) (h : m < l.length) : addAll acc (l.take (m + 1)) = addE (addAll acc (l.take m)) l[m] := by
  unfold addAll; rw [← List.take_append_getElem h, List.foldl_append]; rfl
theorem addAll_take_len (acc l : List Expr) (m : Nat) : (addAll acc (l.take m)).length ≤ (addAll acc l).length := by
  have h : addAll acc l = addAll (addAll acc (l.take m)) (l.drop m) := by unfold addAll; rw [← List.foldl_append, List.take_append_drop]
  rw [h]; exact addAll_len _ _
theorem spread_take (f : Expr → Expr) (op : Int) (l : List Expr) (k : Nat) (h : k < l.length) : spreadF f op (l.take (k + 1)) = addAll (spreadF f op (l.take k)) (nxt op (f l[k])) := by
  unfold spreadF; rw [← List.take_append_getElem h, List.foldl_append]; rfl
theorem spread_aux_len (f : Expr → Expr) (op : Int) (l acc : List Expr) : acc.length ≤ (l.foldl (fun acc x => addAll acc (nxt op (f x))) acc).length := by
  induction l generalizing acc with
  | nil => simp
  | cons y r ih => have h1 := addAll_len acc (nxt op (f y)); have h2 := ih (addAll acc (nxt op (f y))); rw [List.foldl_cons]; omega
theorem spread_take_len (f : Expr → Expr) (op : Int) (l : List Expr) (k : Nat) : (spreadF f op (l.take k)).length ≤ (spreadF f op l).length := by
  have h : spreadF f op l = (l.drop k).foldl (fun acc x => addAll acc (nxt op (f x))) (spreadF f op (l.take k)) := by unfold spreadF; rw [← List.foldl_append, List.take_append_drop]
  rw [h]; exact spread_aux_len _ _ _ _

/-! shapes -/
mutual
def shE : Expr → Bool
  | .mk op xs ps _ _ _ _ =>
    if op = 0 ∨ op = 1 then decide (2 ≤ xs.length) && shEs xs && ps.isEmpty
    else if op = 2 then decide (xs.length = 1) && shEs xs && ps.isEmpty
    else decide (op = 3) && xs.isEmpty && decide (1 ≤ ps.length) && shP ps
def shEs : List Expr → Bool | [] => true | x :: r => shE x && shEs r
def shS : Step → Bool | .mk _ _ _ wh => shEs wh
def shP : List Step → Bool | [] => true | x :: r => shS x && shP r
end
theorem shEs_iff (l : List Expr) : shEs l = true ↔ ∀ x ∈ l, shE x = true := by
  induction l with
  | nil => simp [shEs]
  | cons x r ih => simp [shEs, ih]
theorem shP_iff (l : List Step) : shP l = true ↔ ∀ x ∈ l, shS x = true := by
  induction l with
  | nil => simp [shP]
  | cons x r ih => simp [shP, ih]
theorem shE_wt {x : Expr} (h : shE x = true) : 2 ≤ wtE x := by
  obtain ⟨op, xs, ps, a, c, t, n⟩ := x
  simp only [shE] at h
  simp only [wtE]
  split at h
  · simp at h; have := wtEs_len xs; omega
  · split at h
    · simp at h; have := wtEs_len xs; omega
    · simp at h; have := wtP_len ps; omega
theorem wtEs_mem {l : List Expr} {x : Expr} (h : x ∈ l) : wtE x ≤ wtEs l := by
  obtain ⟨k, hk, rfl⟩ := List.getElem_of_mem h
  exact wtEs_get l k hk
theorem wtEs_filter (l : List Expr) (p : Expr → Bool) : wtEs (l.filter p) ≤ wtEs l := by
  induction l with
  | nil => simp
  | cons x r ih => rw [List.filter_cons]; split <;> simp only [wtEs] <;> omega

/-- what f must do: shapes stay, nothing gets heavier -/
def Light (f : Expr → Expr) (x : Expr) : Prop := shE (f x) = true ∧ wtE (f x) ≤ wtE x
theorem nxt_light {op : Int} (ho : op = 0 ∨ op = 1) {n : Expr} (h : shE n = true) : shEs (nxt op n) = true ∧ wtEs (nxt op n) ≤ wtE n := by
  unfold nxt
  split
  · obtain ⟨o, xs, ps, a, c, t, m⟩ := n
    simp only [Expr.op, Expr.args] at *
    subst o
    simp only [shE, ho, if_true] at h
    simp at h
    exact ⟨h.1.2, by simp only [wtE]; omega⟩
  · simp [shEs, wtEs, h]
theorem addAll_light (acc l : List Expr) (h1 : shEs acc = true) (h2 : shEs l = true) : shEs (addAll acc l) = true ∧ wtEs (addAll acc l) ≤ wtEs acc + wtEs l := by
  induction l generalizing acc with
  | nil => simp [addAll, wtEs, h1]
  | cons y r ih =>
    simp only [shEs, Bool.and_eq_true] at h2
    have e : addAll acc (y :: r) = addAll (addE acc y) r := rfl
    rw [e]
    have ha : shEs (addE acc y) = true ∧ wtEs (addE acc y) ≤ wtEs acc + wtE y := by
      unfold addE; split
      · exact ⟨h1, by omega⟩
      · rw [wtEs_append]; refine ⟨?_, by simp [wtEs]⟩
        rw [shEs_iff] at *; intro x hx; rcases List.mem_append.1 hx with hx | hx
        · exact h1 x hx
        · rw [List.mem_singleton.1 hx]; exact h2.1
    have := ih _ ha.1 h2.2
    exact ⟨this.1, by simp only [wtEs]; omega⟩
theorem spread_aux (f : Expr → Expr) {op : Int} (ho : op = 0 ∨ op = 1) (l acc : List Expr) (h1 : shEs acc = true) (hf : ∀ x ∈ l, Light f x) :
    shEs (l.foldl (fun acc x => addAll acc (nxt op (f x))) acc) = true ∧ wtEs (l.foldl (fun acc x => addAll acc (nxt op (f x))) acc) ≤ wtEs acc + wtEs l := by
  induction l generalizing acc with
  | nil => simp [wtEs, h1]
  | cons y r ih =>
    have hy := hf y List.mem_cons_self
    have hn := nxt_light ho hy.1
    have ha := addAll_light acc _ h1 hn.1
    have := ih _ ha.1 (fun x hx => hf x (List.mem_cons_of_mem _ hx))
    refine ⟨this.1, ?_⟩
    have h2 := hy.2
    simp only [List.foldl_cons, wtEs]
    omega
theorem spread_light (f : Expr → Expr) {op : Int} (ho : op = 0 ∨ op = 1) (l : List Expr) (hf : ∀ x ∈ l, Light f x) : shEs (spreadF f op l) = true ∧ wtEs (spreadF f op l) ≤ wtEs l := by
  have := spread_aux f ho l [] (by simp [shEs]) hf
  refine ⟨this.1, ?_⟩
  have h2 := this.2
  simp only [wtEs, Nat.zero_add] at h2
  exact h2
theorem left_light (out alone : Expr) (l : List Expr) (h : shEs l = true) : shEs (leftF out alone l) = true ∧ wtEs (leftF out alone l) ≤ wtEs l := by
  unfold leftF
  split
  · rename_i hh
    obtain ⟨y, hy, he⟩ := List.any_eq_true.1 hh
    obtain rfl := (eqE_iff _ _).1 he
    exact ⟨by simp [shEs, (shEs_iff l).1 h y hy], by have := wtEs_mem hy; simp [wtEs]; omega⟩
  · exact ⟨by rw [shEs_iff] at *; intro x hx; exact h x (List.mem_filter.1 hx).1, wtEs_filter _ _⟩
theorem turn_light (f : Expr → Expr) {op : Int} (ho : op = 0 ∨ op = 1) (out alone : Expr) (l : List Expr) (hf : ∀ x ∈ l, Light f x) : shEs (turnF f op out alone l) = true ∧ wtEs (turnF f op out alone l) ≤ wtEs l := by
  have h1 := spread_light f ho l hf
  have h2 := left_light out alone _ h1.1
  exact ⟨h2.1, by unfold turnF; omega⟩
theorem ands_light (f : Expr → Expr) (l : List Expr) (hf : ∀ x ∈ l, Light f x) : shEs (andsF f l) = true ∧ wtEs (andsF f l) ≤ wtEs l := turn_light f (.inl rfl) _ _ l hf
theorem ors_light (f : Expr → Expr) (l : List Expr) (hf : ∀ x ∈ l, Light f x) : shEs (orsF f l) = true ∧ wtEs (orsF f l) ≤ wtEs l := turn_light f (.inr rfl) _ _ l hf
theorem sh_true : shE eTrue = true ∧ wtE eTrue = 2 := by decide
theorem sh_false : shE eFalse = true ∧ wtE eFalse = 3 := by decide
theorem join_light {op : Int} (ho : op = 0 ∨ op = 1) (parts : List Expr) (none : Expr) (B : Nat) (h : shEs parts = true) (hw : wtEs parts ≤ B) (hn : shE none = true) (hn' : wtE none ≤ 1 + B) : shE (joinF op parts none) = true ∧ wtE (joinF op parts none) ≤ 1 + B := by
  match parts, h, hw with
  | [], _, _ => exact ⟨hn, hn'⟩
  | [x], h, hw => simp only [shEs, wtEs, Bool.and_true] at h hw; exact ⟨h, by simp only [joinF]; omega⟩
  | x :: y :: r, h, hw =>
    simp only [joinF, shE, wtE, ho, if_true]
    exact ⟨by simp [h], by simp [wtP]; omega⟩
theorem meet_light {s t : Step} {x : Int} {nm : ByteArray} (h : meetF s t = some (x, nm)) : nm.size ≤ s.name.size + t.name.size := by
  unfold meetF at h
  split at h
  · simp at h; rw [← h.2]; omega
  · split at h
    · simp at h; rw [← h.2]; omega
    · cases h
theorem shEs_append (a b : List Expr) : shEs (a ++ b) = (shEs a && shEs b) := by
  induction a with
  | nil => simp [shEs]
  | cons x r ih => simp [shEs, ih, Bool.and_assoc]
theorem shP_append (a b : List Step) : shP (a ++ b) = (shP a && shP b) := by
  induction a with
  | nil => simp [shP]
  | cons x r ih => simp [shP, ih, Bool.and_assoc]
theorem put_light (f : Expr → Expr) (acc : List Step) (s : Step) (h : shP acc = true) (hs : shS s = true) (B : Nat) (hB : wtP acc + wtS s ≤ B) (hf : ∀ x, shE x = true → wtE x ≤ B → Light f x) :
    shP (putF f acc s) = true ∧ wtP (putF f acc s) ≤ wtP acc + wtS s := by
  unfold putF
  split
  · exact ⟨h, by omega⟩
  · split
    · rw [wtP_append, shP_append]; simp [shP, wtP, h, hs]
    · rename_i last hl
      have ha : acc = acc.dropLast ++ [last] := by
        have := List.getLast?_eq_some_iff.1 hl; obtain ⟨ys, rfl⟩ := this; simp
      have hwt : wtP acc = wtP acc.dropLast + wtS last := by conv => lhs; rw [ha, wtP_append]; simp [wtP]
      have hsh : shP acc.dropLast = true ∧ shS last = true := by rw [ha, shP_append] at h; simpa [shP] using h
      split
      · split
        · rename_i t nm hm
          have hn := meet_light hm
          rw [wtP_append, shP_append]
          have hl2 : ∀ x ∈ last.wh ++ s.wh, Light f x := by
            intro x hx
            obtain ⟨a1, t1, n1, w1⟩ := last
            obtain ⟨a2, t2, n2, w2⟩ := s
            simp only [Step.wh, shS, wtS] at *
            rcases List.mem_append.1 hx with hx | hx
            · exact hf x ((shEs_iff _).1 hsh.2 x hx) (by have := wtEs_mem hx; omega)
            · exact hf x ((shEs_iff _).1 hs x hx) (by have := wtEs_mem hx; omega)
          have hand := ands_light f _ hl2
          refine ⟨by simp [shP, shS, hsh.1, hand.1], ?_⟩
          have h2 := hand.2
          rw [wtEs_append] at h2
          obtain ⟨a1, t1, n1, w1⟩ := last
          obtain ⟨a2, t2, n2, w2⟩ := s
          simp only [Step.wh, Step.name, wtS, wtP] at *
          omega
        · rw [wtP_append, shP_append]; simp [shP, wtP, h, hs]
      · split
        · rw [wtP_append, shP_append]
          obtain ⟨a2, t2, n2, w2⟩ := s
          have hl1 := wtS_pos last
          split <;> simp [shP, shS, wtP, wtS, hsh.1, Step.wh, Step.name] at * <;> exact ⟨hs, by omega⟩
        · rw [wtP_append, shP_append]; simp [shP, wtP, h, hs]
theorem steps_light (f : Expr → Expr) (p acc : List Step) (B : Nat) (h : shP acc = true) (hp : shP p = true) (hB : wtP acc + wtP p ≤ B) (hf : ∀ x, shE x = true → wtE x ≤ B → Light f x) :
    shP (p.foldl (fun acc s => putF f acc (whF f s)) acc) = true ∧ wtP (p.foldl (fun acc s => putF f acc (whF f s)) acc) ≤ wtP acc + wtP p := by
  induction p generalizing acc with
  | nil => simp [wtP, h]
  | cons s r ih =>
    simp only [shP, Bool.and_eq_true] at hp
    simp only [wtP] at hB
    have hw : shS (whF f s) = true ∧ wtS (whF f s) ≤ wtS s := by
      obtain ⟨a2, t2, n2, w2⟩ := s
      have := ands_light f w2 (fun x hx => hf x ((shEs_iff _).1 hp.1 x hx) (by have := wtEs_mem hx; simp only [wtS] at hB; omega))
      exact ⟨this.1, by simp only [whF, wtS, Step.wh, Step.name]; omega⟩
    have h2 := put_light f acc (whF f s) h hw.1 B (by omega) hf
    have h3 := ih _ h2.1 hp.2 (by omega)
    simp only [List.foldl_cons, wtP]
    exact ⟨h3.1, by omega⟩
theorem path_light (f : Expr → Expr) (p : List Step) (B : Nat) (hp : shP p = true) (h1 : 1 ≤ p.length) (hB : wtP p ≤ B) (hf : ∀ x, shE x = true → wtE x ≤ B → Light f x) :
    shP (pathF f p) = true ∧ wtP (pathF f p) ≤ wtP p ∧ 1 ≤ (pathF f p).length := by
  have h := steps_light f p [] B (by simp [shP]) hp (by simpa [wtP] using hB) hf
  unfold pathF
  split
  · have := wtP_len p
    refine ⟨by decide, ?_, by simp⟩
    have : wtP [sPoint] = 1 := by decide
    omega
  · rename_i hne
    have h2 := h.2
    simp only [wtP, Nat.zero_add] at h2
    refine ⟨h.1, h2, ?_⟩
    cases hh : stepsF f p with
    | nil => simp [hh] at hne
    | cons => simp
theorem norm_light (N : Nat) : ∀ x, shE x = true → wtE x ≤ N → Light (normE N) x := by
  induction N with
  | zero => intro x hx hw; have := wtE_pos x; omega
  | succ n ih =>
    intro x hx hw
    have hx0 := hx
    obtain ⟨op, xs, ps, a, c, t, m⟩ := x
    unfold Light
    rw [show normE (n + 1) = exprF (normE n) (pathF (normE n)) from rfl]
    simp only [wtE] at hw
    simp only [shE] at hx
    have hxs : (op = 0 ∨ op = 1 ∨ op = 2) → ∀ y ∈ xs, Light (normE n) y := by
      intro ho y hy
      refine ih y ?_ (by have := wtEs_mem hy; omega)
      rcases ho with rfl | rfl | rfl <;> simp at hx <;> exact (shEs_iff xs).1 hx.1.2 y hy
    by_cases h0 : op = 0
    · subst h0
      rw [exprF_0 _ _ _ rfl]
      show shE (joinF 0 (andsF (normE n) xs) eTrue) = true ∧ wtE (joinF 0 (andsF (normE n) xs) eTrue) ≤ _
      have h1 := ands_light (normE n) xs (hxs (.inl rfl))
      simp at hx
      have hl := wtEs_len xs
      exact (join_light (.inl rfl) _ _ (wtEs xs) h1.1 h1.2 sh_true.1 (by rw [sh_true.2]; omega)).imp_right (fun h => by simp only [wtE]; omega)
    by_cases h1 : op = 1
    · subst h1
      rw [exprF_1 _ _ _ rfl]
      show shE (joinF 1 (turnF (normE n) 1 eFalse eTrue xs) eFalse) = true ∧ wtE (joinF 1 (turnF (normE n) 1 eFalse eTrue xs) eFalse) ≤ _
      have h1 := turn_light (normE n) (.inr rfl) eFalse eTrue xs (hxs (.inr (.inl rfl)))
      simp at hx
      have hl := wtEs_len xs
      exact (join_light (.inr rfl) _ _ (wtEs xs) h1.1 h1.2 sh_false.1 (by rw [sh_false.2]; omega)).imp_right (fun h => by simp only [wtE]; omega)
    by_cases h2 : op = 2
    · subst h2
      rw [exprF_2 _ _ _ rfl]
      simp at hx
      obtain ⟨⟨hl, hsx⟩, hps⟩ := hx
      obtain ⟨y, rfl⟩ := List.length_eq_one_iff.1 hl
      have hy := hxs (.inr (.inr rfl)) y (by simp)
      simp only [Expr.args, List.headD_cons, wtE, wtEs]
      obtain ⟨hy1, hy2⟩ := hy
      generalize normE n y = z at hy1 hy2
      unfold notF
      by_cases hz : z.op = 2
      · rw [if_pos hz]
        obtain ⟨o2, x2, p2, a2, c2, t2, m2⟩ := z
        simp only [Expr.op] at hz; subst hz
        simp [shE] at hy1
        obtain ⟨⟨hl2, hs2⟩, _⟩ := hy1
        obtain ⟨y2, rfl⟩ := List.length_eq_one_iff.1 hl2
        simp only [Expr.args, List.headD_cons]
        simp only [wtE, wtEs] at hy2
        simp [shEs] at hs2
        exact ⟨hs2, by omega⟩
      · rw [if_neg hz]
        exact ⟨by simp [shE, shEs, hy1], by simp [wtE, wtEs, wtP]; omega⟩
    · rw [exprF_3 _ _ (.mk op xs ps a c t m) h0 h1 h2]
      have h01 : ¬ (op = 0 ∨ op = 1) := by omega
      simp only [h01, h2, if_false] at hx
      simp only [Bool.and_eq_true, decide_eq_true_eq, List.isEmpty_iff] at hx
      obtain ⟨⟨⟨rfl, rfl⟩, hl⟩, hp⟩ := hx
      have := path_light (normE n) ps n hp hl (by omega) (fun x hx hw => ih x hx hw)
      refine ⟨by simp [shE, Expr.op, Expr.args, Expr.path, this.1, this.2.2], by simp only [wtE, wtEs, Expr.attr, Expr.text, Expr.args, Expr.path]; omega⟩
end Go.Proofs.YtbbmmeaicilabaaGreatDoor
