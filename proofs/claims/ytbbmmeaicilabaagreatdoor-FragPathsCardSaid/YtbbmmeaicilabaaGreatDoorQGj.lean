/- append(v, row...) of a whole row of items onto a row of one's own. Conditions: none. -/
import Derived.Test.YtbbmmeaicilabaaGreatDoorQGa
set_option linter.unusedVariables false
set_option linter.unusedSimpArgs false
namespace Go.Proofs.YtbbmmeaicilabaaGreatDoor
open Go.RowKit

theorem flat_facts (sz : Nat) (f : Nat → List Value) (m : Nat) (hf : ∀ j, j < m → (f j).length = sz) :
    ((List.range m).flatMap f).length = m * sz ∧ (∀ j, j < m → (((List.range m).flatMap f).drop (j * sz)).take sz = f j) := by
  induction m with
  | zero => simp
  | succ m ih =>
    have ih := ih (fun j hj => hf j (by omega))
    have hm := hf m (by omega)
    have e : (List.range (m + 1)).flatMap f = (List.range m).flatMap f ++ f m := by rw [List.range_succ, List.flatMap_append]; simp
    rw [e]
    refine ⟨by rw [List.length_append, ih.1, hm, Nat.succ_mul], fun j hj => ?_⟩
    rcases Nat.lt_or_ge j m with h | h
    · have hle : j * sz + sz ≤ ((List.range m).flatMap f).length := by rw [ih.1, ← Nat.succ_mul]; exact Nat.mul_le_mul_right _ h
      rw [List.drop_append_of_le_length (by omega), List.take_append_of_le_length (by rw [List.length_drop]; omega)]
      exact ih.2 j h
    · obtain rfl : j = m := by omega
      rw [← ih.1, List.drop_left, ← hm, List.take_length]
theorem flat_get (sz : Nat) (hs : 0 < sz) (f : Nat → List Value) (m : Nat) (hf : ∀ j, j < m → (f j).length = sz) (q : Nat) (u : Value) (h : ((List.range m).flatMap f)[q]? = some u) :
    q / sz < m ∧ (f (q / sz))[q % sz]? = some u := by
  have hF := flat_facts sz f m hf
  have hq : q < m * sz := by rw [← hF.1]; exact (List.getElem?_eq_some_iff.1 h).1
  have hj : q / sz < m := (Nat.div_lt_iff_lt_mul hs).2 hq
  refine ⟨hj, ?_⟩
  rw [← hF.2 _ hj, List.getElem?_take, if_pos (Nat.mod_lt _ hs), List.getElem?_drop]
  rw [Nat.mul_comm, Nat.div_add_mod]; exact h

theorem run_append_owned_zero {P : Program} {w : World} (base : Nat) (t ty e : TypeId) (i : TypeInfo) (size : Nat) (ht : P.underlying t = some (.slice e)) (hi : P.info? e = some i)
    (v : Value) (n : Nat) (xs : List Value) (hown : w.ownsRow base e size v n xs) (c : Nat) :
    (Builtin.append_ #[t, t] ty #[v, .slice none 0 c]).run P w = .ok v w := by
  rcases hown.2 with ⟨rfl, rfl⟩ | ⟨g, cap, cur, rfl, _, _, hnc, _⟩
  · simp [Builtin.append_, run_underlying ht, sizeOf, typeInfo, hi, Builtin.lenOf, Builtin.firstCells]
  · simp [Builtin.append_, run_underlying ht, sizeOf, typeInfo, hi, Builtin.lenOf, Builtin.firstCells, hnc, storeCells]

theorem run_append_rowK {P : Program} {α : Type} (d : Knd α) {W : World} (base : Nat) (ok oky : Nat → Prop) (t ty e : TypeId) (z : Value) (bytes : Nat)
    (ht : P.underlying t = some (.slice e)) (hinfo : (P.info? e).map (fun i => (i.zero, i.size, i.bytes)) = some (some z, d.sz, bytes)) (hz : z.cells.size = d.sz) (hb0 : 0 < bytes)
    (v : Value) (xs ys : List α) (A : Option Addr) (c : Nat) (HO : OwnK d e W base ok v xs) (hy : RowK d W oky A ys) (hoky : ∀ k, oky k → k < W.heap.size → ok k ∧ some k ≠ v.ownBlock) (hfr : ∀ k, W.heap.size ≤ k → ok k)
    (hbase : base ≤ W.heap.size) (hl : (xs.length + ys.length) * bytes ≤ 140737488355328) :
    ∃ v' w', (Builtin.append_ #[t, t] ty #[v, .slice A ys.length c]).run P W = .ok v' w' ∧ OwnK d e w' base ok v' (xs ++ ys) ∧ W.grownBy w' v.ownBlock ∧ (v'.ownBlock = v.ownBlock ∨ ∃ b, v'.ownBlock = some b ∧ W.heap.size ≤ b) := by
  obtain ⟨i0, hi, hzz⟩ := Option.map_eq_some_iff.1 hinfo
  simp only [Prod.mk.injEq] at hzz
  obtain ⟨hz0, hz1, hz2⟩ := hzz
  have hlen : xs.length + ys.length ≤ 140737488355328 := Nat.le_trans (Nat.le_mul_of_pos_right _ hb0) hl
  have hgr : W.grownBy W v.ownBlock := ⟨rfl, rfl, rfl, Nat.le_refl _, fun _ _ _ => rfl⟩
  match A with
  | none =>
    have hy0 : ys = [] := by
      rcases Nat.eq_zero_or_pos ys.length with h | h
      · exact List.eq_nil_of_length_eq_zero h
      · obtain ⟨f, hlay, _⟩ := hy
        obtain ⟨b, off, e, _⟩ := hlay.2 h
        cases e
    subst hy0
    obtain ⟨h0, cs, hown, hr⟩ := HO
    exact ⟨v, W, run_append_owned_zero base t ty e i0 d.sz ht hi v xs.length cs hown c, by rw [List.append_nil]; exact ⟨h0, cs, hown, hr⟩, hgr, .inl rfl⟩
  | some ad =>
    obtain ⟨h0, cs, hown, hr⟩ := HO
    obtain ⟨f, hlay, hK⟩ := hy
    have hfl : ∀ j, j < ys.length → (f j).length = d.sz := fun j hj => d.len (hK j ys[j] (by simp [hj]))
    have hF := flat_facts d.sz f ys.length hfl
    have hnews : ∀ q u, ((List.range ys.length).flatMap f)[q]? = some u → W.cell? (ad.add q) = some u := by
      intro q u hu
      obtain ⟨hj, hg⟩ := flat_get d.sz d.pos f ys.length hfl q u hu
      obtain ⟨b, off, he, _, _, hc⟩ := hlay.2 (Nat.lt_of_le_of_lt (Nat.zero_le _) hj)
      have := (hc _ hj _ u hg).1
      have e1 : off + q / d.sz * d.sz + q % d.sz = off + q := by rw [Nat.add_assoc, Nat.mul_comm, Nat.div_add_mod]
      rw [e1] at this
      obtain rfl := Option.some.inj he
      have e2 : (Addr.add ⟨b, off, none⟩ q) = (⟨b, off + q, none⟩ : Addr) := by unfold Addr.add; split <;> simp_all
      rw [e2]; exact this
    have h1 : ∀ u ∈ (List.range ys.length).flatMap f, u.oneCell' = true := by
      intro u hu
      obtain ⟨j, hj, hu⟩ := List.mem_flatMap.1 hu
      have hj := List.mem_range.1 hj
      exact d.one (hK j ys[j] (by simp [hj])) u hu
    obtain ⟨v', w', hrun, hown', hg, _, hat⟩ := run_append_own_at (P := P) (w := W) base t ty e i0 z d.sz bytes ht hi hz0 hz1 hz2 hz d.pos v xs.length cs hown ad ys.length c _ hF.1 hnews h1 (by simp only [maxLen]; omega) hl hbase
    refine ⟨v', w', hrun, ?_, hg, ?_⟩
    · have hm : ∀ k, (ok k ∧ some k ≠ v.ownBlock) → k < W.heap.size → w'.heap[k]? = W.heap[k]? := fun k hk hlt => hg.block k hlt hk.2
      have hst : ∀ k, (ok k ∧ some k ≠ v.ownBlock) ∧ k < W.heap.size → ok k ∧ some k ≠ v'.ownBlock := by
        intro k hk
        refine ⟨hk.1.1, ?_⟩
        rcases hat with hat | hat
        · rw [hat]; exact hk.1.2
        · rw [hat]; intro e; have := Option.some.inj e; omega
      refine ⟨fun k hk => ?_, _, by rw [List.length_append]; exact hown', fun j q hj => ?_⟩
      · rcases hat with hat | hat
        · exact h0 k (by rw [← hat]; exact hk)
        · rw [hat] at hk; have := Option.some.inj hk; exact hfr k (by omega)
      · have hcl := hown.1
        rcases Nat.lt_or_ge j xs.length with h | h
        · rw [List.getElem?_append_left h] at hj
          have hle : j * d.sz + d.sz ≤ cs.length := by rw [hcl, ← Nat.succ_mul]; exact Nat.mul_le_mul_right _ h
          rw [List.drop_append_of_le_length (by omega), List.take_append_of_le_length (by rw [List.length_drop]; omega)]
          exact d.mono hst (d.move hg.size hm (hr j q hj))
        · rw [List.getElem?_append_right h] at hj
          have hj2 : j - xs.length < ys.length := (List.getElem?_eq_some_iff.1 hj).1
          have e1 : j * d.sz = cs.length + (j - xs.length) * d.sz := by rw [hcl, ← Nat.add_mul]; congr 1; omega
          rw [e1, ← List.drop_drop, List.drop_left, hF.2 _ hj2]
          have hq := hK _ q hj
          have hq2 := d.move (w1 := W) (Nat.le_refl _) (fun _ _ _ => rfl) hq
          exact d.mono hst (d.move hg.size (fun k hk hlt => hm k (hoky k hk.1 hk.2) hlt) hq2 |> d.mono (fun k hk => ⟨hoky k hk.1.1 hk.1.2, hk.2⟩))
    · rcases hat with hat | hat
      · exact .inl hat
      · exact .inr ⟨_, hat, Nat.le_refl _⟩

section
variable {P : Program} {α : Type}
/-- in a region that draws its order: the step -/
theorem step_append_rowK (d : Knd α) {ops : Array Oper} {o : Oper} {a : Act} {K : Act → World → Prop} {Q : Exit → Act → World → Prop} {E : Prop} {W : World} (base : Nat) (ok oky : Nat → Prop) (hgd : o.guard = none) (s x : Operand) (t e : TypeId) (z : Value) (bytes : Nat)
    (ho : o.op = .call { callee := .builtin .append, args := #[s, x], argTypes := #[t, t] })
    (ht : P.underlying t = some (.slice e)) (hinfo : (P.info? e).map (fun i => (i.zero, i.size, i.bytes)) = some (some z, d.sz, bytes)) (hz : z.cells.size = d.sz) (hb0 : 0 < bytes)
    (v : Value) (xs ys : List α) (A : Option Addr) (c : Nat) (hs : a.eval s = v) (hx : a.eval x = .slice A ys.length c) (HO : OwnK d e W base ok v xs) (hy : RowK d W oky A ys) (hoky : ∀ k, oky k → k < W.heap.size → ok k ∧ some k ≠ v.ownBlock) (hfr : ∀ k, W.heap.size ≤ k → ok k)
    (hbase : base ≤ W.heap.size) (hl : (xs.length + ys.length) * bytes ≤ 140737488355328)
    (h : ∀ v1 w1, OwnK d e w1 base ok v1 (xs ++ ys) → W.grownBy w1 v.ownBlock → (v1.ownBlock = v.ownBlock ∨ ∃ b, v1.ownBlock = some b ∧ W.heap.size ≤ b) → K (a.put o.dst v1) w1) :
    if Region.wanted o (yielded ops a.tmps) = true then Oper.wp P o a W K Q else E := by
  have hw : Region.wanted o (yielded ops a.tmps) = true := by simp [Region.wanted, hgd]
  rw [if_pos hw]
  obtain ⟨v', w', hr, h2, h3, h4⟩ := run_append_rowK (P := P) d base ok oky t o.type e z bytes ht hinfo hz hb0 v xs ys A c HO hy hoky hfr hbase hl
  unfold Oper.wp execOp
  simp only [ho, resolve, invoke, builtin, Sem.run_bind, Sem.run_pure, Result.andThen_ok, List.map_toArray, List.map_cons, List.map_nil, hs, hx, hr]
  exact h v' w' h2 h3 h4
theorem append_rowK (d : Knd α) {ops : Array Oper} {rest : List Oper} {o : Oper} {a : Act} {Q : Exit → Act → World → Prop} {W : World} (base : Nat) (ok oky : Nat → Prop) (hgd : o.guard = none) (s x : Operand) (t e : TypeId) (z : Value) (bytes : Nat)
    (ho : o.op = .call { callee := .builtin .append, args := #[s, x], argTypes := #[t, t] })
    (ht : P.underlying t = some (.slice e)) (hinfo : (P.info? e).map (fun i => (i.zero, i.size, i.bytes)) = some (some z, d.sz, bytes)) (hz : z.cells.size = d.sz) (hb0 : 0 < bytes)
    (v : Value) (xs ys : List α) (A : Option Addr) (c : Nat) (hs : a.eval s = v) (hx : a.eval x = .slice A ys.length c) (HO : OwnK d e W base ok v xs) (hy : RowK d W oky A ys) (hoky : ∀ k, oky k → k < W.heap.size → ok k ∧ some k ≠ v.ownBlock) (hfr : ∀ k, W.heap.size ≤ k → ok k)
    (hbase : base ≤ W.heap.size) (hl : (xs.length + ys.length) * bytes ≤ 140737488355328)
    (h : ∀ v1 w1, OwnK d e w1 base ok v1 (xs ++ ys) → W.grownBy w1 v.ownBlock → (v1.ownBlock = v.ownBlock ∨ ∃ b, v1.ownBlock = some b ∧ W.heap.size ≤ b) → wpList P ops Q rest (a.put o.dst v1) w1) :
    wpList P ops Q (o :: rest) a W := by
  refine wpList_plain hgd fun K hK => ?_
  obtain ⟨v', w', hr, h2, h3, h4⟩ := run_append_rowK (P := P) d base ok oky t o.type e z bytes ht hinfo hz hb0 v xs ys A c HO hy hoky hfr hbase hl
  unfold Oper.wp execOp
  simp only [ho, resolve, invoke, builtin, Sem.run_bind, Sem.run_pure, Result.andThen_ok, List.map_toArray, List.map_cons, List.map_nil, hs, hx, hr]
  exact hK _ _ (h v' w' h2 h3 h4)
end

/-! ### the last item of a row of one's own, while it is written over -/
section
variable {α : Type}
def OwnH (d : Knd α) (e : TypeId) (w : World) (base : Nat) (ok : Nat → Prop) (g cap : Nat) (xs : List α) (L : List Value) : Prop :=
  ok g ∧ L.length = d.sz ∧ ∃ cs, w.ownsRow base e d.sz (.slice (some ⟨g, 0, none⟩) (xs.length + 1) cap) (xs.length + 1) cs ∧ (∀ j p, xs[j]? = some p → d.K w (fun k => ok k ∧ k ≠ g) p ((cs.drop (j * d.sz)).take d.sz)) ∧ cs.drop (xs.length * d.sz) = L
variable {d : Knd α} {e : TypeId} {w w1 : World} {base : Nat} {ok : Nat → Prop} {g cap : Nat} {xs : List α} {L : List Value}
theorem OwnK.toH {v : Value} {x : α} (h : OwnK d e w base ok v (xs ++ [x])) : ∃ g cap L, v = .slice (some ⟨g, 0, none⟩) (xs.length + 1) cap ∧ OwnH d e w base ok g cap xs L ∧ d.K w (fun k => ok k ∧ k ≠ g) x L ∧ base ≤ g ∧ g < w.heap.size := by
  obtain ⟨h0, cs, hown, hr⟩ := h
  rw [List.length_append] at hown
  simp only [List.length_singleton] at hown
  have hown0 := hown
  have hcl := hown.1
  rcases hown.2 with ⟨_, h'⟩ | ⟨g, cap, cur, rfl, hg, hh, h1, h2, h3, h4⟩
  · omega
  · have hob : (Value.slice (some ⟨g, 0, none⟩) (xs.length + 1) cap).ownBlock = some g := rfl
    have hlast := hr xs.length x (by simp)
    have hdl : (cs.drop (xs.length * d.sz)).length = d.sz := by rw [List.length_drop, hcl, Nat.succ_mul]; omega
    refine ⟨g, cap, cs.drop (xs.length * d.sz), rfl, ⟨h0 g hob, hdl, cs, hown0, fun j p hj => ?_, rfl⟩, ?_, hg, (hown0.lt g hob).2⟩
    · have hjl := (List.getElem?_eq_some_iff.1 hj).1
      have := hr j p (by rw [List.getElem?_append_left hjl]; exact hj)
      exact d.mono (fun k hk => ⟨hk.1, fun e => hk.2 (by rw [e]; rfl)⟩) this
    · rw [List.take_of_length_le (by omega)] at hlast
      exact d.mono (fun k hk => ⟨hk.1, fun e => hk.2 (by rw [e]; rfl)⟩) hlast
theorem OwnH.toK {y : α} (h : OwnH d e w base ok g cap xs L) (hy : d.K w (fun k => ok k ∧ k ≠ g) y L) : OwnK d e w base ok (.slice (some ⟨g, 0, none⟩) (xs.length + 1) cap) (xs ++ [y]) := by
  obtain ⟨h0, hL, cs, hown, hr, hd⟩ := h
  refine ⟨fun k hk => ?_, cs, by rw [List.length_append]; exact hown, fun j p hj => ?_⟩
  · have : g = k := by simpa [Value.ownBlock] using hk
    rw [← this]; exact h0
  · rcases Nat.lt_or_ge j xs.length with hlt | hge
    · rw [List.getElem?_append_left hlt] at hj
      exact d.mono (fun k hk => ⟨hk.1, fun e => hk.2 (by simpa [Value.ownBlock] using e)⟩) (hr j p hj)
    · have hj' : j = xs.length := by have := (List.getElem?_eq_some_iff.1 hj).1; simp at this; omega
      subst hj'
      have hq : y = p := by simpa using hj
      subst hq
      rw [hd, List.take_of_length_le (by omega)]
      exact d.mono (fun k hk => ⟨hk.1, fun e => hk.2 (by simpa [Value.ownBlock] using e)⟩) hy
theorem OwnH.cell (h : OwnH d e w base ok g cap xs L) (j : Nat) (u : Value) (hu : L[j]? = some u) : w.cell? ⟨g, xs.length * d.sz + j, none⟩ = some u := by
  obtain ⟨h0, hL, cs, hown, hr, hd⟩ := h
  rw [← hd, List.getElem?_drop] at hu
  have hlt := (List.getElem?_eq_some_iff.1 hu).1
  rw [hown.cellAt _ (by rw [← hown.1]; exact hlt)]; exact hu
theorem OwnH.frozen (h : OwnH d e w base ok g cap xs L) (j : Nat) : w.frozen? ⟨g, j, none⟩ = false := by
  obtain ⟨h0, hL, cs, hown, hr, hd⟩ := h
  exact hown.frozenAt j
theorem OwnH.lt (h : OwnH d e w base ok g cap xs L) : base ≤ g ∧ g < w.heap.size := by
  obtain ⟨h0, hL, cs, hown, hr, hd⟩ := h
  exact hown.lt g rfl
theorem OwnH.set (h : OwnH d e w base ok g cap xs L) (j : Nat) (hj : j < d.sz) (u : Value) : OwnH d e (w.setCell ⟨g, xs.length * d.sz + j, none⟩ u) base ok g cap xs (L.set j u) := by
  obtain ⟨h0, hL, cs, hown, hr, hd⟩ := h
  refine ⟨h0, by rw [List.length_set]; exact hL, cs.set (xs.length * d.sz + j) u, (hown.stored _ u).1, fun i p hi => ?_, ?_⟩
  · have hil := (List.getElem?_eq_some_iff.1 hi).1
    have hle : i * d.sz + d.sz ≤ xs.length * d.sz := by rw [← Nat.succ_mul]; exact Nat.mul_le_mul_right _ hil
    have e1 : ((cs.set (xs.length * d.sz + j) u).drop (i * d.sz)).take d.sz = (cs.drop (i * d.sz)).take d.sz := by
      apply List.ext_getElem?
      intro q
      rw [List.getElem?_take, List.getElem?_take]
      split
      · rw [List.getElem?_drop, List.getElem?_drop, List.getElem?_set_ne (by omega)]
      · rfl
    rw [e1]
    have := d.move (w1 := w.setCell ⟨g, xs.length * d.sz + j, none⟩ u) (by rw [World.setCell]; simp) (fun k hk _ => Below.heap_setCell w _ u k hk.2) (hr i p hi)
    exact d.mono (fun k hk => hk.1) this
  · rw [List.drop_set, if_neg (by omega), Nat.add_sub_cancel_left, hd]
theorem OwnH.chg {p : Nat → Prop} (hc : Chg p w w1) (hp : ∀ k, ok k → k < w.heap.size → ¬ p k) (h : OwnH d e w base ok g cap xs L) : OwnH d e w1 base ok g cap xs L := by
  have hlt := h.lt
  obtain ⟨h0, hL, cs, hown, hr, hd⟩ := h
  refine ⟨h0, hL, cs, own_moved hown (fun k hk => ?_), fun j q hj => ?_, hd⟩
  · have : g = k := by simpa [Value.ownBlock] using hk
    subst this
    exact hc.block g hlt.2 (hp g h0 hlt.2)
  · exact d.mono (fun k hk => hk.1) (d.move hc.size (fun k hk hl => hc.block k hl (hp k hk.1 hl)) (hr j q hj))
theorem OwnH.mono {ok' : Nat → Prop} (hk : ∀ k, ok k → ok' k) (h : OwnH d e w base ok g cap xs L) : OwnH d e w base ok' g cap xs L := by
  obtain ⟨h0, hL, cs, hown, hr, hd⟩ := h
  exact ⟨hk g h0, hL, cs, hown, fun j q hj => d.mono (fun k h => ⟨hk k h.1, h.2⟩) (hr j q hj), hd⟩
theorem OwnH.below (hb : Below w.heap.size w w1) (h : OwnH d e w base ok g cap xs L) : OwnH d e w1 base ok g cap xs L := h.chg (Chg.of_below (p := fun _ => False) hb) (fun _ _ _ h => h)
theorem OwnH.al {o : Obj} (h : OwnH d e w base ok g cap xs L) : OwnH d e (w.alloc o) base ok g cap xs L := h.below (bl1 (Nat.le_refl _))
end
end Go.Proofs.YtbbmmeaicilabaaGreatDoor
