/- A path that came in: what its reading gives the walk. Conditions: none. -/
import Derived.Test.YtbbmmeaicilabaaGreatDoorQHc
import Derived.ChangeArms
import Derived.ProofKit
import Derived.SizedLaws
import Derived.Test.YtbbmmeaicilabaaGreatDoorQKd
import Derived.Test.YtbbmmeaicilabaaGreatDoorRows
import Derived.OpenShut
import Derived.Lib.LaidTab
import Derived.MakeChecks
import Derived.Shelf.LaysM
set_option linter.unusedVariables false
set_option linter.unusedSimpArgs false
namespace Go.Proofs.YtbbmmeaicilabaaGreatDoor
open Go.RowKit Go.WideShapes Go.ChangeShapes

section
variable {H : Type} {enc : TypeId × Value → H} {W : World} {base : Nat} {sp : Nat → Bool} {held : Bool}
def okW (W : World) (k : Nat) : Prop := k < W.heap.size

theorem noneFrozen_app {W : World} {p q : List MemPlace} (h : W.noneFrozen (p ++ q)) : W.noneFrozen p ∧ W.noneFrozen q := ⟨fun b o hm => h b o (by simp [hm]), fun b o hm => h b o (by simp [hm])⟩
theorem noneFrozen_mem {W : World} {α : Type} {l : List α} {f : α → List MemPlace} (h : W.noneFrozen (l.flatMap f)) {x : α} (hx : x ∈ l) : W.noneFrozen (f x) := fun b o hm => h b o (List.mem_flatMap.2 ⟨x, hx, hm⟩)

theorem weightsAll_mem {P : Program} {e : TypeId} {l : List (DataW H)} {d : DataW H} {z : Nat} (hd : d ∈ l) (hz : z ∈ DataW.weights P e d) : z ∈ DataW.weightsAll P e l := by
  induction l with
  | nil => cases hd
  | cons y r ih =>
    simp only [DataW.weightsAll, List.mem_append]
    cases List.mem_cons.1 hd with
    | inl h => subst h; exact .inl hz
    | inr h => exact .inr (ih h)
theorem weightsEach_mem {P : Program} {ts : List TypeId} {l : List (DataW H)} {d : DataW H} {z j : Nat} {t : TypeId} (ht : ts[j]? = some t) (hd : l[j]? = some d) (hz : z ∈ DataW.weights P t d) : z ∈ DataW.weightsEach P ts l := by
  induction ts generalizing l j with
  | nil => simp at ht
  | cons u us ih =>
    cases l with
    | nil => simp at hd
    | cons y r =>
      simp only [DataW.weightsEach, List.mem_append]
      cases j with
      | zero => simp at ht hd; subst ht hd; exact .inl hz
      | succ j => exact .inr (ih (by simpa using ht) (by simpa using hd))
/-- no text, no row of it takes more than the form's reach -/
def Sz (P : Program) (t : TypeId) (d : DataW H) : Prop := ∀ z ∈ DataW.weights P t d, z ≤ reachBytes
theorem Sz.str {P : Program} {t : TypeId} {s : ByteArray} (h : Sz P t (DataW.lit (H := H) (.string s.data.toList))) : s.size ≤ 281474976710656 := by
  have := h s.data.toList.length (by simp [DataW.weights])
  unfold reachBytes at this
  have e : s.data.toList.length = s.size := by simp [ByteArray.size_data]
  omega
theorem Sz.part {P : Program} {t u : TypeId} {fs : Array Field} {parts : List (DataW H)} (ht : P.underlying t = some (.struct fs)) (h : Sz P t (.agg parts)) (j : Nat) {d : DataW H} (hu : (fs.toList.map (·.type))[j]? = some u) (hd : parts[j]? = some d) : Sz P u d := by
  intro z hz
  refine h z ?_
  simp only [DataW.weights, ht]
  exact weightsEach_mem hu hd hz

theorem slice_rdW {α : Type} (d : Knd α) (sm : DataW H → α → Prop) (smL : List (DataW H) → List α → Prop) (h0 : smL [] []) (hcons : ∀ u v x r, sm u x → smL v r → smL (u :: v) (x :: r)) {t e : TypeId} (ht : Tryz.prog.underlying t = some (.slice e)) (hsz : Tryz.prog.cellsOf e = d.sz) {n : Nat}
    (IH : ∀ cs (x : DataW H × List MemPlace), DataW.trod enc Tryz.prog W base sp held n e cs = some x → W.noneFrozen x.2 → Sz Tryz.prog e x.1 → ∃ p, d.K W (okW W) p cs ∧ sm x.1 p)
    (cs : List Value) (x : DataW H × List MemPlace) (h : DataW.trod enc Tryz.prog W base sp held (n + 1) t cs = some x) (hf : W.noneFrozen x.2) (hz : Sz Tryz.prog t x.1) : ∃ A c xs ds es, cs = [.slice A xs.length c] ∧ RowK d W (okW W) A xs ∧ smL ds xs ∧ ((x.1 = .nil ∧ ds = []) ∨ (x.1 = .slice ds es ∧ (∀ b, A = some b → sp b.block = true → c = xs.length + es.length))) := by
  rcases DataW.trod_slice ht h with ⟨rfl, rfl⟩ | ⟨a, len, cap, elems, rest, n', he, rfl, rfl, hb, hl, hm, hel, hget, hsp, -⟩
  · exact ⟨none, 0, [], [], [], rfl, RowK.nil _ _ _, h0, .inl ⟨rfl, rfl⟩⟩
  obtain rfl : n = n' := by omega
  rw [hsz] at hget hf
  have hitem : ∀ i, i < len → ∃ cs' p, W.cells? base (a.add (i * d.sz)) d.sz = some cs' ∧ d.K W (okW W) p cs' ∧ ∃ u, elems[i]? = some u ∧ sm u.1 p := by
    intro i hi
    have h1 := hget i hi
    have hie : i < elems.length := by omega
    rw [List.getElem?_eq_getElem hie] at h1
    obtain ⟨cs', h2, h3⟩ := Option.bind_eq_some_iff.1 h1
    obtain ⟨p, h4, h5⟩ := IH cs' _ h3 (noneFrozen_mem (noneFrozen_app hf).2 (List.mem_append_left _ (List.getElem_mem _))) (fun z hz' => hz z (by
      simp only [DataW.weights, ht]
      exact List.mem_cons_of_mem _ (List.mem_append_left _ (weightsAll_mem (List.mem_map_of_mem (List.getElem_mem _)) hz'))))
    exact ⟨cs', p, h2, h4, _, List.getElem?_eq_getElem hie, h5⟩
  have hlist : ∀ m, m ≤ len → ∃ xs : List α, xs.length = m ∧ smL ((elems.map (·.1)).drop (len - m)) xs ∧ ∀ j p, xs[j]? = some p → d.K W (okW W) p ((W.cells? base (a.add ((len - m + j) * d.sz)) d.sz).getD []) := by
    intro m
    induction m with
    | zero => intro _; exact ⟨[], rfl, by rw [List.drop_of_length_le (by simp; omega)]; exact h0, fun j p h => by simp at h⟩
    | succ m ih =>
      intro hm'
      obtain ⟨xs, h1, h2, h3⟩ := ih (by omega)
      obtain ⟨cs', p, h4, h5, u, hu, h6⟩ := hitem (len - (m + 1)) (by omega)
      have hdr : (elems.map (·.1)).drop (len - (m + 1)) = u.1 :: (elems.map (·.1)).drop (len - m) := by
        have hlt : len - (m + 1) < (elems.map (·.1)).length := by simp; omega
        rw [List.drop_eq_getElem_cons hlt, show len - (m + 1) + 1 = len - m by omega]
        have h7 : (elems.map (·.1))[len - (m + 1)]? = some u.1 := by rw [List.getElem?_map, hu]; rfl
        rw [(List.getElem?_eq_some_iff.1 h7).2]
      refine ⟨p :: xs, by simp [h1], by rw [hdr]; exact hcons _ _ _ _ h6 h2, fun j q hj => ?_⟩
      cases j with
      | zero => simp at hj; subst hj; rw [Nat.add_zero, h4]; exact h5
      | succ j =>
        have := h3 j q (by simpa using hj)
        rw [show len - (m + 1) + (j + 1) = len - m + j by omega]
        exact this
  obtain ⟨xs, hx1, hx2, hx3⟩ := hlist len (Nat.le_refl _)
  rw [Nat.sub_self, List.drop_zero] at hx2
  subst hx1
  refine ⟨some a, cap, xs, elems.map (·.1), rest.map (·.1), rfl, ⟨fun j => (W.cells? base (a.add (j * d.sz)) d.sz).getD [], ⟨by unfold maxLen at hm; omega, fun hn => ?_⟩, fun j p hj => by have := hx3 j p hj; rwa [Nat.sub_self, Nat.zero_add] at this⟩, hx2, .inr ⟨rfl, fun b hb' hs => by cases hb'; have := (hsp hs).1; rw [List.length_map]; omega⟩⟩
  obtain ⟨cs0, p0, hc0, hk0, -⟩ := hitem 0 hn
  obtain ⟨b, off, spot⟩ := a
  have hfirst : ∃ v, W.cell? (((⟨b, off, spot⟩ : Addr).add (0 * d.sz)).add 0) = some v := by
    obtain ⟨-, hlen, hall⟩ := World.cells?_some hc0
    have := hall 0 d.pos
    rw [List.getElem?_eq_getElem (by rw [hlen]; exact d.pos)] at this
    exact ⟨_, this⟩
  obtain ⟨v, hv⟩ := hfirst
  have hspot : spot = none := by simpa [Addr.add] using World.cell?_spot hv
  subst hspot
  have hblk : b < W.heap.size := by have := cell_lt hv; simpa [add_plain] using this
  refine ⟨b, off, rfl, hblk, hblk, fun j hj i u hu => ?_⟩
  obtain ⟨cs', p, h4, h5, -⟩ := hitem j hj
  dsimp only at hu
  rw [h4] at hu
  obtain ⟨-, hlen, hall⟩ := World.cells?_some h4
  have hi : i < d.sz := by rw [← hlen]; exact (List.getElem?_eq_some_iff.1 hu).1
  have h7 := hall i hi
  rw [add_plain, add_plain] at h7
  refine ⟨h7.trans hu, (noneFrozen_app hf).1 _ _ (MemPlace.mem_row.2 ⟨j * d.sz + i, ?_, by rw [Nat.add_assoc]⟩)⟩
  rw [hel]
  have h8 : (j + 1) * d.sz ≤ (xs.length + rest.length) * d.sz := Nat.mul_le_mul_right _ (by omega)
  rw [Nat.add_mul] at h8
  omega

theorem slice_rd {α : Type} (d : Knd α) (sm : α → Prop) (smL : List α → Prop) (h0 : smL []) (hcons : ∀ x r, sm x → smL r → smL (x :: r)) {t e : TypeId} (ht : Tryz.prog.underlying t = some (.slice e)) (hsz : Tryz.prog.cellsOf e = d.sz) {n : Nat}
    (IH : ∀ cs (x : DataW H × List MemPlace), DataW.trod enc Tryz.prog W base sp held n e cs = some x → W.noneFrozen x.2 → Sz Tryz.prog e x.1 → ∃ p, d.K W (okW W) p cs ∧ sm p)
    (cs : List Value) (x : DataW H × List MemPlace) (h : DataW.trod enc Tryz.prog W base sp held (n + 1) t cs = some x) (hf : W.noneFrozen x.2) (hz : Sz Tryz.prog t x.1) : ∃ A c xs, cs = [.slice A xs.length c] ∧ RowK d W (okW W) A xs ∧ smL xs := by
  obtain ⟨A, c, xs, ds, es, h1, h2, h3, -⟩ := slice_rdW d (fun _ => sm) (fun _ => smL) h0 (fun _ _ => hcons) ht hsz IH cs x h hf hz
  exact ⟨A, c, xs, h1, h2, h3⟩

theorem cells64 : Tryz.prog.cellsOf 64 = 7 := by kernel_rfl
theorem cells55 : Tryz.prog.cellsOf 55 = 4 := by kernel_rfl
theorem cells27 : Tryz.prog.cellsOf 27 = 1 := by kernel_rfl
theorem cells25 : Tryz.prog.cellsOf 25 = 1 := by kernel_rfl
theorem cells53 : Tryz.prog.cellsOf 53 = 1 := by kernel_rfl
theorem cells61 : Tryz.prog.cellsOf 61 = 1 := by kernel_rfl
theorem cells62 : Tryz.prog.cellsOf 62 = 1 := by kernel_rfl
theorem cells9 : Tryz.prog.cellsOf 9 = 1 := by kernel_rfl
theorem cells3 : Tryz.prog.cellsOf 3 = 1 := by kernel_rfl

def RdE (H : Type) (enc : TypeId × Value → H) (W : World) (base : Nat) (sp : Nat → Bool) (held : Bool) (n : Nat) : Prop := ∀ cs (x : DataW H × List MemPlace), DataW.trod enc Tryz.prog W base sp held n 64 cs = some x → W.noneFrozen x.2 → Sz Tryz.prog 64 x.1 → ∃ p, kE.K W (okW W) p cs ∧ smE p
def RdS (H : Type) (enc : TypeId × Value → H) (W : World) (base : Nat) (sp : Nat → Bool) (held : Bool) (n : Nat) : Prop := ∀ cs (x : DataW H × List MemPlace), DataW.trod enc Tryz.prog W base sp held n 55 cs = some x → W.noneFrozen x.2 → Sz Tryz.prog 55 x.1 → ∃ p, kS.K W (okW W) p cs ∧ smS p
def RdL (H : Type) (enc : TypeId × Value → H) (W : World) (base : Nat) (sp : Nat → Bool) (held : Bool) (n : Nat) : Prop := ∀ cs (x : DataW H × List MemPlace), DataW.trod enc Tryz.prog W base sp held n 53 cs = some x → W.noneFrozen x.2 → Sz Tryz.prog 53 x.1 → ∃ A c xs, cs = [.slice A xs.length c] ∧ RowK kE W (okW W) A xs ∧ smEs xs
def RdM (H : Type) (enc : TypeId × Value → H) (W : World) (base : Nat) (sp : Nat → Bool) (held : Bool) (n : Nat) : Prop := ∀ cs (x : DataW H × List MemPlace), DataW.trod enc Tryz.prog W base sp held n 25 cs = some x → W.noneFrozen x.2 → Sz Tryz.prog 25 x.1 → ∃ A c xs, cs = [.slice A xs.length c] ∧ RowK kS W (okW W) A xs ∧ smP xs
def RdP (H : Type) (enc : TypeId × Value → H) (W : World) (base : Nat) (sp : Nat → Bool) (held : Bool) (n : Nat) : Prop := ∀ cs (x : DataW H × List MemPlace), DataW.trod enc Tryz.prog W base sp held n 27 cs = some x → W.noneFrozen x.2 → Sz Tryz.prog 27 x.1 → ∃ A c xs, cs = [.slice A xs.length c] ∧ RowK kS W (okW W) A xs ∧ smP xs

theorem rdL {n : Nat} (h : RdE H enc W base sp held n) : RdL H enc W base sp held (n + 1) := slice_rd kE smE smEs (by simp [smEs]) (fun x r a b => by simp only [smEs]; exact ⟨a, b⟩) Tryz.underlying53 cells64 h
theorem rdM {n : Nat} (h : RdS H enc W base sp held n) : RdM H enc W base sp held (n + 1) := slice_rd kS smS smP (by simp [smP]) (fun x r a b => by simp only [smP]; exact ⟨a, b⟩) Tryz.underlying25 cells55 h
set_option maxRecDepth 100000 in
theorem rdP {n : Nat} (h : RdM H enc W base sp held n) : RdP H enc W base sp held (n + 1) := by
  intro cs x hx hf hz
  obtain ⟨xs, n', he, rfl, hl, hxl, hg⟩ := DataW.trod_struct Tryz.underlying27 hx
  obtain rfl : n = n' := by omega
  rw [cells27] at hl
  match cs, hl with
  | [v], _ =>
  match xs, hxl with
  | [y], _ =>
  have h1 : DataW.trod enc Tryz.prog W base sp held n 25 (List.take (Tryz.prog.cellsOf 25) [v]) = some y := hg 0 _ rfl
  rw [cells25] at h1
  exact h _ _ h1 (noneFrozen_mem hf (List.mem_singleton_self y)) (hz.part Tryz.underlying27 0 rfl rfl)
set_option maxRecDepth 100000 in
theorem rdS {n : Nat} (h : RdL H enc W base sp held n) : RdS H enc W base sp held (n + 1) := by
  intro cs x hx hf hz
  obtain ⟨xs, n', he, rfl, hl, hxl, hg⟩ := DataW.trod_struct Tryz.underlying55 hx
  obtain rfl : n = n' := by omega
  rw [cells55] at hl
  match cs, hl with
  | [v0, v1, v2, v3], _ =>
  match xs, hxl with
  | [y0, y1, y2, y3], _ =>
  have h0 : DataW.trod enc Tryz.prog W base sp held n 51 (List.take (Tryz.prog.cellsOf 51) [v0, v1, v2, v3]) = some y0 := hg 0 _ rfl
  have h1 : DataW.trod enc Tryz.prog W base sp held n 52 (List.take (Tryz.prog.cellsOf 52) [v1, v2, v3]) = some y1 := hg 1 _ rfl
  have h2 : DataW.trod enc Tryz.prog W base sp held n 9 (List.take (Tryz.prog.cellsOf 9) [v2, v3]) = some y2 := hg 2 _ rfl
  have h3 : DataW.trod enc Tryz.prog W base sp held n 53 (List.take (Tryz.prog.cellsOf 53) [v3]) = some y3 := hg 3 _ rfl
  rw [show Tryz.prog.cellsOf 51 = 1 by kernel_rfl] at h0
  rw [show Tryz.prog.cellsOf 52 = 1 by kernel_rfl] at h1
  rw [cells9] at h2
  rw [cells53] at h3
  obtain ⟨ax, e0, -, -⟩ := DataW.trod_int Tryz.underlying51 h0
  obtain ⟨te, e1, -, -⟩ := DataW.trod_int Tryz.underlying52 h1
  obtain ⟨nm, e2, hy2, -⟩ := DataW.trod_string Tryz.underlying9 h2
  obtain ⟨Aw, cw, wh, e3, hrw, hsm⟩ := h _ _ h3 (noneFrozen_mem hf (by simp)) (hz.part Tryz.underlying55 3 rfl rfl)
  have hs : nm.size ≤ 281474976710656 := by
    have := hz.part Tryz.underlying55 2 (u := 9) (d := y2.1) rfl rfl
    rw [hy2] at this; exact this.str
  obtain rfl : v0 = .int .i64 ax := by simpa using e0
  obtain rfl : v1 = .int .i64 te := by simpa using e1
  obtain rfl : v2 = .string nm := by simpa using e2
  obtain rfl : v3 = .slice Aw wh.length cw := by simpa using e3
  exact ⟨.mk ax te nm wh, RS.of_rows (x := .mk ax te nm wh) hrw, by simp only [smS]; exact ⟨hs, hsm⟩⟩
set_option maxRecDepth 100000 in
theorem rdE {n : Nat} (h : RdL H enc W base sp held n) (h' : RdP H enc W base sp held n) : RdE H enc W base sp held (n + 1) := by
  intro cs x hx hf hz
  obtain ⟨xs, n', he, rfl, hl, hxl, hg⟩ := DataW.trod_struct Tryz.underlying64 hx
  obtain rfl : n = n' := by omega
  rw [cells64] at hl
  match cs, hl with
  | [v0, v1, v2, v3, v4, v5, v6], _ =>
  match xs, hxl with
  | [y0, y1, y2, y3, y4, y5, y6], _ =>
  have h0 : DataW.trod enc Tryz.prog W base sp held n 61 (List.take (Tryz.prog.cellsOf 61) [v0, v1, v2, v3, v4, v5, v6]) = some y0 := hg 0 _ rfl
  have h1 : DataW.trod enc Tryz.prog W base sp held n 53 (List.take (Tryz.prog.cellsOf 53) [v1, v2, v3, v4, v5, v6]) = some y1 := hg 1 _ rfl
  have h2 : DataW.trod enc Tryz.prog W base sp held n 27 (List.take (Tryz.prog.cellsOf 27) [v2, v3, v4, v5, v6]) = some y2 := hg 2 _ rfl
  have h3 : DataW.trod enc Tryz.prog W base sp held n 9 (List.take (Tryz.prog.cellsOf 9) [v3, v4, v5, v6]) = some y3 := hg 3 _ rfl
  have h4 : DataW.trod enc Tryz.prog W base sp held n 62 (List.take (Tryz.prog.cellsOf 62) [v4, v5, v6]) = some y4 := hg 4 _ rfl
  have h5 : DataW.trod enc Tryz.prog W base sp held n 9 (List.take (Tryz.prog.cellsOf 9) [v5, v6]) = some y5 := hg 5 _ rfl
  have h6 : DataW.trod enc Tryz.prog W base sp held n 3 (List.take (Tryz.prog.cellsOf 3) [v6]) = some y6 := hg 6 _ rfl
  rw [cells61] at h0
  rw [cells53] at h1
  rw [cells27] at h2
  rw [cells9] at h3 h5
  rw [cells62] at h4
  rw [cells3] at h6
  obtain ⟨op, e0, -, -⟩ := DataW.trod_int Tryz.underlying61 h0
  obtain ⟨Aa, ca, as', e1, hra, hsa⟩ := h _ _ h1 (noneFrozen_mem hf (by simp)) (hz.part Tryz.underlying64 1 rfl rfl)
  obtain ⟨As, cs', ps, e2, hrs, hss⟩ := h' _ _ h2 (noneFrozen_mem hf (by simp)) (hz.part Tryz.underlying64 2 rfl rfl)
  obtain ⟨at', e3, hy3, -⟩ := DataW.trod_string Tryz.underlying9 h3
  obtain ⟨cm, e4, -, -⟩ := DataW.trod_int Tryz.underlying62 h4
  obtain ⟨tx, e5, hy5, -⟩ := DataW.trod_string Tryz.underlying9 h5
  obtain ⟨nu, e6, -, -⟩ := DataW.trod_int Tryz.underlying3 h6
  have hz3 : at'.size ≤ 281474976710656 := by
    have := hz.part Tryz.underlying64 3 (u := 9) (d := y3.1) rfl rfl
    rw [hy3] at this; exact this.str
  have hz5 : tx.size ≤ 281474976710656 := by
    have := hz.part Tryz.underlying64 5 (u := 9) (d := y5.1) rfl rfl
    rw [hy5] at this; exact this.str
  obtain rfl : v0 = .int .i64 op := by simpa using e0
  obtain rfl : v1 = .slice Aa as'.length ca := by simpa using e1
  obtain rfl : v2 = .slice As ps.length cs' := by simpa using e2
  obtain rfl : v3 = .string at' := by simpa using e3
  obtain rfl : v4 = .int .i64 cm := by simpa using e4
  obtain rfl : v5 = .string tx := by simpa using e5
  obtain rfl : v6 = .int .i64 nu := by simpa using e6
  exact ⟨.mk op as' ps at' cm tx nu, RE.of_rows (x := .mk op as' ps at' cm tx nu) hra hrs, by simp only [smE]; exact ⟨⟨hz3, hz5⟩, hsa, hss⟩⟩
theorem rd_all (n : Nat) : (RdE H enc W base sp held n ∧ RdS H enc W base sp held n) ∧ (RdL H enc W base sp held n ∧ RdM H enc W base sp held n) ∧ RdP H enc W base sp held n := by
  induction n with
  | zero => exact ⟨⟨fun cs x h => by simp [DataW.trod] at h, fun cs x h => by simp [DataW.trod] at h⟩, ⟨fun cs x h => by simp [DataW.trod] at h, fun cs x h => by simp [DataW.trod] at h⟩, fun cs x h => by simp [DataW.trod] at h⟩
  | succ n ih => exact ⟨⟨rdE ih.2.1.1 ih.2.2, rdS ih.2.1.1⟩, ⟨rdL ih.1.1, rdM ih.1.2⟩, rdP ih.2.1.2⟩
end
end Go.Proofs.YtbbmmeaicilabaaGreatDoor

/- The tables that a row lists, as the walks want them. Conditions: the row's own list holds. -/
namespace Go.Proofs.YtbbmmeaicilabaaGreatDoor
open Go.RowKit Go.WideShapes Go.ChangeShapes

theorem laid_var {P : Program} {W : World} {laid : List (String × DataW Unit)} (h : laidMet P laid W) {n : String} {d : DataW Unit} (hm : (n, d) ∈ laid) :
    ∃ g t cs fuel p, P.globalNamed n = some g ∧ (P.globals[g]?).map (·.type) = some t ∧ W.var? P n = some cs ∧ DataW.trod (fun _ => ()) P W 0 (fun _ => true) false fuel t cs.toList = some (d, p) ∧ W.noneFrozen p := by
  obtain ⟨ps, hv, -, hall⟩ := h
  have hnf : W.noneFrozen ps := by
    intro b off hb
    obtain ⟨⟨c, t, hh⟩, -⟩ := hall b off hb
    simp [World.frozen?, hh]
  clear hall
  induction laid generalizing ps with
  | nil => cases hm
  | cons x r ih =>
    obtain ⟨n', d'⟩ := x
    obtain ⟨g, t, cs, fuel, p, q, h1, h2, h3, h4, h5, rfl⟩ := hv
    cases List.mem_cons.1 hm with
    | inl e => cases e; exact ⟨g, t, cs, fuel, p, h1, h2, h3, h4, (noneFrozen_app (noneFrozen_app hnf).1).2⟩
    | inr e => exact ih e q h5 (noneFrozen_app hnf).2

theorem cells5' : Tryz.prog.cellsOf 5 = 1 := by kernel_rfl
theorem cells148 : Tryz.prog.cellsOf 148 = 256 := by kernel_rfl
theorem cells150 : Tryz.prog.cellsOf 150 = 2 := by kernel_rfl
theorem cells151 : Tryz.prog.cellsOf 151 = 32 := by kernel_rfl
theorem cells156 : Tryz.prog.cellsOf 156 = 2 := by kernel_rfl
theorem cells153 : Tryz.prog.cellsOf 153 = 1 := by kernel_rfl
theorem cells169 : Tryz.prog.cellsOf 169 = 6 := by kernel_rfl
theorem cells21 : Tryz.prog.cellsOf 21 = 1 := by kernel_rfl

section
variable {W : World} {base : Nat} {sp : Nat → Bool} {held : Bool} {H : Type} {enc : TypeId × Value → H}
set_option maxRecDepth 100000 in
theorem pair8 {n : Nat} {cs : List Value} {a b : Int} {p : List MemPlace} (h : DataW.trod enc Tryz.prog W base sp held n 150 cs = some (.agg [.lit (.int .u8 a), .lit (.int .u8 b)], p)) : cs = [.int .u8 a, .int .u8 b] := by
  obtain ⟨xs, n', he, hx, hl, hxl, hg⟩ := DataW.trod_struct Tryz.underlying150 h
  rw [cells150] at hl
  match cs, hl with
  | [v0, v1], _ =>
  match xs, hxl with
  | [y0, y1], _ =>
  have h0 : DataW.trod enc Tryz.prog W base sp held n' 5 (List.take (Tryz.prog.cellsOf 5) [v0, v1]) = some y0 := hg 0 _ rfl
  have h1 : DataW.trod enc Tryz.prog W base sp held n' 5 (List.take (Tryz.prog.cellsOf 5) [v1]) = some y1 := hg 1 _ rfl
  rw [cells5'] at h0 h1
  obtain ⟨z0, e0, hy0, -⟩ := DataW.trod_int Tryz.underlying5 h0
  obtain ⟨z1, e1, hy1, -⟩ := DataW.trod_int Tryz.underlying5 h1
  obtain rfl : v0 = .int .u8 z0 := by simpa using e0
  obtain rfl : v1 = .int .u8 z1 := by simpa using e1
  subst hy0 hy1
  have := (Prod.mk.inj hx).1
  simp at this
  obtain ⟨rfl, rfl⟩ := this
  rfl
set_option maxRecDepth 100000 in
theorem span_rd (n : Nat) (cs : List Value) (x : DataW H × List MemPlace) (h : DataW.trod enc Tryz.prog W base sp held n 156 cs = some x) : ∃ p : Int × Int, cs = [.int .i32 p.1, .int .i32 p.2] ∧ x.1 = .agg [.lit (.int .i32 p.1), .lit (.int .i32 p.2)] := by
  obtain ⟨xs, n', he, rfl, hl, hxl, hg⟩ := DataW.trod_struct Tryz.underlying156 h
  rw [cells156] at hl
  match cs, hl with
  | [v0, v1], _ =>
  match xs, hxl with
  | [y0, y1], _ =>
  have h0 : DataW.trod enc Tryz.prog W base sp held n' 21 (List.take (Tryz.prog.cellsOf 21) [v0, v1]) = some y0 := hg 0 _ rfl
  have h1 : DataW.trod enc Tryz.prog W base sp held n' 21 (List.take (Tryz.prog.cellsOf 21) [v1]) = some y1 := hg 1 _ rfl
  rw [cells21] at h0 h1
  obtain ⟨z0, e0, hy0, -⟩ := DataW.trod_int Tryz.underlying21 h0
  obtain ⟨z1, e1, hy1, -⟩ := DataW.trod_int Tryz.underlying21 h1
  obtain rfl : v0 = .int .i32 z0 := by simpa using e0
  obtain rfl : v1 = .int .i32 z1 := by simpa using e1
  subst hy0 hy1
  exact ⟨(z0, z1), rfl, rfl⟩
end

/-- the first table, and the ranges, of unicode/utf8 -/
theorem utf8_of {W : World} {laid : List (String × DataW Unit)} (h : laidMet Tryz.prog laid W) (h1 : ("unicode/utf8.first", Rows.laid_unicode_utf8_first) ∈ laid) (h2 : ("unicode/utf8.acceptRanges", Rows.laid_unicode_utf8_acceptRanges) ∈ laid) :
    Lib.Utf8Tabs 1 2 W := by
  constructor
  · obtain ⟨g, t, cs, fuel, p, hg, ht, hv, hd, -⟩ := laid_var h h1
    obtain rfl := Option.some.inj ((show Tryz.prog.globalNamed "unicode/utf8.first" = some 1 by kernel_rfl).symm.trans hg)
    obtain rfl := Option.some.inj ((show (Tryz.prog.globals[1]?).map (·.type) = some 148 by kernel_rfl).symm.trans ht)
    have hz : Rows.laid_unicode_utf8_first = Lib.tabData .u8 (Pinned.utf8FirstZ.map fun (n : Nat) => (n : Int)) := by
      unfold Rows.laid_unicode_utf8_first Pinned.utf8First Pinned.numbers Lib.tabData
      rw [List.map_map]; rfl
    rw [hz] at hd
    have hc := Lib.cells_of_tab Tryz.underlying148 Tryz.underlying5 cells5' cells148 hd
    intro c hlt
    rw [World.var?_cell hg hv c]
    have e1 : cs[c]? = cs.toList[c]? := by simp
    rw [e1, hc, List.map_map, List.getElem?_map]
    have hall : ((List.range 256).all fun c => decide (Pinned.utf8FirstZ[c]? = some (Lib.firstT c))) = true := by kernel_rfl
    have := of_decide_eq_true (List.all_eq_true.1 hall c (List.mem_range.2 hlt))
    rw [this]; rfl
  · obtain ⟨g, t, cs, fuel, p, hg, ht, hv, hd, -⟩ := laid_var h h2
    obtain rfl := Option.some.inj ((show Tryz.prog.globalNamed "unicode/utf8.acceptRanges" = some 2 by kernel_rfl).symm.trans hg)
    obtain rfl := Option.some.inj ((show (Tryz.prog.globals[2]?).map (·.type) = some 151 by kernel_rfl).symm.trans ht)
    obtain ⟨xs, m, -, hx, hl, hxl, hel⟩ := DataW.trod_array Tryz.underlying151 hd
    rw [cells150] at hel
    intro i hi
    have hxe : (xs.map (·.1)) = (List.range 16).map fun i => .agg [.lit (.int .u8 (Lib.accLo i)), .lit (.int .u8 (Lib.accHi i))] := (DataW.agg.inj (Prod.mk.inj hx).1).symm
    have h3 := hel i hi
    have h4 : (xs.map (·.1))[i]? = some (.agg [.lit (.int .u8 (Lib.accLo i)), .lit (.int .u8 (Lib.accHi i))]) := by rw [hxe, List.getElem?_map, List.getElem?_range hi]; rfl
    rw [List.getElem?_map, List.getElem?_eq_getElem (by omega : i < xs.length)] at h4
    rw [List.getElem?_eq_getElem (by omega : i < xs.length)] at h3
    have h5 : xs[i] = (.agg [.lit (.int .u8 (Lib.accLo i)), .lit (.int .u8 (Lib.accHi i))], xs[i].2) := Prod.ext (Option.some.inj h4) rfl
    rw [h5] at h3
    have h6 := pair8 h3
    have g0 : (List.take 2 (cs.toList.drop (i * 2)))[0]? = some (.int .u8 (Lib.accLo i)) := by rw [h6]; rfl
    have g1 : (List.take 2 (cs.toList.drop (i * 2)))[1]? = some (.int .u8 (Lib.accHi i)) := by rw [h6]; rfl
    rw [World.var?_cell hg hv, World.var?_cell hg hv]
    simp [List.getElem?_take, List.getElem?_drop] at g0 g1
    rw [Nat.mul_comm 2 i]
    exact ⟨g0, g1⟩

def spanD (p : Int × Int) : DataW Unit := .agg [.lit (.int .i32 p.1), .lit (.int .i32 p.2)]
theorem spanD_inj {xs ys : List (Int × Int)} (h : xs.map spanD = ys.map spanD) : xs = ys := by
  induction xs generalizing ys with
  | nil => cases ys with
    | nil => rfl
    | cons y r => simp at h
  | cons x r ih =>
    cases ys with
    | nil => simp at h
    | cons y r' =>
      simp only [List.map_cons, List.cons.injEq] at h
      rw [ih h.2]
      have h1 := h.1
      simp only [spanD, DataW.agg.injEq, List.cons.injEq, DataW.lit.injEq, Lit.int.injEq, true_and, and_true] at h1
      rw [Prod.ext h1.1 h1.2]
theorem ranges_of {W : World} {laid : List (String × DataW Unit)} (h : laidMet Tryz.prog laid W) (h1 : ("gimlet/chars.ranges", Rows.laid_gimlet_chars_ranges) ∈ laid) : TabR W := by
  obtain ⟨g, t, cs, fuel, p, hg, ht, hv, hd, hnf⟩ := laid_var h h1
  obtain rfl := Option.some.inj ((show Tryz.prog.globalNamed "gimlet/chars.ranges" = some 3 by kernel_rfl).symm.trans hg)
  obtain rfl := Option.some.inj ((show (Tryz.prog.globals[3]?).map (·.type) = some 169 by kernel_rfl).symm.trans ht)
  obtain ⟨xs, m, -, hx, hl, hxl, hel⟩ := DataW.trod_array Tryz.underlying169 hd
  rw [cells153] at hel
  intro c hc
  have hp : p = xs.flatMap (·.2) := (Prod.mk.inj hx).2
  have hxe : (xs.map (·.1)) = (List.range 6).map fun i => .slice ((rangesL i).map spanD) [] := (DataW.agg.inj (Prod.mk.inj hx).1).symm
  have h3 := hel c hc
  have h4 : (xs.map (·.1))[c]? = some (.slice ((rangesL c).map spanD) []) := by rw [hxe, List.getElem?_map, List.getElem?_range hc]; rfl
  rw [List.getElem?_map, List.getElem?_eq_getElem (by omega : c < xs.length)] at h4
  rw [List.getElem?_eq_getElem (by omega : c < xs.length)] at h3
  have h5 : xs[c].1 = .slice ((rangesL c).map spanD) [] := Option.some.inj h4
  have hcv : ∃ v, cs.toList[c]? = some v := by
    rw [cells169] at hl
    exact ⟨_, List.getElem?_eq_getElem (by omega)⟩
  obtain ⟨v, hv1⟩ := hcv
  have hw : (List.take 1 (cs.toList.drop (c * 1))) = [v] := by
    obtain ⟨hlt, rfl⟩ := List.getElem?_eq_some_iff.1 hv1
    rw [Nat.mul_one, List.drop_eq_getElem_cons hlt]; rfl
  rw [hw] at h3
  have hnx : W.noneFrozen xs[c].2 := by rw [hp] at hnf; exact noneFrozen_mem hnf (List.getElem_mem _)
  have hsz : Sz Tryz.prog 153 xs[c].1 := by
    rw [h5]
    have hall : ((List.range 6).all fun c => (DataW.weights Tryz.prog 153 (DataW.slice ((rangesL c).map spanD) [])).all fun z => decide (z ≤ reachBytes)) = true := by kernel_rfl
    intro z hz
    exact of_decide_eq_true (List.all_eq_true.1 (List.all_eq_true.1 hall c (List.mem_range.2 hc)) z hz)
  cases m with
  | zero => simp [DataW.trod] at h3
  | succ m =>
  obtain ⟨A, k, ys, ds, es, e1, hrow, e2, e3⟩ := slice_rdW kSpan (fun u p => u = spanD p) (fun v l => v = l.map spanD) rfl (fun u v x r a b => by rw [a, b]; rfl) Tryz.underlying153 cells156
    (fun cs' x hx' _ _ => by obtain ⟨p, a, b⟩ := span_rd _ _ _ hx'; exact ⟨p, a, b⟩) [v] xs[c] h3 hnx hsz
  have e4 : ys = rangesL c := by
    rcases e3 with ⟨e3, -⟩ | ⟨e3, -⟩
    · rw [h5] at e3; cases e3
    · rw [h5] at e3
      have := (DataW.slice.inj e3).1
      rw [e2] at this
      exact (spanD_inj this).symm
  subst e4
  refine ⟨A, k, ?_, hrow.mono (fun _ _ => trivial)⟩
  rw [World.var?_cell hg hv c]
  have e5 : cs[c]? = cs.toList[c]? := by simp
  rw [e5, hv1]
  simpa using e1

theorem ascii_of {W : World} {laid : List (String × DataW Unit)} (h : laidMet Tryz.prog laid W) (h1 : ("strings.asciiSpace", Rows.laid_strings_asciiSpace) ∈ laid) : Lib.TabIs Tryz.prog W "strings.asciiSpace" .u8 Lib.asciiSpaceTab ∧ 4 < W.heap.size := by
  obtain ⟨g, t, cs, fuel, p, hg, ht, hv, hd, -⟩ := laid_var h h1
  obtain rfl := Option.some.inj ((show Tryz.prog.globalNamed "strings.asciiSpace" = some 4 by kernel_rfl).symm.trans hg)
  obtain rfl := Option.some.inj ((show (Tryz.prog.globals[4]?).map (·.type) = some 148 by kernel_rfl).symm.trans ht)
  have hz : Rows.laid_strings_asciiSpace = Lib.tabData (H := Unit) .u8 Lib.asciiSpaceTab := by kernel_rfl
  rw [hz] at hd
  have hc := Lib.cells_of_tab Tryz.underlying148 Tryz.underlying5 cells5' cells148 hd
  have hT : Lib.TabIs Tryz.prog W "strings.asciiSpace" .u8 Lib.asciiSpaceTab := by
    unfold Lib.TabIs
    rw [hv, ← hc]
  refine ⟨hT, ?_⟩
  have := hT.cell hg 0 (by rw [Lib.asciiSpaceTab_length]; omega)
  exact cell_lt this

def enc16 (x : Int × Int × Int) : List Value := [.int .u16 x.1, .int .u16 x.2.1, .int .u16 x.2.2]
def k16 : Knd (Int × Int × Int) := kF 3 (by decide) enc16 (fun _ => rfl) (fun x u hu => by simp [enc16] at hu; rcases hu with rfl | rfl | rfl <;> rfl)
def d16 (x : Int × Int × Int) : DataW Unit := .agg [.lit (.int .u16 x.1), .lit (.int .u16 x.2.1), .lit (.int .u16 x.2.2)]
theorem d16_inj {xs ys : List (Int × Int × Int)} (h : xs.map d16 = ys.map d16) : xs = ys := by
  induction xs generalizing ys with
  | nil => cases ys with
    | nil => rfl
    | cons y r => simp at h
  | cons x r ih =>
    cases ys with
    | nil => simp at h
    | cons y r' =>
      simp only [List.map_cons, List.cons.injEq] at h
      rw [ih h.2]
      have h1 := h.1
      simp only [d16, DataW.agg.injEq, List.cons.injEq, DataW.lit.injEq, Lit.int.injEq, true_and, and_true] at h1
      obtain ⟨a, b, c⟩ := h1
      rw [Prod.ext a (Prod.ext b c)]
theorem cells197 : Tryz.prog.cellsOf 197 = 3 := by kernel_rfl
theorem cells194 : Tryz.prog.cellsOf 194 = 3 := by kernel_rfl
theorem cells191 : Tryz.prog.cellsOf 191 = 1 := by kernel_rfl
theorem cells192 : Tryz.prog.cellsOf 192 = 1 := by kernel_rfl
theorem cells195 : Tryz.prog.cellsOf 195 = 1 := by kernel_rfl
set_option maxRecDepth 100000 in
theorem r16_rd {W : World} {base : Nat} {sp : Nat → Bool} {held : Bool} (n : Nat) (cs : List Value) (x : DataW Unit × List MemPlace) (h : DataW.trod (fun _ => ()) Tryz.prog W base sp held n 197 cs = some x) : ∃ p : Int × Int × Int, cs = enc16 p ∧ x.1 = d16 p := by
  obtain ⟨xs, n', he, rfl, hl, hxl, hg⟩ := DataW.trod_struct Tryz.underlying197 h
  rw [cells197] at hl
  match cs, hl with
  | [v0, v1, v2], _ =>
  match xs, hxl with
  | [y0, y1, y2], _ =>
  have h0 : DataW.trod (fun _ => ()) Tryz.prog W base sp held n' 195 (List.take (Tryz.prog.cellsOf 195) [v0, v1, v2]) = some y0 := hg 0 _ rfl
  have h1 : DataW.trod (fun _ => ()) Tryz.prog W base sp held n' 195 (List.take (Tryz.prog.cellsOf 195) [v1, v2]) = some y1 := hg 1 _ rfl
  have h2 : DataW.trod (fun _ => ()) Tryz.prog W base sp held n' 195 (List.take (Tryz.prog.cellsOf 195) [v2]) = some y2 := hg 2 _ rfl
  rw [cells195] at h0 h1 h2
  obtain ⟨z0, e0, hy0, -⟩ := DataW.trod_int Tryz.underlying195 h0
  obtain ⟨z1, e1, hy1, -⟩ := DataW.trod_int Tryz.underlying195 h1
  obtain ⟨z2, e2, hy2, -⟩ := DataW.trod_int Tryz.underlying195 h2
  obtain rfl : v0 = .int .u16 z0 := by simpa using e0
  obtain rfl : v1 = .int .u16 z1 := by simpa using e1
  obtain rfl : v2 = .int .u16 z2 := by simpa using e2
  subst hy0 hy1 hy2
  exact ⟨(z0, z1, z2), rfl, rfl⟩
def whiteL : List (Int × Int × Int) := [(9, 13, 1), (32, 133, 101), (160, 5760, 5600), (8192, 8202, 1), (8232, 8233, 1), (8239, 8287, 48), (12288, 12288, 1)]
set_option maxRecDepth 100000 in
theorem white_of {W : World} {laid : List (String × DataW Unit)} (h : laidMet Tryz.prog laid W) (h1 : ("unicode.White_Space", Rows.laid_unicode_White_Space) ∈ laid) : Lib.WhiteTab 5 W := by
  obtain ⟨g, t, cs, fuel, p, hg, ht, hv, hd, hnf⟩ := laid_var h h1
  obtain rfl := Option.some.inj ((show Tryz.prog.globalNamed "unicode.White_Space" = some 5 by kernel_rfl).symm.trans hg)
  obtain rfl := Option.some.inj ((show (Tryz.prog.globals[5]?).map (·.type) = some 188 by kernel_rfl).symm.trans ht)
  rcases DataW.trod_pointer Tryz.underlying188 hd with ⟨-, hx⟩ | ⟨a, cs', y, n, -, hcs, hx, hcells, hy⟩
  · have := (Prod.mk.inj hx).1; cases this
  rw [cells194] at hcells
  have hyd : y.1 = .agg [.slice (whiteL.map d16) [], .nil, .lit (.int .i64 2)] := (DataW.ptr.inj (Prod.mk.inj hx).1).symm
  have hyf : W.noneFrozen y.2 := by rw [(Prod.mk.inj hx).2] at hnf; exact (noneFrozen_app hnf).2
  obtain ⟨xs, n', -, hy2, hl, hxl, hgf⟩ := DataW.trod_struct Tryz.underlying194 hy
  rw [cells194] at hl
  match cs', hl with
  | [v0, v1, v2], _ =>
  match xs, hxl with
  | [y0, y1, y2], _ =>
  have g0 : DataW.trod (fun _ => ()) Tryz.prog W 0 (fun _ => true) false n' 191 (List.take (Tryz.prog.cellsOf 191) [v0, v1, v2]) = some y0 := hgf 0 _ rfl
  have g1 : DataW.trod (fun _ => ()) Tryz.prog W 0 (fun _ => true) false n' 192 (List.take (Tryz.prog.cellsOf 192) [v1, v2]) = some y1 := hgf 1 _ rfl
  have g2 : DataW.trod (fun _ => ()) Tryz.prog W 0 (fun _ => true) false n' 3 (List.take (Tryz.prog.cellsOf 3) [v2]) = some y2 := hgf 2 _ rfl
  rw [cells191] at g0
  rw [cells192] at g1
  rw [cells3] at g2
  have hparts : [y0.1, y1.1, y2.1] = [.slice (whiteL.map d16) [], .nil, .lit (.int .i64 2)] := by
    have := hyd.symm.trans (congrArg (·.1) hy2)
    exact (DataW.agg.inj this).symm
  simp only [List.cons.injEq, and_true] at hparts
  obtain ⟨q0, q1, q2⟩ := hparts
  have hf0 : W.noneFrozen y0.2 := by rw [congrArg (·.2) hy2] at hyf; exact noneFrozen_mem hyf (by simp)
  obtain ⟨z2, e2, hz2, -⟩ := DataW.trod_int Tryz.underlying3 g2
  obtain rfl : v2 = .int .i64 z2 := by simpa using e2
  subst hz2
  obtain rfl : z2 = 2 := by simpa using q2
  have e1 : v1 = .slice none 0 0 := by
    rcases DataW.trod_slice Tryz.underlying192 g1 with ⟨e, -⟩ | ⟨_, _, _, _, _, _, _, _, hx1, _⟩
    · simpa using e
    · rw [hx1] at q1; cases q1
  subst e1
  cases n' with
  | zero => simp [DataW.trod] at g0
  | succ n' =>
  have hsz : Sz Tryz.prog 191 y0.1 := by
    rw [q0]
    have hall : ((DataW.weights Tryz.prog 191 (DataW.slice (whiteL.map d16) [])).all fun z => decide (z ≤ reachBytes)) = true := by kernel_rfl
    intro z hz
    exact of_decide_eq_true (List.all_eq_true.1 hall z hz)
  obtain ⟨A, k, ys, ds, es, e1, hrow, e3, e4⟩ := slice_rdW k16 (fun u p => u = d16 p) (fun v l => v = l.map d16) rfl (fun u v x r a b => by rw [a, b]; rfl) Tryz.underlying191 cells197
    (fun cs' x hx' _ _ => by obtain ⟨p, a, b⟩ := r16_rd _ _ _ hx'; exact ⟨p, a, b⟩) [v0] y0 g0 hf0 hsz
  obtain rfl : v0 = .slice A ys.length k := by simpa using e1
  rcases e4 with ⟨e4, -⟩ | ⟨e4, e5⟩
  · rw [q0] at e4; cases e4
  rw [q0] at e4
  obtain ⟨e6, e7⟩ := DataW.slice.inj e4
  rw [e3] at e6
  obtain rfl : whiteL = ys := d16_inj e6
  obtain ⟨bA, offA, cA, rfl, -, -, -⟩ := hrow.at 0 (by decide)
  have e8 := e5 _ rfl rfl
  subst e7
  obtain rfl : k = 7 := by rw [e8]; rfl
  obtain ⟨-, -, hall⟩ := World.cells?_some hcells
  obtain ⟨T, oT, spot⟩ := a
  have c0 := hall 0 (by omega)
  have hspot : spot = none := by simpa [Addr.add] using World.cell?_spot (c0.trans rfl)
  subst hspot
  have c1 := hall 1 (by omega)
  have c2 := hall 2 (by omega)
  rw [add_plain] at c0 c1 c2
  refine ⟨T, oT, bA, offA, ?_, c0, c1, c2, fun i hi => ?_⟩
  · rw [World.var?_cell hg hv 0]
    have : cs.toList[0]? = some (.pointer (some ⟨T, oT, none⟩)) := by rw [hcs]; rfl
    simpa using this
  · obtain ⟨b', o', c', eA, -, hK, hcell⟩ := hrow.at (i / 3) (by show i / 3 < 7; omega)
    obtain ⟨rfl, rfl⟩ : bA = b' ∧ offA = o' := by simpa using eA
    obtain rfl : c' = _ := hK
    have hv2 : (enc16 (whiteL[i / 3]'(by show i / 3 < 7; omega)))[i % 3]? = some (.int .u16 (Lib.whiteT.getD i 0)) := by
      have hall : ((List.range 21).all fun i => decide (((whiteL.getD (i / 3) (0, 0, 0)).1 :: [(whiteL.getD (i / 3) (0, 0, 0)).2.1, (whiteL.getD (i / 3) (0, 0, 0)).2.2])[i % 3]? = some ((Lib.whiteT.getD i 0 : Nat) : Int))) = true := by kernel_rfl
      have h3 := of_decide_eq_true (List.all_eq_true.1 hall i (List.mem_range.2 hi))
      rw [List.getD_eq_getElem?_getD, show whiteL[i / 3]? = some (whiteL[i / 3]'(by show i / 3 < 7; omega)) from List.getElem?_eq_getElem _, Option.getD_some] at h3
      have h4 : enc16 (whiteL[i / 3]'(by show i / 3 < 7; omega)) = ((whiteL[i / 3]'(by show i / 3 < 7; omega)).1 :: [(whiteL[i / 3]'(by show i / 3 < 7; omega)).2.1, (whiteL[i / 3]'(by show i / 3 < 7; omega)).2.2]).map (Value.int .u16) := rfl
      rw [h4, List.getElem?_map, h3]; rfl
    have h5 := hcell (i % 3) _ hv2
    have e9 : offA + i / 3 * k16.sz + i % 3 = offA + i := by show offA + i / 3 * 3 + i % 3 = offA + i; omega
    rw [e9] at h5
    exact h5

/-- all that the walks ask of the package variables -/
theorem wox_of {W : World} {laid : List (String × DataW Unit)} (h : laidMet Tryz.prog laid W) (hsh : W.ShapedOpen Tryz.prog) (h1 : ("unicode/utf8.first", Rows.laid_unicode_utf8_first) ∈ laid) (h2 : ("unicode/utf8.acceptRanges", Rows.laid_unicode_utf8_acceptRanges) ∈ laid)
    (h3 : ("gimlet/chars.ranges", Rows.laid_gimlet_chars_ranges) ∈ laid) (h4 : ("unicode.White_Space", Rows.laid_unicode_White_Space) ∈ laid) (h5 : ("strings.asciiSpace", Rows.laid_strings_asciiSpace) ∈ laid) : WOX W :=
  ⟨⟨ranges_of h h3, utf8_of h h1 h2, Go.Proofs.cell_of_shapedOpen_int (zero := #[.int .i64 0]) (t := 3) hsh (of_decide_eq_true (by kernel_rfl)) (by kernel_rfl) rfl (by kernel_rfl) (by kernel_rfl) Tryz.underlying3⟩, (ascii_of h h5).1, white_of h h4, (ascii_of h h5).2⟩
end Go.Proofs.YtbbmmeaicilabaaGreatDoor
