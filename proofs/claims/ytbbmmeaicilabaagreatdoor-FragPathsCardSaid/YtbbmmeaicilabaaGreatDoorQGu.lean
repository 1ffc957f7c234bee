/- gimletref13: Expr, one level; dos, meet. Conditions: the expression lies in memory as a tree of a query's shape; what Expr and Path answer below is known. -/
import Derived.Test.YtbbmmeaicilabaaGreatDoorQGt
set_option linter.unusedVariables false
set_option linter.unusedSimpArgs false
namespace Go.Proofs.YtbbmmeaicilabaaGreatDoor
open Go.RowKit

/-- what 'Path' answers of one path -/
def RPathAt (f : Expr → Expr) (p : List Step) : Prop := ∀ (A : Option Addr) (ca : Nat) (w : World) ok, RowK kS w ok A p → Calls Tryz.prog 33 #[.agg #[.slice A p.length ca]] w fun e w' => ∃ A' c', e = .returned (.agg #[.slice A' (pathF f p).length c']) ∧ RowK kS w' (fun k => w.heap.size ≤ k) A' (pathF f p) ∧ Below w.heap.size w w'

set_option maxRecDepth 100000 in
set_option maxHeartbeats 4000000 in
theorem rexpr_ands (f : Expr → Expr) (x : Expr) (h0 : x.op = 0) (hw : wtE x ≤ 1000000) (hl : ∀ y ∈ x.args, Light f y) (H : Hid (∀ y ∈ x.args, RefAt f y)) : RefAt (exprF f (pathF f)) x := by
  intro cs w ok hx
  rw [exprF_0 _ _ _ h0]
  have hsz2 : wtEs (spreadF f 0 x.args) ≤ 1000000 := by
    have h1 := (spread_light f (.inl rfl) x.args hl).2
    have h2 : wtEs x.args ≤ wtE x := by cases x; simp only [wtE, Expr.args]; omega
    omega
  have HJ := Lib.hid (fun cx (W : World) (hW : RE W ok x cx) => rjoined_ands f x cx W ok hW h0 hsz2 H)
  have HX := Lib.hid hx
  obtain ⟨Aa, ca, As, cp, rfl, -, -⟩ := hx.rows
  clear hl hw hx hsz2 H
  generalize hr : joinF 0 (andsF f x.args) eTrue = r at *
  clear hr
  obtain ⟨op, xs, ps, at', cm, tx, nu⟩ := x
  simp only [Expr.op] at h0
  subst h0
  simp only [Expr.op, Expr.args, Expr.path, Expr.attr, Expr.cmp, Expr.text, Expr.num] at HX ⊢
  go_enter Tryz.func113, Tryz.ntmps113
  go_wp2_with fail
  refine (HJ.out [.int .i64 0, .slice Aa xs.length ca, .slice As ps.length cp, .string at', .int .i64 cm, .string tx, .int .i64 nu] _ ((HX.out).al.al)).mono ?_
  rintro e w3 ⟨cs, rfl, hR3, hb3⟩
  obtain ⟨A3, c3, S3, d3, rfl, -, -⟩ := hR3.rows
  have hs3 : w.heap.size + 1 < w3.heap.size := by have := hb3.size; simp at this; omega
  have hB3 : Below w.heap.size w w3 := al2 (Nat.le_refl _) hb3
  have RB := (Blk.new (w.alloc _) _ _).below hb3
  simp only [World.size_alloc] at RB
  have r0 := (RB).cell 0
  have r1 := (RB).cell 1
  have r2 := (RB).cell 2
  have r3 := (RB).cell 3
  have r4 := (RB).cell 4
  have r5 := (RB).cell 5
  have r6 := (RB).cell 6
  simp at r0 r1 r2 r3 r4 r5 r6
  have rf := fun o => (RB).frozen o
  go_wp2_with fail
  refine bodyPost_ret (v := .agg ([.int .i64 r.op, .slice A3 r.args.length c3, .slice S3 r.path.length d3, .string r.attr, .int .i64 r.cmp, .string r.text, .int .i64 r.num]).toArray) ?h1 rfl ⟨_, rfl, ?h2, ?h3⟩
  case h1 => simp [results, Tryz.results113, go_sem, r0, r1, r2, r3, r4, r5, r6]
  case h3 => exact (by repeat' (first | with_reducible exact Below.refl _ _ | with_reducible assumption | with_reducible refine Below.alloc ?_ ?_ _ | with_reducible refine Below.setCell ?_ ?_ _ | with_reducible refine Below.drew ?_ | with_reducible refine below_dn ?_ | omega | (simp; done) | (simp; omega)))
  case h2 => exact ((RE.mono (ok' := fun k => w.heap.size + 2 ≤ k) (by simp) hR3).chg (p := fun k => k = w.heap.size + 1) (by repeat' (first | with_reducible exact Chg.refl _ _ | with_reducible assumption | with_reducible refine Chg.al ?_ | with_reducible refine Chg.set ?_ ?_ | with_reducible refine Chg.dr ?_ | with_reducible refine Chg.dn ?_ | with_reducible rfl | omega | (simp; done) | (simp; omega))) (by intro k hk; omega)).mono (by intro k hk; omega)
set_option maxRecDepth 100000 in
set_option maxHeartbeats 4000000 in
theorem rexpr_ors (f : Expr → Expr) (x : Expr) (h0 : x.op = 1) (hw : wtE x ≤ 1000000) (hl : ∀ y ∈ x.args, Light f y) (H : Hid (∀ y ∈ x.args, RefAt f y)) : RefAt (exprF f (pathF f)) x := by
  intro cs w ok hx
  rw [exprF_1 _ _ _ h0]
  have hsz2 : wtEs (spreadF f 1 x.args) ≤ 1000000 := by
    have h1 := (spread_light f (.inr rfl) x.args hl).2
    have h2 : wtEs x.args ≤ wtE x := by cases x; simp only [wtE, Expr.args]; omega
    omega
  have HJ := Lib.hid (fun cx (W : World) (hW : RE W ok x cx) => rjoined_ors f x cx W ok hW h0 hsz2 H)
  have HX := Lib.hid hx
  obtain ⟨Aa, ca, As, cp, rfl, -, -⟩ := hx.rows
  clear hl hw hx hsz2 H
  generalize hr : joinF 1 (orsF f x.args) eFalse = r at *
  clear hr
  obtain ⟨op, xs, ps, at', cm, tx, nu⟩ := x
  simp only [Expr.op] at h0
  subst h0
  simp only [Expr.op, Expr.args, Expr.path, Expr.attr, Expr.cmp, Expr.text, Expr.num] at HX ⊢
  go_enter Tryz.func113, Tryz.ntmps113
  go_wp2_with fail
  refine (HJ.out [.int .i64 1, .slice Aa xs.length ca, .slice As ps.length cp, .string at', .int .i64 cm, .string tx, .int .i64 nu] _ ((HX.out).al.al)).mono ?_
  rintro e w3 ⟨cs, rfl, hR3, hb3⟩
  obtain ⟨A3, c3, S3, d3, rfl, -, -⟩ := hR3.rows
  have hs3 : w.heap.size + 1 < w3.heap.size := by have := hb3.size; simp at this; omega
  have hB3 : Below w.heap.size w w3 := al2 (Nat.le_refl _) hb3
  have RB := (Blk.new (w.alloc _) _ _).below hb3
  simp only [World.size_alloc] at RB
  have r0 := (RB).cell 0
  have r1 := (RB).cell 1
  have r2 := (RB).cell 2
  have r3 := (RB).cell 3
  have r4 := (RB).cell 4
  have r5 := (RB).cell 5
  have r6 := (RB).cell 6
  simp at r0 r1 r2 r3 r4 r5 r6
  have rf := fun o => (RB).frozen o
  go_wp2_with fail
  refine bodyPost_ret (v := .agg ([.int .i64 r.op, .slice A3 r.args.length c3, .slice S3 r.path.length d3, .string r.attr, .int .i64 r.cmp, .string r.text, .int .i64 r.num]).toArray) ?h1 rfl ⟨_, rfl, ?h2, ?h3⟩
  case h1 => simp [results, Tryz.results113, go_sem, r0, r1, r2, r3, r4, r5, r6]
  case h3 => exact (by repeat' (first | with_reducible exact Below.refl _ _ | with_reducible assumption | with_reducible refine Below.alloc ?_ ?_ _ | with_reducible refine Below.setCell ?_ ?_ _ | with_reducible refine Below.drew ?_ | with_reducible refine below_dn ?_ | omega | (simp; done) | (simp; omega)))
  case h2 => exact ((RE.mono (ok' := fun k => w.heap.size + 2 ≤ k) (by simp) hR3).chg (p := fun k => k = w.heap.size + 1) (by repeat' (first | with_reducible exact Chg.refl _ _ | with_reducible assumption | with_reducible refine Chg.al ?_ | with_reducible refine Chg.set ?_ ?_ | with_reducible refine Chg.dr ?_ | with_reducible refine Chg.dn ?_ | with_reducible rfl | omega | (simp; done) | (simp; omega))) (by intro k hk; omega)).mono (by intro k hk; omega)

set_option maxHeartbeats 4000000 in
theorem rexpr_not (f : Expr → Expr) (x : Expr) (h0 : x.op = 2) (h1 : x.args.length = 1) (hl : ∀ y ∈ x.args, Light f y) (H : Hid (∀ y ∈ x.args, RefAt f y)) : RefAt (exprF f (pathF f)) x := by
  intro cs w ok hx
  obtain ⟨Aa, ca, As, cp, rfl, hxa, hxp⟩ := hx.rows
  rw [exprF_2 _ _ _ h0]
  obtain ⟨y, hy⟩ := List.length_eq_one_iff.1 h1
  have HL := hl y (by rw [hy]; simp)
  have HY' := Lib.hid (H.out y (by rw [hy]; simp))
  clear hl H hx
  rw [hy] at hxa h1 ⊢
  simp only [List.headD_cons]
  have hb0 : (x.op == 0) = false := by rw [h0]; rfl
  have hb1 : (x.op == 1) = false := by rw [h0]; rfl
  have hb2 : (x.op == 2) = true := by rw [h0]; rfl
  clear h0 h1 hy
  obtain ⟨y', b, off, Ay, cy, Sy, dy, HY, rfl, hbw, hRy, y0, y1, y2, y3, y4, y5, y6⟩ := hxa.atE 0 (by simp)
  obtain rfl : y = y' := HY.out
  simp only [Nat.zero_mul, Nat.add_zero] at y0 y1 y2 y3 y4 y5 y6
  have hbb : b ≠ w.heap.size := by omega
  have hbb2 : b ≠ w.heap.size + 1 := by omega
  obtain ⟨hsh, -⟩ := HL
  have HQ := HY'.out
  generalize hn : f y = n at *
  unfold RefAt at HQ
  rw [hn] at HQ
  have HQ' := Lib.hid HQ
  clear HQ hn HY'
  clear hxa
  generalize hr : notF n = r
  have HR := Lib.hid hr
  clear hr
  go_enter Tryz.func113, Tryz.ntmps113
  go_wp2_with fail
  refine (HQ' _ _ ok hRy.al.al).mono ?_
  rintro e w1 ⟨cs, rfl, hR1, hb1⟩
  obtain ⟨An, cn, Sn, dn, rfl, hn1, hn2⟩ := hR1.rows
  have hs1 : w.heap.size + 1 < w1.heap.size := by have := hb1.size; simp at this; omega
  have hs0 : w.heap.size < w1.heap.size := by omega
  have hB1 : Below w.heap.size w w1 := al2 (Nat.le_refl _) hb1
  have RB := (Blk.new (w.alloc _) _ _).below hb1
  simp only [World.size_alloc] at RB
  have r0 := (RB).cell 0
  have r1 := (RB).cell 1
  have r2 := (RB).cell 2
  have r3 := (RB).cell 3
  have r4 := (RB).cell 4
  have r5 := (RB).cell 5
  have r6 := (RB).cell 6
  simp at r0 r1 r2 r3 r4 r5 r6
  have rf := fun o => (RB).frozen o
  have N1 : w1.heap.size ≠ w.heap.size + 1 := by omega
  by_cases hop : n.op = 2
  · have hnb : (n.op == 2) = true := by rw [hop]; rfl
    have hnl : n.args.length = 1 := by
      cases n with
      | mk o xs ps a c t m => simp only [Expr.op] at hop; subst hop; simp [shE] at hsh; exact hsh.1.1
    obtain ⟨z, hz⟩ := List.length_eq_one_iff.1 hnl
    have hnot : notF n = z := by unfold notF; rw [if_pos hop, hz]; rfl
    have HRZ := Lib.hid (HR.out.symm.trans hnot)
    rw [hz] at hn1
    obtain ⟨z', b', off', Az, cz, Sz, dz, HZ, rfl, hbz, hRz, z0, z1, z2, z3, z4, z5, z6⟩ := hn1.atE 0 (by simp)
    obtain rfl : z = z' := HZ.out
    simp only [Nat.zero_mul, Nat.add_zero] at z0 z1 z2 z3 z4 z5 z6
    have hbb3 : b' ≠ w1.heap.size := by omega
    have hz0 : (0 : Int) < n.args.length := by omega
    have hz1 : 0 < n.args.length := by omega
    have HN := Lib.hid hnl
    clear hop hnot hnl hz
    go_wp2_with fail
    refine bodyPost_ret (v := .agg ([.int .i64 z.op, .slice Az z.args.length cz, .slice Sz z.path.length dz, .string z.attr, .int .i64 z.cmp, .string z.text, .int .i64 z.num]).toArray) ?h1 rfl ⟨_, rfl, ?h2, ?h3⟩
    case h1 => simp [results, Tryz.results113, go_sem, r0, r1, r2, r3, r4, r5, r6, hs1, hs0]
    case h3 => exact (by repeat' (first | with_reducible exact Below.refl _ _ | with_reducible assumption | with_reducible refine Below.alloc ?_ ?_ _ | with_reducible refine Below.setCell ?_ ?_ _ | with_reducible refine Below.drew ?_ | with_reducible refine below_dn ?_ | omega | (simp; done) | (simp; omega)))
    case h2 => rw [HRZ.out]; exact ((RE.mono (ok' := fun k => w.heap.size + 2 ≤ k) (by simp) hRz).chg (p := fun k => k = w.heap.size + 1) (by repeat' (first | with_reducible exact Chg.refl _ _ | with_reducible assumption | with_reducible refine Chg.al ?_ | with_reducible refine Chg.set ?_ ?_ | with_reducible refine Chg.dr ?_ | with_reducible refine Chg.dn ?_ | with_reducible rfl | omega | (simp; done) | (simp; omega))) (by intro k hk; omega)).mono (by intro k hk; omega)
  · have hnb : (n.op == 2) = false := by simp [hop]
    have hnot : notF n = .mk 2 [n] [] ByteArray.empty 0 ByteArray.empty 0 := by unfold notF; rw [if_neg hop]
    have HRZ := Lib.hid (HR.out.symm.trans hnot)
    clear hop hnot
    go_wp2_with fail
    refine bodyPost_ret (v := .agg #[.int .i64 2, .slice (some ⟨w1.heap.size + 1, 0, none⟩) 1 1, .slice none 0 0, .string ⟨#[]⟩, .int .i64 0, .string ⟨#[]⟩, .int .i64 0]) ?h1 rfl ⟨[.int .i64 2, .slice (some ⟨w1.heap.size + 1, 0, none⟩) 1 1, .slice none 0 0, .string ⟨#[]⟩, .int .i64 0, .string ⟨#[]⟩, .int .i64 0], rfl, ?h2, ?h3⟩
    case h1 => simp [results, Tryz.results113, go_sem, r0, r1, r2, r3, r4, r5, r6, hs1, hs0]
    case h3 => exact (by repeat' (first | with_reducible exact Below.refl _ _ | with_reducible assumption | with_reducible refine Below.alloc ?_ ?_ _ | with_reducible refine Below.setCell ?_ ?_ _ | with_reducible refine Below.drew ?_ | with_reducible refine below_dn ?_ | omega | (simp; done) | (simp; omega)))
    case h2 =>
      rw [HRZ.out]
      refine RE.of_rows (x := .mk 2 [n] [] ByteArray.empty 0 ByteArray.empty 0) (ca := 1) (cp := 0) (RowK.oneEc (hf := ?_) n An cn Sn dn (by omega) (((RE.mono (ok' := fun k => w.heap.size + 2 ≤ k) (by simp) hR1).chg (p := fun k => k = w.heap.size + 1) (by repeat' (first | with_reducible exact Chg.refl _ _ | with_reducible assumption | with_reducible refine Chg.al ?_ | with_reducible refine Chg.set ?_ ?_ | with_reducible refine Chg.dr ?_ | with_reducible refine Chg.dn ?_ | with_reducible rfl | omega | (simp; done) | (simp; omega))) (by intro k hk; omega)).mono (by intro k hk; omega)) ?_ ?_ ?_ ?_ ?_ ?_ ?_) (RowK.nil _ _ _)
      all_goals simp [go_sem]

set_option maxHeartbeats 8000000 in
theorem rexpr_some (f : Expr → Expr) (x : Expr) (h0 : x.op = 3) (h1 : x.args = []) (HP : Hid (RPathAt f x.path)) : RefAt (exprF f (pathF f)) x := by
  intro cs w ok hx
  obtain ⟨Aa, ca, As, cp, rfl, hxa, hxp⟩ := hx.rows
  rw [exprF_3 _ _ _ (by omega) (by omega) (by omega)]
  have hb0 : (x.op == 0) = false := by rw [h0]; rfl
  have hb1 : (x.op == 1) = false := by rw [h0]; rfl
  have hb2 : (x.op == 2) = false := by rw [h0]; rfl
  have HO := Lib.hid h0
  have HX := Lib.hid h1
  clear h0 h1 hx hxa
  generalize hc : cmpF x = c
  have HC := Lib.hid hc
  clear hc
  go_enter Tryz.func113, Tryz.ntmps113
  go_wp2_with fail
  refine (HP.out As cp _ ok (hxp.al.al.al)).mono ?_
  rintro e w1 ⟨A1, c1, rfl, hr1, hb1⟩
  have hs1 : w.heap.size + 2 < w1.heap.size := by have := hb1.size; simp at this; omega
  have hs0 : w.heap.size + 1 < w1.heap.size := by omega
  have hB1 : Below w.heap.size w w1 := al3 (Nat.le_refl _) hb1
  have YB := (Blk.new ((w.alloc _).alloc _) _ _).below hb1
  have RB := ((Blk.new (w.alloc _) _ _).al _).below hb1
  have XB := (((Blk.new w _ _).al _).al _).below hb1
  simp only [World.size_alloc] at RB YB
  have r0 := (RB).cell 0
  have r1 := (RB).cell 1
  have r2 := (RB).cell 2
  have r3 := (RB).cell 3
  have r4 := (RB).cell 4
  have r5 := (RB).cell 5
  have r6 := (RB).cell 6
  simp at r0 r1 r2 r3 r4 r5 r6
  have rf := fun o => (RB).frozen o
  have y0 := (YB).cell 0
  have y1 := (YB).cell 1
  have y2 := (YB).cell 2
  have y3 := (YB).cell 3
  have y4 := (YB).cell 4
  have y5 := (YB).cell 5
  have y6 := (YB).cell 6
  simp at y0 y1 y2 y3 y4 y5 y6
  have yf := fun o => (YB).frozen o
  have x0 := (XB).cell 0
  have x1 := (XB).cell 1
  have x2 := (XB).cell 2
  have x3 := (XB).cell 3
  have x4 := (XB).cell 4
  have x5 := (XB).cell 5
  have x6 := (XB).cell 6
  simp at x0 x1 x2 x3 x4 x5 x6
  have xf := fun o => (XB).frozen o
  go_wp2_with fail
  · have hc0 : c = 0 := by rw [← HC.out]; unfold cmpF; simp_all [str_eq, empty_toList]
    refine bodyPost_ret (v := .agg #[.int .i64 x.op, .slice Aa x.args.length ca, .slice A1 (pathF f x.path).length c1, .string x.attr, .int .i64 0, .string x.text, .int .i64 x.num]) ?h1 rfl ⟨[.int .i64 x.op, .slice Aa x.args.length ca, .slice A1 (pathF f x.path).length c1, .string x.attr, .int .i64 0, .string x.text, .int .i64 x.num], rfl, ?h2, ?h3⟩
    case h1 => simp [results, Tryz.results113, go_sem, r0, r1, r2, r3, r4, r5, r6, y0, y1, y2, y3, y4, y5, y6]
    case h3 => exact (by repeat' (first | with_reducible exact Below.refl _ _ | with_reducible assumption | with_reducible refine Below.alloc ?_ ?_ _ | with_reducible refine Below.setCell ?_ ?_ _ | with_reducible refine Below.drew ?_ | with_reducible refine below_dn ?_ | omega | (simp; done) | (simp; omega)))
    case h2 =>
      rw [hc0]
      refine RE.of_rows (x := .mk x.op x.args (pathF f x.path) x.attr 0 x.text x.num) ?h4 ?h5
      case h4 => show RowK kE _ _ Aa x.args; rw [HX.out]; exact RowK.nil _ _ _
      case h5 => exact ((hr1.mono (ok' := fun k => w.heap.size + 3 ≤ k) (by simp)).chg (p := fun k => k ≤ w.heap.size + 2) (by repeat' (first | with_reducible exact Chg.refl _ _ | with_reducible assumption | with_reducible refine Chg.al ?_ | with_reducible refine Chg.set ?_ ?_ | with_reducible refine Chg.dr ?_ | with_reducible refine Chg.dn ?_ | with_reducible rfl | omega | (simp; done) | (simp; omega))) (by intro k hk; omega)).mono (by intro k hk; omega)
  · have hc0 : c = 3 := by rw [← HC.out]; unfold cmpF; simp_all [str_eq, empty_toList]
    refine bodyPost_ret (v := .agg #[.int .i64 x.op, .slice Aa x.args.length ca, .slice A1 (pathF f x.path).length c1, .string x.attr, .int .i64 3, .string x.text, .int .i64 x.num]) ?h1 rfl ⟨[.int .i64 x.op, .slice Aa x.args.length ca, .slice A1 (pathF f x.path).length c1, .string x.attr, .int .i64 3, .string x.text, .int .i64 x.num], rfl, ?h2, ?h3⟩
    case h1 => simp [results, Tryz.results113, go_sem, r0, r1, r2, r3, r4, r5, r6, y0, y1, y2, y3, y4, y5, y6]
    case h3 => exact (by repeat' (first | with_reducible exact Below.refl _ _ | with_reducible assumption | with_reducible refine Below.alloc ?_ ?_ _ | with_reducible refine Below.setCell ?_ ?_ _ | with_reducible refine Below.drew ?_ | with_reducible refine below_dn ?_ | omega | (simp; done) | (simp; omega)))
    case h2 =>
      rw [hc0]
      refine RE.of_rows (x := .mk x.op x.args (pathF f x.path) x.attr 3 x.text x.num) ?h4 ?h5
      case h4 => show RowK kE _ _ Aa x.args; rw [HX.out]; exact RowK.nil _ _ _
      case h5 => exact ((hr1.mono (ok' := fun k => w.heap.size + 3 ≤ k) (by simp)).chg (p := fun k => k ≤ w.heap.size + 2) (by repeat' (first | with_reducible exact Chg.refl _ _ | with_reducible assumption | with_reducible refine Chg.al ?_ | with_reducible refine Chg.set ?_ ?_ | with_reducible refine Chg.dr ?_ | with_reducible refine Chg.dn ?_ | with_reducible rfl | omega | (simp; done) | (simp; omega))) (by intro k hk; omega)).mono (by intro k hk; omega)
  · have hc0 : c = 0 := by rw [← HC.out]; unfold cmpF; simp_all [str_eq, empty_toList]
    refine bodyPost_ret (v := .agg #[.int .i64 x.op, .slice Aa x.args.length ca, .slice A1 (pathF f x.path).length c1, .string x.attr, .int .i64 0, .string x.text, .int .i64 x.num]) ?h1 rfl ⟨[.int .i64 x.op, .slice Aa x.args.length ca, .slice A1 (pathF f x.path).length c1, .string x.attr, .int .i64 0, .string x.text, .int .i64 x.num], rfl, ?h2, ?h3⟩
    case h1 => simp [results, Tryz.results113, go_sem, r0, r1, r2, r3, r4, r5, r6, y0, y1, y2, y3, y4, y5, y6]
    case h3 => exact (by repeat' (first | with_reducible exact Below.refl _ _ | with_reducible assumption | with_reducible refine Below.alloc ?_ ?_ _ | with_reducible refine Below.setCell ?_ ?_ _ | with_reducible refine Below.drew ?_ | with_reducible refine below_dn ?_ | omega | (simp; done) | (simp; omega)))
    case h2 =>
      rw [hc0]
      refine RE.of_rows (x := .mk x.op x.args (pathF f x.path) x.attr 0 x.text x.num) ?h4 ?h5
      case h4 => show RowK kE _ _ Aa x.args; rw [HX.out]; exact RowK.nil _ _ _
      case h5 => exact ((hr1.mono (ok' := fun k => w.heap.size + 3 ≤ k) (by simp)).chg (p := fun k => k ≤ w.heap.size + 2) (by repeat' (first | with_reducible exact Chg.refl _ _ | with_reducible assumption | with_reducible refine Chg.al ?_ | with_reducible refine Chg.set ?_ ?_ | with_reducible refine Chg.dr ?_ | with_reducible refine Chg.dn ?_ | with_reducible rfl | omega | (simp; done) | (simp; omega))) (by intro k hk; omega)).mono (by intro k hk; omega)
  · have hc0 : c = 4 := by rw [← HC.out]; unfold cmpF; simp_all [str_eq, empty_toList]
    refine bodyPost_ret (v := .agg #[.int .i64 x.op, .slice Aa x.args.length ca, .slice A1 (pathF f x.path).length c1, .string x.attr, .int .i64 4, .string x.text, .int .i64 x.num]) ?h1 rfl ⟨[.int .i64 x.op, .slice Aa x.args.length ca, .slice A1 (pathF f x.path).length c1, .string x.attr, .int .i64 4, .string x.text, .int .i64 x.num], rfl, ?h2, ?h3⟩
    case h1 => simp [results, Tryz.results113, go_sem, r0, r1, r2, r3, r4, r5, r6, y0, y1, y2, y3, y4, y5, y6]
    case h3 => exact (by repeat' (first | with_reducible exact Below.refl _ _ | with_reducible assumption | with_reducible refine Below.alloc ?_ ?_ _ | with_reducible refine Below.setCell ?_ ?_ _ | with_reducible refine Below.drew ?_ | with_reducible refine below_dn ?_ | omega | (simp; done) | (simp; omega)))
    case h2 =>
      rw [hc0]
      refine RE.of_rows (x := .mk x.op x.args (pathF f x.path) x.attr 4 x.text x.num) ?h4 ?h5
      case h4 => show RowK kE _ _ Aa x.args; rw [HX.out]; exact RowK.nil _ _ _
      case h5 => exact ((hr1.mono (ok' := fun k => w.heap.size + 3 ≤ k) (by simp)).chg (p := fun k => k ≤ w.heap.size + 2) (by repeat' (first | with_reducible exact Chg.refl _ _ | with_reducible assumption | with_reducible refine Chg.al ?_ | with_reducible refine Chg.set ?_ ?_ | with_reducible refine Chg.dr ?_ | with_reducible refine Chg.dn ?_ | with_reducible rfl | omega | (simp; done) | (simp; omega))) (by intro k hk; omega)).mono (by intro k hk; omega)
  · have hc0 : c = 0 := by rw [← HC.out]; unfold cmpF; simp_all [str_eq, empty_toList]
    refine bodyPost_ret (v := .agg #[.int .i64 x.op, .slice Aa x.args.length ca, .slice A1 (pathF f x.path).length c1, .string x.attr, .int .i64 0, .string x.text, .int .i64 x.num]) ?h1 rfl ⟨[.int .i64 x.op, .slice Aa x.args.length ca, .slice A1 (pathF f x.path).length c1, .string x.attr, .int .i64 0, .string x.text, .int .i64 x.num], rfl, ?h2, ?h3⟩
    case h1 => simp [results, Tryz.results113, go_sem, r0, r1, r2, r3, r4, r5, r6, y0, y1, y2, y3, y4, y5, y6]
    case h3 => exact (by repeat' (first | with_reducible exact Below.refl _ _ | with_reducible assumption | with_reducible refine Below.alloc ?_ ?_ _ | with_reducible refine Below.setCell ?_ ?_ _ | with_reducible refine Below.drew ?_ | with_reducible refine below_dn ?_ | omega | (simp; done) | (simp; omega)))
    case h2 =>
      rw [hc0]
      refine RE.of_rows (x := .mk x.op x.args (pathF f x.path) x.attr 0 x.text x.num) ?h4 ?h5
      case h4 => show RowK kE _ _ Aa x.args; rw [HX.out]; exact RowK.nil _ _ _
      case h5 => exact ((hr1.mono (ok' := fun k => w.heap.size + 3 ≤ k) (by simp)).chg (p := fun k => k ≤ w.heap.size + 2) (by repeat' (first | with_reducible exact Chg.refl _ _ | with_reducible assumption | with_reducible refine Chg.al ?_ | with_reducible refine Chg.set ?_ ?_ | with_reducible refine Chg.dr ?_ | with_reducible refine Chg.dn ?_ | with_reducible rfl | omega | (simp; done) | (simp; omega))) (by intro k hk; omega)).mono (by intro k hk; omega)
  · have hc0 : c = 5 := by rw [← HC.out]; unfold cmpF; simp_all [str_eq, empty_toList]
    refine bodyPost_ret (v := .agg #[.int .i64 x.op, .slice Aa x.args.length ca, .slice A1 (pathF f x.path).length c1, .string x.attr, .int .i64 5, .string x.text, .int .i64 x.num]) ?h1 rfl ⟨[.int .i64 x.op, .slice Aa x.args.length ca, .slice A1 (pathF f x.path).length c1, .string x.attr, .int .i64 5, .string x.text, .int .i64 x.num], rfl, ?h2, ?h3⟩
    case h1 => simp [results, Tryz.results113, go_sem, r0, r1, r2, r3, r4, r5, r6, y0, y1, y2, y3, y4, y5, y6]
    case h3 => exact (by repeat' (first | with_reducible exact Below.refl _ _ | with_reducible assumption | with_reducible refine Below.alloc ?_ ?_ _ | with_reducible refine Below.setCell ?_ ?_ _ | with_reducible refine Below.drew ?_ | with_reducible refine below_dn ?_ | omega | (simp; done) | (simp; omega)))
    case h2 =>
      rw [hc0]
      refine RE.of_rows (x := .mk x.op x.args (pathF f x.path) x.attr 5 x.text x.num) ?h4 ?h5
      case h4 => show RowK kE _ _ Aa x.args; rw [HX.out]; exact RowK.nil _ _ _
      case h5 => exact ((hr1.mono (ok' := fun k => w.heap.size + 3 ≤ k) (by simp)).chg (p := fun k => k ≤ w.heap.size + 2) (by repeat' (first | with_reducible exact Chg.refl _ _ | with_reducible assumption | with_reducible refine Chg.al ?_ | with_reducible refine Chg.set ?_ ?_ | with_reducible refine Chg.dr ?_ | with_reducible refine Chg.dn ?_ | with_reducible rfl | omega | (simp; done) | (simp; omega))) (by intro k hk; omega)).mono (by intro k hk; omega)
  · have hc0 : c = x.cmp := by rw [← HC.out]; unfold cmpF; simp_all [str_eq, empty_toList]
    refine bodyPost_ret (v := .agg #[.int .i64 x.op, .slice Aa x.args.length ca, .slice A1 (pathF f x.path).length c1, .string x.attr, .int .i64 x.cmp, .string x.text, .int .i64 x.num]) ?h1 rfl ⟨[.int .i64 x.op, .slice Aa x.args.length ca, .slice A1 (pathF f x.path).length c1, .string x.attr, .int .i64 x.cmp, .string x.text, .int .i64 x.num], rfl, ?h2, ?h3⟩
    case h1 => simp [results, Tryz.results113, go_sem, r0, r1, r2, r3, r4, r5, r6, y0, y1, y2, y3, y4, y5, y6]
    case h3 => exact (by repeat' (first | with_reducible exact Below.refl _ _ | with_reducible assumption | with_reducible refine Below.alloc ?_ ?_ _ | with_reducible refine Below.setCell ?_ ?_ _ | with_reducible refine Below.drew ?_ | with_reducible refine below_dn ?_ | omega | (simp; done) | (simp; omega)))
    case h2 =>
      rw [hc0]
      refine RE.of_rows (x := .mk x.op x.args (pathF f x.path) x.attr x.cmp x.text x.num) ?h4 ?h5
      case h4 => show RowK kE _ _ Aa x.args; rw [HX.out]; exact RowK.nil _ _ _
      case h5 => exact ((hr1.mono (ok' := fun k => w.heap.size + 3 ≤ k) (by simp)).chg (p := fun k => k ≤ w.heap.size + 2) (by repeat' (first | with_reducible exact Chg.refl _ _ | with_reducible assumption | with_reducible refine Chg.al ?_ | with_reducible refine Chg.set ?_ ?_ | with_reducible refine Chg.dr ?_ | with_reducible refine Chg.dn ?_ | with_reducible rfl | omega | (simp; done) | (simp; omega))) (by intro k hk; omega)).mono (by intro k hk; omega)
end Go.Proofs.YtbbmmeaicilabaaGreatDoor
