/- ask's parser: one (a part of an expression). Conditions: the words lie in memory; what reads an expression or a path does so by its contract. -/
import Derived.Test.YtbbmmeaicilabaaGreatDoorQJm
set_option linter.unusedVariables false
set_option linter.unusedSimpArgs false
namespace Go.Proofs.YtbbmmeaicilabaaGreatDoor
open Go.RowKit

theorem bracket_ne {or : List Wd → Int → Ans Expr} {ne : Int} {ws : List Wd} {op : Int} (h : pEnter ne ⟨#[40]⟩ ws op = none) : pBracket or ne ws op = none := by unfold pBracket; rw [h]
theorem enter_op {ne : Int} {s : ByteArray} {ws t : List Wd} {op o : Int} (h : pEnter ne s ws op = some (t, o)) : o = op + 1 ∧ t = ws.tail ∧ signB ws 0 s = true := by
  unfold pEnter at h
  split at h
  · rename_i hs; cases h; simp at hs; exact ⟨rfl, rfl, hs.1⟩
  · cases h
theorem leave_op {s : ByteArray} {ws t : List Wd} {op o : Int} (h : pLeave s ws op = some (t, o)) : o = op - 1 := by
  unfold pLeave at h
  split at h
  · cases h; rfl
  · cases h

set_option maxRecDepth 100000 in
set_option maxHeartbeats 16000000 in
theorem one_any (L L' : Nat) (hLL : L ≤ L' + 1) (ne : Int) (or sm : List Wd → Int → Ans Expr) (H : Reads 122 L' ne or) (H' : Reads 161 L ne sm) : Reads 154 L ne (pOne or sm ne) := by
  intro w pb ok ws A c e0 e1 e2 e3 op hL h hpw h0 h1 hne
  have hpb := h.blk.lt
  obtain ⟨W0, hW0⟩ : ∃ W, W = w.alloc (.cells #[.int .i64 0, .slice none 0 0, .slice none 0 0, .string ⟨#[]⟩, .int .i64 0, .string ⟨#[]⟩, .int .i64 0] 64) := ⟨_, rfl⟩
  have S0 : St w pb ok ws e0 e1 e2 e3 ne op W0 := by rw [hW0]; exact (St.start h hpw h0 h1 hne).al
  have BT : Blk W0 w.heap.size #[.int .i64 0, .slice none 0 0, .slice none 0 0, .string ⟨#[]⟩, .int .i64 0, .string ⟨#[]⟩, .int .i64 0] 64 := by rw [hW0]; exact Blk.new _ _ _
  have hs0 := BT.lt
  have HH := Lib.hid H
  have HM := Lib.hid H'
  obtain ⟨wl, hwl⟩ : ∃ wl, wl = ws := ⟨ws, rfl⟩
  have SC : St w pb ok wl e0 e1 e2 e3 ne op W0 := by rw [hwl]; exact S0
  have hLc : wl.length < L := by rw [hwl]; exact hL
  have HWL := Lib.hid hwl
  clear h H H' hwl
  generalize hr : pOne or sm ne ws op = r
  have HR := Lib.hid hr
  clear hr
  go_enter Tryz.func154, Tryz.ntmps154
  go_wp2_with fail
  rw [← hW0]
  clear hW0
  refine (S0.sign 0 ⟨#[40]⟩).mono ?_
  rintro e w1 ⟨rfl, rfl⟩
  cases hs : signB ws 0 ⟨#[40]⟩
  case' true =>
    have HB : Hid (r = pBracket or ne ws op) := by unfold Hid; rw [← HR.out]; unfold pOne sg; rw [hs]; rfl
    cases hen : pEnter ne ⟨#[40]⟩ ws op
    · have hr2 : r = none := by rw [HB.out, bracket_ne hen]
      subst hr2
      go_wp2_with fail
      refine (S0.enter_no hen).mono ?_
      rintro e w2 ⟨h1', g, rfl, hg⟩
      exact ⟨rfl, h1', g, rfl, hg⟩
    rename_i p1
    obtain ⟨t1, o1⟩ := p1
    obtain ⟨rfl, rfl, -⟩ := enter_op hen
    go_wp2_with fail
    refine (S0.enter_yes hen).mono ?_
    rintro e w2 ⟨rfl, hch2, S2⟩
    have hl2 : ws.tail.length < L' := by
      obtain ⟨y0, y1, hy⟩ := signB_cons hs
      rw [hy] at hL ⊢
      simp only [List.length_cons, List.tail_cons] at hL ⊢
      omega
    cases hor : or ws.tail (op + 1)
    · have hr2 : r = none := by rw [HB.out]; unfold pBracket; rw [hen]; simp only [hor]
      subst hr2
      go_wp2_with fail
      refine (S2.read_no HH.out hl2 hor).mono ?_
      rintro e w3 ⟨h1', g, rfl, hg⟩
      exact ⟨rfl, h1', g, rfl, hg⟩
    rename_i p2
    obtain ⟨x, t2, o2⟩ := p2
    go_wp2_with fail
    refine (S2.read_yes HH.out hl2 hor).mono ?_
    rintro e w3 ⟨⟨cs, rfl, hre⟩, hch3, S3, rfl⟩
    obtain ⟨Aa, ca, As, cp, rfl, hra, hrp⟩ := hre.rows
    have hs23 := hch2.size
    have hs34 := hch3.size
    have BX := Blk.new w3 #[.int .i64 x.op, .slice Aa x.args.length ca, .slice As x.path.length cp, .string x.attr, .int .i64 x.cmp, .string x.text, .int .i64 x.num] 64
    have BT4 := ((BT.chg hch2 (by omega)).chg hch3 (by omega)).al (.cells (#[.int .i64 x.op, .slice Aa x.args.length ca, .slice As x.path.length cp, .string x.attr, .int .i64 x.cmp, .string x.text, .int .i64 x.num]) 64)
    have S4 := S3.al (o := .cells (#[.int .i64 x.op, .slice Aa x.args.length ca, .slice As x.path.length cp, .string x.attr, .int .i64 x.cmp, .string x.text, .int .i64 x.num]) 64)
    have hre4 : RE _ (fun k => w2.heap.size ≤ k ∧ k < w3.heap.size) x _ := RE.al (o := .cells (#[.int .i64 x.op, .slice Aa x.args.length ca, .slice As x.path.length cp, .string x.attr, .int .i64 x.cmp, .string x.text, .int .i64 x.num]) 64) (Knd.move kE (w1 := w3) (Nat.le_refl _) (fun _ _ _ => rfl) hre)
    go_wp2_with fail
    generalize w3.alloc (.cells (#[.int .i64 x.op, .slice Aa x.args.length ca, .slice As x.path.length cp, .string x.attr, .int .i64 x.cmp, .string x.text, .int .i64 x.num]) 64) = w4 at *
    cases hle : pLeave ⟨#[41]⟩ t2 (op + 1)
    · have hr2 : r = none := by rw [HB.out]; unfold pBracket; rw [hen]; simp only [hor, hle]
      subst hr2
      refine (S4.leave_no hle).mono ?_
      rintro e w5 ⟨h1', g, rfl, hg⟩
      exact ⟨rfl, h1', g, rfl, hg⟩
    rename_i p3
    obtain ⟨t3, o3⟩ := p3
    have ho3 := leave_op hle
    obtain rfl : o3 = op := by omega
    clear ho3
    have hr2 : r = some (x, t3, o3) := by rw [HB.out]; unfold pBracket; rw [hen]; simp only [hor, hle]
    subst hr2
    refine (S4.leave_yes (by omega) hle).mono ?_
    rintro e w5 ⟨rfl, hch5, S5⟩
    have BT5 := BT4.chg hch5 (by omega)
    have BX5 := BX.chg hch5 (by omega)
    have hre5 := hre4.chg hch5 (by intro k hk; omega)
    have z0 := (BT5).cell 0
    have z1 := (BT5).cell 1
    have z2 := (BT5).cell 2
    have z3 := (BT5).cell 3
    have z4 := (BT5).cell 4
    have z5 := (BT5).cell 5
    have z6 := (BT5).cell 6
    simp at z0 z1 z2 z3 z4 z5 z6
    have zf := fun o => (BT5).frozen o
    have m0 := (BX5).cell 0
    have m1 := (BX5).cell 1
    have m2 := (BX5).cell 2
    have m3 := (BX5).cell 3
    have m4 := (BX5).cell 4
    have m5 := (BX5).cell 5
    have m6 := (BX5).cell 6
    simp at m0 m1 m2 m3 m4 m5 m6
    have mf := fun o => (BX5).frozen o
    go_wp2_with fail
    refine bodyPost_ret (v := .agg ([.int .i64 x.op, .slice Aa x.args.length ca, .slice As x.path.length cp, .string x.attr, .int .i64 x.cmp, .string x.text, .int .i64 x.num]).toArray) ?h1 rfl ?h2
    case h1 => simp [results, Tryz.results154, go_sem, z0, z1, z2, z3, z4, z5, z6]
    case h2 =>
      refine St.ends ?h3 ?h4
      case h3 => repeat' first | with_reducible exact S5 | with_reducible refine St.set ?_ ?_ | (simp; done)
      case h4 => exact (hre5.chg (p := fun k => k = w.heap.size) (by repeat' (first | with_reducible exact Chg.refl _ _ | with_reducible assumption | with_reducible refine Chg.al ?_ | with_reducible refine Chg.set ?_ ?_ | with_reducible refine Chg.dr ?_ | with_reducible refine Chg.dn ?_ | with_reducible rfl | omega | (simp; done) | (simp; omega))) (by intro k hk; omega)).mono (by intro k hk; omega)
  case' false =>
    cases ws
    case' nil =>
      have HRc : Hid (r = pComp sm wl op) := by unfold Hid; rw [HWL.out, ← HR.out]; unfold pOne sg; rw [hs]; rfl
      obtain ⟨A1, c1, hps⟩ := S0.ps
      have hb := hps.blk
      have q0 := (hb).cell 0
      have q1 := (hb).cell 1
      have q2 := (hb).cell 2
      have q3 := (hb).cell 3
      have q4 := (hb).cell 4
      have q5 := (hb).cell 5
      have q6 := (hb).cell 6
      simp at q0 q1 q2 q3 q4 q5 q6
      have qf := fun o => (hb).frozen o
      go_upto_region 25 with fail
      clear q0 q1 q2 q3 q4 q5 q6 qf hb hps
    case' cons x t =>
      have HB : Hid (r = if decide (x.kind = 0) && signB (x :: t) 1 ⟨#[40]⟩ then
          (if x.text = ⟨#[110, 111, 116]⟩ then (match pBracket or ne t op with | some (y, r, o) => some (.mk 2 [y] [] ByteArray.empty 0 ByteArray.empty 0, r, o) | none => none)
          else if x.text = ⟨#[115, 116, 114, 105, 110, 103, 45, 108, 101, 110, 103, 116, 104]⟩ then pLen sm ne (x :: t) op
          else match calledF x.text with | some c => pAsk sm ne c (x :: t) op | none => pComp sm (x :: t) op)
        else pComp sm (x :: t) op) := by unfold Hid; rw [← HR.out]; unfold pOne sg; rw [hs]; rfl
      obtain ⟨A1, c1, hps⟩ := S0.ps
      have hb := hps.blk
      have q0 := (hb).cell 0
      have q1 := (hb).cell 1
      have q2 := (hb).cell 2
      have q3 := (hb).cell 3
      have q4 := (hb).cell 4
      have q5 := (hb).cell 5
      have q6 := (hb).cell 6
      simp at q0 q1 q2 q3 q4 q5 q6
      have qf := fun o => (hb).frozen o
      obtain ⟨b, off, hA, hbw, x0, x1, -, -, -, -, -⟩ := hps.row.atW 0 (by simp)
      subst hA
      simp only [List.getElem_cons_zero, Nat.zero_mul, Nat.add_zero] at x0 x1
      obtain ⟨N, hN, hN0⟩ : ∃ N : Nat, N = t.length + 1 ∧ (0 : Int) < (N : Int) := ⟨_, rfl, by omega⟩
      rw [← hN] at q0
      have HN := Lib.hid hN
      clear hN hb hps
      by_cases hk : x.kind = 0
      case' neg =>
        have HRc : Hid (r = pComp sm wl op) := by unfold Hid; rw [HWL.out, HB.out]; simp [hk]
        have hkb : (x.kind == 0) = false := by simp [hk]
        clear hk
        go_upto_region 25 with fail
        clear hkb
      case' pos =>
        have hkb : (x.kind == 0) = true := by simp [hk]
        have HK := Lib.hid hk
        clear hk
        go_wp2_with fail
        refine (S0.sign 1 ⟨#[40]⟩).mono ?_
        rintro e w1 ⟨rfl, rfl⟩
        cases hs2 : signB (x :: t) 1 ⟨#[40]⟩
        case' false =>
          have HRc : Hid (r = pComp sm wl op) := by unfold Hid; rw [HWL.out, HB.out, hs2]; simp
          go_upto_region 25 with fail
        case' true =>
          have HB2 : Hid (r = if x.text = ⟨#[110, 111, 116]⟩ then (match pBracket or ne t op with | some (y, r, o) => some (.mk 2 [y] [] ByteArray.empty 0 ByteArray.empty 0, r, o) | none => none)
            else if x.text = ⟨#[115, 116, 114, 105, 110, 103, 45, 108, 101, 110, 103, 116, 104]⟩ then pLen sm ne (x :: t) op
            else match calledF x.text with | some c => pAsk sm ne c (x :: t) op | none => pComp sm (x :: t) op) := by unfold Hid; rw [HB.out, hs2]; simp [HK.out]
          have hlt : t.length < L := by simp at hL; omega
          by_cases hx : x.text = ⟨#[110, 111, 116]⟩
          case' pos =>
            have HB3 : Hid (r = match pBracket or ne t op with | some (y, r, o) => some (.mk 2 [y] [] ByteArray.empty 0 ByteArray.empty 0, r, o) | none => none) := by unfold Hid; rw [HB2.out, if_pos hx]
            have hxb : (x.text.toList == [110, 111, 116]) = true := by simpa [str_eq] using hx
            clear hx
            go_wp2_with fail
            refine S0.take.mono ?_
            rintro e w1 ⟨rfl, hch1, S1⟩
            have hs12 := hch1.size
            cases hen : pEnter ne ⟨#[40]⟩ t op
            · have hr2 : r = none := by rw [HB3.out, bracket_ne hen]
              subst hr2
              go_wp2_with fail
              refine (S1.enter_no hen).mono ?_
              rintro e w2 ⟨h1', g, rfl, hg⟩
              exact ⟨rfl, h1', g, rfl, hg⟩
            rename_i p1
            obtain ⟨t1, o1⟩ := p1
            obtain ⟨rfl, rfl, -⟩ := enter_op hen
            go_wp2_with fail
            refine (S1.enter_yes hen).mono ?_
            rintro e w2 ⟨rfl, hch2, S2⟩
            have hl2 : t.tail.length < L' := by
              obtain ⟨y0, y1, hy⟩ := signB_cons (enter_op hen).2.2
              rw [hy] at hlt ⊢
              simp only [List.length_cons, List.tail_cons] at hlt ⊢
              omega
            cases hor : or t.tail (op + 1)
            · have hr2 : r = none := by rw [HB3.out]; unfold pBracket; rw [hen]; simp only [hor]
              subst hr2
              go_wp2_with fail
              refine (S2.read_no HH.out hl2 hor).mono ?_
              rintro e w3 ⟨h1', g, rfl, hg⟩
              exact ⟨rfl, h1', g, rfl, hg⟩
            rename_i p2
            obtain ⟨y, t2, o2⟩ := p2
            go_wp2_with fail
            refine (S2.read_yes HH.out hl2 hor).mono ?_
            rintro e w3 ⟨⟨cs, rfl, hre⟩, hch3, S3, rfl⟩
            obtain ⟨Aa, ca, As, cp, rfl, hra, hrp⟩ := hre.rows
            have hs23 := hch2.size
            have hs34 := hch3.size
            obtain ⟨W4, hW4⟩ : ∃ W, W = (w3.alloc (.cells (#[.int .i64 y.op, .slice Aa y.args.length ca, .slice As y.path.length cp, .string y.attr, .int .i64 y.cmp, .string y.text, .int .i64 y.num]) 64)).alloc (.cells #[.int .i64 2, .slice (some ⟨w3.heap.size, 0, none⟩) 1 1, .slice none 0 0, .string ⟨#[]⟩, .int .i64 0, .string ⟨#[]⟩, .int .i64 0] 64) := ⟨_, rfl⟩
            have BY : Blk W4 w3.heap.size #[.int .i64 y.op, .slice Aa y.args.length ca, .slice As y.path.length cp, .string y.attr, .int .i64 y.cmp, .string y.text, .int .i64 y.num] 64 := by rw [hW4]; exact (Blk.new _ _ _).al _
            have BX : Blk W4 (w3.heap.size + 1) #[.int .i64 2, .slice (some ⟨w3.heap.size, 0, none⟩) 1 1, .slice none 0 0, .string ⟨#[]⟩, .int .i64 0, .string ⟨#[]⟩, .int .i64 0] 64 := by
              rw [hW4]; have h := Blk.new (w3.alloc (.cells (#[.int .i64 y.op, .slice Aa y.args.length ca, .slice As y.path.length cp, .string y.attr, .int .i64 y.cmp, .string y.text, .int .i64 y.num]) 64)) #[.int .i64 2, .slice (some ⟨w3.heap.size, 0, none⟩) 1 1, .slice none 0 0, .string ⟨#[]⟩, .int .i64 0, .string ⟨#[]⟩, .int .i64 0] 64; simpa using h
            have BT4 : Blk W4 w.heap.size #[.int .i64 0, .slice none 0 0, .slice none 0 0, .string ⟨#[]⟩, .int .i64 0, .string ⟨#[]⟩, .int .i64 0] 64 := by rw [hW4]; exact ((((BT.chg hch1 (by omega)).chg hch2 (by omega)).chg hch3 (by omega)).al _).al _
            have S4 : St w pb ok t2 e0 e1 e2 e3 ne (op + 1) W4 := by rw [hW4]; exact S3.al.al
            have hre4 : RE W4 (fun k => w2.heap.size ≤ k ∧ k < w3.heap.size) y [.int .i64 y.op, .slice Aa y.args.length ca, .slice As y.path.length cp, .string y.attr, .int .i64 y.cmp, .string y.text, .int .i64 y.num] := by rw [hW4]; exact RE.al (RE.al (Knd.move kE (w1 := w3) (Nat.le_refl _) (fun _ _ _ => rfl) hre))
            go_wp2_with fail
            rw [← hW4]
            clear hW4
            cases hle : pLeave ⟨#[41]⟩ t2 (op + 1)
            · have hr2 : r = none := by rw [HB3.out]; unfold pBracket; rw [hen]; simp only [hor, hle]
              subst hr2
              refine (S4.leave_no hle).mono ?_
              rintro e w5 ⟨h1', g, rfl, hg⟩
              exact ⟨rfl, h1', g, rfl, hg⟩
            rename_i p3
            obtain ⟨t3, o3⟩ := p3
            have ho3 := leave_op hle
            obtain rfl : o3 = op := by omega
            clear ho3
            have hr2 : r = some (.mk 2 [y] [] ByteArray.empty 0 ByteArray.empty 0, t3, o3) := by rw [HB3.out]; unfold pBracket; rw [hen]; simp only [hor, hle]
            subst hr2
            refine (S4.leave_yes (by omega) hle).mono ?_
            rintro e w5 ⟨rfl, hch5, S5⟩
            have BT5 := BT4.chg hch5 (by omega)
            have BX5 := BX.chg hch5 (by omega)
            have BY5 := BY.chg hch5 (by omega)
            have hre5 := hre4.chg hch5 (by intro k hk; omega)
            have z0 := (BT5).cell 0
            have z1 := (BT5).cell 1
            have z2 := (BT5).cell 2
            have z3 := (BT5).cell 3
            have z4 := (BT5).cell 4
            have z5 := (BT5).cell 5
            have z6 := (BT5).cell 6
            simp at z0 z1 z2 z3 z4 z5 z6
            have zf := fun o => (BT5).frozen o
            have m0 := (BX5).cell 0
            have m1 := (BX5).cell 1
            have m2 := (BX5).cell 2
            have m3 := (BX5).cell 3
            have m4 := (BX5).cell 4
            have m5 := (BX5).cell 5
            have m6 := (BX5).cell 6
            simp at m0 m1 m2 m3 m4 m5 m6
            have mf := fun o => (BX5).frozen o
            go_wp2_with fail
            refine bodyPost_ret (v := .agg [.int .i64 2, .slice (some ⟨w3.heap.size, 0, none⟩) 1 1, .slice none 0 0, .string ⟨#[]⟩, .int .i64 0, .string ⟨#[]⟩, .int .i64 0].toArray) ?h1 rfl ?h2
            case h1 => simp [results, Tryz.results154, go_sem, z0, z1, z2, z3, z4, z5, z6]
            case h2 =>
              have hrow : RowK kE w5 (fun k => w2.heap.size ≤ k ∧ k ≤ w3.heap.size) (some ⟨w3.heap.size, 0, none⟩) [y] :=
                RowK.oneEc (hf := fun o => BY5.frozen o) y Aa ca As cp (by omega) (hre5.mono (by intro k hk; omega)) ((BY5.cell 0).trans rfl) ((BY5.cell 1).trans rfl) ((BY5.cell 2).trans rfl) ((BY5.cell 3).trans rfl) ((BY5.cell 4).trans rfl) ((BY5.cell 5).trans rfl) ((BY5.cell 6).trans rfl)
              refine St.ends ?h3 (RE.of_rows (x := .mk 2 [y] [] ByteArray.empty 0 ByteArray.empty 0) ?h4 (RowK.nil _ _ _))
              case h3 => repeat' first | with_reducible exact S5 | with_reducible refine St.set ?_ ?_ | (simp; done)
              case h4 => exact (hrow.chg (p := fun k => k = w.heap.size) (by repeat' (first | with_reducible exact Chg.refl _ _ | with_reducible assumption | with_reducible refine Chg.al ?_ | with_reducible refine Chg.set ?_ ?_ | with_reducible refine Chg.dr ?_ | with_reducible refine Chg.dn ?_ | with_reducible rfl | omega | (simp; done) | (simp; omega))) (by intro k hk; omega)).mono (by intro k hk; omega)
          case' neg =>
            have hxb : (x.text.toList == [110, 111, 116]) = false := by simpa [str_eq] using hx
            by_cases hx2 : x.text = ⟨#[115, 116, 114, 105, 110, 103, 45, 108, 101, 110, 103, 116, 104]⟩
            case' pos =>
              have HB3 : Hid (r = pLen sm ne (x :: t) op) := by unfold Hid; rw [HB2.out, if_neg hx, if_pos hx2]
              have hxb2 : (x.text.toList == [115, 116, 114, 105, 110, 103, 45, 108, 101, 110, 103, 116, 104]) = true := by simpa [str_eq] using hx2
              clear hx hx2
              obtain ⟨A1, c1, hps⟩ := S0.ps
              have HC := Lib.hid (len_any L ne sm HM.out W0 pb ok x t A1 c1 e0 e1 e2 e3 op (by omega) hps S0.hk h0 h1 hne)
              go_wp2_with fail
              refine HC.out.mono ?_
              rintro e w2 ⟨hch, hm⟩
              cases hp : pLen sm ne (x :: t) op
              · rw [hp] at hm
                have hr2 : r = none := by rw [HB3.out, hp]
                subst hr2
                obtain ⟨h1', g, rfl, hg⟩ := S0.lost hch hm
                exact ⟨rfl, h1', g, rfl, hg⟩
              rename_i p1
              obtain ⟨y, t1, o1⟩ := p1
              rw [hp] at hm
              obtain ⟨cs, A2, c2, rfl, hre, hps2, hop, -⟩ := hm
              have hr2 : r = some (y, t1, o1) := by rw [HB3.out, hp]
              subst hr2
              subst hop
              have S2 := S0.of hch hps2 ⟨h0, h1⟩
              obtain ⟨Aa, ca, As, cp, rfl, hra, hrp⟩ := hre.rows
              have BT2 := BT.chg hch (by omega)
              have z0 := (BT2).cell 0
              have z1 := (BT2).cell 1
              have z2 := (BT2).cell 2
              have z3 := (BT2).cell 3
              have z4 := (BT2).cell 4
              have z5 := (BT2).cell 5
              have z6 := (BT2).cell 6
              simp at z0 z1 z2 z3 z4 z5 z6
              have zf := fun o => (BT2).frozen o
              go_wp2_with fail
              refine bodyPost_ret (v := .agg ([.int .i64 y.op, .slice Aa y.args.length ca, .slice As y.path.length cp, .string y.attr, .int .i64 y.cmp, .string y.text, .int .i64 y.num]).toArray) ?h1 rfl ?h2
              case h1 => simp [results, Tryz.results154, go_sem, z0, z1, z2, z3, z4, z5, z6]
              case h2 =>
                refine St.ends ?h3 ?h4
                case h3 => repeat' first | with_reducible exact S2 | with_reducible refine St.set ?_ ?_ | (simp; done)
                case h4 => exact (hre.chg (p := fun k => k = w.heap.size) (by repeat' (first | with_reducible exact Chg.refl _ _ | with_reducible assumption | with_reducible refine Chg.al ?_ | with_reducible refine Chg.set ?_ ?_ | with_reducible refine Chg.dr ?_ | with_reducible refine Chg.dn ?_ | with_reducible rfl | omega | (simp; done) | (simp; omega))) (by intro k hk; omega)).mono (by intro k hk; omega)
            case' neg =>
              have hxb2 : (x.text.toList == [115, 116, 114, 105, 110, 103, 45, 108, 101, 110, 103, 116, 104]) = false := by simpa [str_eq] using hx2
              have HB3 : Hid (r = match calledF x.text with | some c => pAsk sm ne c (x :: t) op | none => pComp sm (x :: t) op) := by unfold Hid; rw [HB2.out, if_neg hx, if_neg hx2]
              clear hx hx2
              go_wp2_with fail
              refine (called_any x.text W0).mono ?_
              rintro e w1 ⟨rfl, hw1⟩
              subst hw1
              cases hc : calledF x.text
              case' none =>
                have HRc : Hid (r = pComp sm wl op) := by unfold Hid; rw [HWL.out, HB3.out, hc]
                unfold optRes
                obtain ⟨W0, rfl⟩ : ∃ W : World, W = w1 := ⟨_, rfl⟩
                go_upto_region 25 with fail
              case' some =>
                rename_i cc
                have HB4 : Hid (r = pAsk sm ne cc (x :: t) op) := by unfold Hid; rw [HB3.out, hc]
                unfold optRes
                go_wp2_with fail
                refine S0.take.mono ?_
                rintro e w1 ⟨rfl, hch1, S1⟩
                have hs12 := hch1.size
                cases hen : pEnter ne ⟨#[40]⟩ t op
                · have hr2 : r = none := by rw [HB4.out]; unfold pAsk; rw [List.tail_cons, hen]
                  subst hr2
                  go_wp2_with fail
                  refine (S1.enter_no hen).mono ?_
                  rintro e w2 ⟨h1', g, rfl, hg⟩
                  exact ⟨rfl, h1', g, rfl, hg⟩
                rename_i p1
                obtain ⟨t1, o1⟩ := p1
                obtain ⟨rfl, rfl, -⟩ := enter_op hen
                go_wp2_with fail
                refine (S1.enter_yes hen).mono ?_
                rintro e w2 ⟨rfl, hch2, S2⟩
                have hl2 : t.tail.length < L := Nat.lt_of_le_of_lt (tail_le t) hlt
                cases hsm : sm t.tail (op + 1)
                · have hr2 : r = none := by rw [HB4.out]; unfold pAsk; rw [List.tail_cons, hen]; simp only [hsm]
                  subst hr2
                  go_wp2_with fail
                  refine (S2.read_no HM.out hl2 hsm).mono ?_
                  rintro e w3 ⟨h1', g, rfl, hg⟩
                  exact ⟨rfl, h1', g, rfl, hg⟩
                rename_i p2
                obtain ⟨y, t2, o2⟩ := p2
                go_wp2_with fail
                refine (S2.read_yes HM.out hl2 hsm).mono ?_
                rintro e w3 ⟨⟨cs, rfl, hre⟩, hch3, S3, rfl⟩
                obtain ⟨Aa, ca, As, cp, rfl, hra, hrp⟩ := hre.rows
                have hs23 := hch2.size
                have hs34 := hch3.size
                obtain ⟨W4, hW4⟩ : ∃ W, W = w3.alloc (.cells (#[.int .i64 y.op, .slice Aa y.args.length ca, .slice As y.path.length cp, .string y.attr, .int .i64 y.cmp, .string y.text, .int .i64 y.num]) 64) := ⟨_, rfl⟩
                have BX : Blk W4 w3.heap.size #[.int .i64 y.op, .slice Aa y.args.length ca, .slice As y.path.length cp, .string y.attr, .int .i64 y.cmp, .string y.text, .int .i64 y.num] 64 := by rw [hW4]; exact Blk.new _ _ _
                have BT4 : Blk W4 w.heap.size #[.int .i64 0, .slice none 0 0, .slice none 0 0, .string ⟨#[]⟩, .int .i64 0, .string ⟨#[]⟩, .int .i64 0] 64 := by rw [hW4]; exact (((BT.chg hch1 (by omega)).chg hch2 (by omega)).chg hch3 (by omega)).al _
                have S4 : St w pb ok t2 e0 e1 e2 e3 ne (op + 1) W4 := by rw [hW4]; exact S3.al
                have hre4 : RE W4 (fun k => w2.heap.size ≤ k ∧ k < w3.heap.size) y [.int .i64 y.op, .slice Aa y.args.length ca, .slice As y.path.length cp, .string y.attr, .int .i64 y.cmp, .string y.text, .int .i64 y.num] := by rw [hW4]; exact RE.al (Knd.move kE (w1 := w3) (Nat.le_refl _) (fun _ _ _ => rfl) hre)
                go_wp2_with fail
                rw [← hW4]
                clear hW4
                cases hwa : pWant ⟨#[44]⟩ t2
                · have hr2 : r = none := by rw [HB4.out]; unfold pAsk; rw [List.tail_cons, hen]; simp only [hsm, hwa]
                  subst hr2
                  refine (S4.want_no hwa).mono ?_
                  rintro e w5 ⟨h1', g, rfl, hg⟩
                  exact ⟨rfl, h1', g, rfl, hg⟩
                rename_i t3
                refine (S4.want_yes hwa).mono ?_
                rintro e w5 ⟨rfl, hch5, S5⟩
                have hs45 := hch5.size
                go_wp2_with fail
                cases hki : pKind 1 t3
                · have hr2 : r = none := by rw [HB4.out]; unfold pAsk; rw [List.tail_cons, hen]; simp only [hsm, hwa, hki]
                  subst hr2
                  refine (S5.kind_no hki).mono ?_
                  rintro e w6 ⟨h1', g, rfl, hg⟩
                  exact ⟨rfl, h1', g, rfl, hg⟩
                rename_i p4
                obtain ⟨z, t4⟩ := p4
                refine (S5.kind_yes hki).mono ?_
                rintro e w6 ⟨rfl, hch6, S6⟩
                have hs56 := hch6.size
                have hfd : ∀ (W : World), (Instr.field 109 (.agg (encW z).toArray) 1).run Tryz.prog W = .ok (.string z.text) W := fun _ => by kernel_rfl
                have hl34 := BX.lt
                have BX6 := (BX.chg hch5 (by omega)).chg hch6 (by omega)
                have BT6 := (BT4.chg hch5 (by omega)).chg hch6 (by omega)
                have hre6 := (hre4.chg hch5 (by intro k hk; omega)).chg hch6 (by intro k hk; omega)
                have m0 := (BX6).cell 0
                have m1 := (BX6).cell 1
                have m2 := (BX6).cell 2
                have m3 := (BX6).cell 3
                have m4 := (BX6).cell 4
                have m5 := (BX6).cell 5
                have m6 := (BX6).cell 6
                simp at m0 m1 m2 m3 m4 m5 m6
                have mf := fun o => (BX6).frozen o
                go_wp2_with fail
                have S7 := (S6.set (a := ⟨w3.heap.size, 4, none⟩) (u := .int .i64 cc) (by simp; omega)).set (a := ⟨w3.heap.size, 5, none⟩) (u := .string z.text) (by simp; omega)
                have BX7 := (BX6.set 4 (.int .i64 cc)).set 5 (.string z.text)
                have BT7 := (BT6.far (a := ⟨w3.heap.size, 4, none⟩) (by simp; omega) (.int .i64 cc)).far (a := ⟨w3.heap.size, 5, none⟩) (by simp; omega) (.string z.text)
                have hre7 : RE ((w6.setCell ⟨w3.heap.size, 4, none⟩ (.int .i64 cc)).setCell ⟨w3.heap.size, 5, none⟩ (.string z.text)) (fun k => w2.heap.size ≤ k ∧ k < w3.heap.size) y _ := hre6.chg (p := fun k => k = w3.heap.size) (Chg.set rfl (Chg.set rfl (Chg.refl _ _))) (by intro k hk; omega)
                simp only [List.setIfInBounds_toArray, List.set_cons_zero, List.set_cons_succ] at BX7
                clear m0 m1 m2 m3 m4 m5 m6 mf
                generalize (w6.setCell ⟨w3.heap.size, 4, none⟩ (.int .i64 cc)).setCell ⟨w3.heap.size, 5, none⟩ (.string z.text) = W7 at *
                cases hle : pLeave ⟨#[41]⟩ t4 (op + 1)
                · have hr2 : r = none := by rw [HB4.out]; unfold pAsk; rw [List.tail_cons, hen]; simp only [hsm, hwa, hki, hle]
                  subst hr2
                  refine (S7.leave_no hle).mono ?_
                  rintro e w8 ⟨h1', g, rfl, hg⟩
                  exact ⟨rfl, h1', g, rfl, hg⟩
                rename_i p5
                obtain ⟨t5, o5⟩ := p5
                have ho5 := leave_op hle
                obtain rfl : o5 = op := by omega
                clear ho5
                have hr2 : r = some (setC y cc z.text y.num, t5, o5) := by rw [HB4.out]; unfold pAsk; rw [List.tail_cons, hen]; simp only [hsm, hwa, hki, hle]
                subst hr2
                refine (S7.leave_yes (by omega) hle).mono ?_
                rintro e w8 ⟨rfl, hch8, S8⟩
                have BT8 := BT7.chg hch8 (by omega)
                have BX8 := BX7.chg hch8 (by omega)
                have hre8 := hre7.chg hch8 (by intro k hk; omega)
                have z0 := (BT8).cell 0
                have z1 := (BT8).cell 1
                have z2 := (BT8).cell 2
                have z3 := (BT8).cell 3
                have z4 := (BT8).cell 4
                have z5 := (BT8).cell 5
                have z6 := (BT8).cell 6
                simp at z0 z1 z2 z3 z4 z5 z6
                have zf := fun o => (BT8).frozen o
                have m0 := (BX8).cell 0
                have m1 := (BX8).cell 1
                have m2 := (BX8).cell 2
                have m3 := (BX8).cell 3
                have m4 := (BX8).cell 4
                have m5 := (BX8).cell 5
                have m6 := (BX8).cell 6
                simp at m0 m1 m2 m3 m4 m5 m6
                have mf := fun o => (BX8).frozen o
                go_wp2_with fail
                refine bodyPost_ret (v := .agg [.int .i64 y.op, .slice Aa y.args.length ca, .slice As y.path.length cp, .string y.attr, .int .i64 cc, .string z.text, .int .i64 y.num].toArray) ?h1 rfl ?h2
                case h1 => simp [results, Tryz.results154, go_sem, z0, z1, z2, z3, z4, z5, z6]
                case h2 =>
                  obtain ⟨Ax, cx, Sx, dx, he, hxa8, hxp8⟩ := hre8.rows
                  obtain ⟨⟨rfl, rfl⟩, rfl, rfl⟩ : (Aa = Ax ∧ ca = cx) ∧ As = Sx ∧ cp = dx := by simpa using he
                  refine St.ends ?h3 (RE.of_rows (x := setC y cc z.text y.num) ?h4 ?h5)
                  case h3 => repeat' first | with_reducible exact S8 | with_reducible refine St.set ?_ ?_ | (simp; done)
                  case h4 => exact (hxa8.chg (p := fun k => k = w.heap.size) (by repeat' (first | with_reducible exact Chg.refl _ _ | with_reducible assumption | with_reducible refine Chg.al ?_ | with_reducible refine Chg.set ?_ ?_ | with_reducible refine Chg.dr ?_ | with_reducible refine Chg.dn ?_ | with_reducible rfl | omega | (simp; done) | (simp; omega))) (by intro k hk; omega)).mono (by intro k hk; omega)
                  case h5 => exact (hxp8.chg (p := fun k => k = w.heap.size) (by repeat' (first | with_reducible exact Chg.refl _ _ | with_reducible assumption | with_reducible refine Chg.al ?_ | with_reducible refine Chg.set ?_ ?_ | with_reducible refine Chg.dr ?_ | with_reducible refine Chg.dn ?_ | with_reducible rfl | omega | (simp; done) | (simp; omega))) (by intro k hk; omega)).mono (by intro k hk; omega)
  all_goals
    cases hsm : sm wl op
    · have hr2 : r = none := by rw [HRc.out]; unfold pComp; rw [hsm]
      subst hr2
      go_wp2_with fail
      refine (SC.read_no HM.out hLc hsm).mono ?_
      rintro e w3 ⟨h1', g, rfl, hg⟩
      exact ⟨rfl, h1', g, rfl, hg⟩
    rename_i p1
    obtain ⟨y, t1, o1⟩ := p1
    go_wp2_with fail
    refine (SC.read_yes HM.out hLc hsm).mono ?_
    rintro e w2 ⟨⟨cs, rfl, hre⟩, hch2, S2, rfl⟩
    obtain ⟨Aa, ca, As, cp, rfl, hra, hrp⟩ := hre.rows
    have hs23 := hch2.size
    obtain ⟨W3, hW3⟩ : ∃ W, W = w2.alloc (.cells (#[.int .i64 y.op, .slice Aa y.args.length ca, .slice As y.path.length cp, .string y.attr, .int .i64 y.cmp, .string y.text, .int .i64 y.num]) 64) := ⟨_, rfl⟩
    have BX : Blk W3 w2.heap.size #[.int .i64 y.op, .slice Aa y.args.length ca, .slice As y.path.length cp, .string y.attr, .int .i64 y.cmp, .string y.text, .int .i64 y.num] 64 := by rw [hW3]; exact Blk.new _ _ _
    have BT3 : Blk W3 w.heap.size #[.int .i64 0, .slice none 0 0, .slice none 0 0, .string ⟨#[]⟩, .int .i64 0, .string ⟨#[]⟩, .int .i64 0] 64 := by rw [hW3]; exact (BT.chg hch2 (by omega)).al _
    have S3 : St w pb ok t1 e0 e1 e2 e3 ne o1 W3 := by rw [hW3]; exact S2.al
    have hre3 : RE W3 (fun k => W0.heap.size ≤ k ∧ k < w2.heap.size) y [.int .i64 y.op, .slice Aa y.args.length ca, .slice As y.path.length cp, .string y.attr, .int .i64 y.cmp, .string y.text, .int .i64 y.num] := by rw [hW3]; exact RE.al (Knd.move kE (w1 := w2) (Nat.le_refl _) (fun _ _ _ => rfl) hre)
    have hl3 := BX.lt
    have HRd : Hid (r = match (if sg t1 ⟨#[61]⟩ then some 1 else if sg t1 ⟨#[33, 61]⟩ then some 2 else none : Option Int) with | none => some (y, t1, o1) | some c => match pKind 1 t1.tail with | some (z, r) => some (setC y c z.text y.num, r, o1) | none => none) := by
      unfold Hid; rw [HRc.out]; unfold pComp; rw [hsm]; rfl
    go_wp2_with fail
    rw [← hW3]
    clear hW3
    have m0 := (BX).cell 0
    have m1 := (BX).cell 1
    have m2 := (BX).cell 2
    have m3 := (BX).cell 3
    have m4 := (BX).cell 4
    have m5 := (BX).cell 5
    have m6 := (BX).cell 6
    simp at m0 m1 m2 m3 m4 m5 m6
    have mf := fun o => (BX).frozen o
    refine (S3.sign 0 ⟨#[61]⟩).mono ?_
    rintro e w4 ⟨rfl, rfl⟩
    cases hq : signB t1 0 ⟨#[61]⟩
    · go_wp2_with fail
      refine (S3.sign 0 ⟨#[33, 61]⟩).mono ?_
      rintro e w4 ⟨rfl, rfl⟩
      cases hq2 : signB t1 0 ⟨#[33, 61]⟩
      · have hr2 : r = some (y, t1, o1) := by rw [HRd.out]; simp only [sg, hq, hq2, Bool.false_eq_true, if_false]
        subst hr2
        have z0 := (BT3).cell 0
        have z1 := (BT3).cell 1
        have z2 := (BT3).cell 2
        have z3 := (BT3).cell 3
        have z4 := (BT3).cell 4
        have z5 := (BT3).cell 5
        have z6 := (BT3).cell 6
        simp at z0 z1 z2 z3 z4 z5 z6
        have zf := fun o => (BT3).frozen o
        go_wp2_with fail
        refine bodyPost_ret (v := .agg ([.int .i64 y.op, .slice Aa y.args.length ca, .slice As y.path.length cp, .string y.attr, .int .i64 y.cmp, .string y.text, .int .i64 y.num]).toArray) ?h1 rfl ?h2
        case h1 => simp [results, Tryz.results154, go_sem, z0, z1, z2, z3, z4, z5, z6]
        case h2 =>
          refine St.ends ?h3 ?h4
          case h3 => repeat' first | with_reducible exact S3 | with_reducible refine St.set ?_ ?_ | (simp; done)
          case h4 => exact (hre3.chg (p := fun k => k = w.heap.size) (by repeat' (first | with_reducible exact Chg.refl _ _ | with_reducible assumption | with_reducible refine Chg.al ?_ | with_reducible refine Chg.set ?_ ?_ | with_reducible refine Chg.dr ?_ | with_reducible refine Chg.dn ?_ | with_reducible rfl | omega | (simp; done) | (simp; omega))) (by intro k hk; omega)).mono (by intro k hk; omega)
      · obtain ⟨x9, t9, rfl⟩ := signB_cons hq2
        have HRe : Hid (r = match pKind 1 t9 with | some (z, r) => some (setC y 2 z.text y.num, r, o1) | none => none) := by
          unfold Hid; rw [HRd.out]; simp only [sg, hq, hq2, Bool.false_eq_true, if_false, if_true, List.tail_cons]
        go_wp2_with fail
        have S5 := S3.set (a := ⟨w2.heap.size, 4, none⟩) (u := .int .i64 2) (by simp; omega)
        have BX5 := BX.set 4 (.int .i64 2)
        have BT5 := BT3.far (a := ⟨w2.heap.size, 4, none⟩) (by simp; omega) (.int .i64 2)
        have hre5 : RE (W3.setCell ⟨w2.heap.size, 4, none⟩ (.int .i64 2)) (fun k => W0.heap.size ≤ k ∧ k < w2.heap.size) y _ := hre3.chg (p := fun k => k = w2.heap.size) (Chg.set rfl (Chg.refl _ _)) (by intro k hk; omega)
        simp only [List.setIfInBounds_toArray, List.set_cons_zero, List.set_cons_succ] at BX5
        clear m0 m1 m2 m3 m4 m5 m6 mf
        generalize W3.setCell ⟨w2.heap.size, 4, none⟩ (.int .i64 2) = W5 at *
        refine S5.take.mono ?_
        rintro e w6 ⟨rfl, hch6, S6⟩
        go_wp2_with fail
        cases hki : pKind 1 t9
        · have hr2 : r = none := by rw [HRe.out, hki]
          subst hr2
          refine (S6.kind_no hki).mono ?_
          rintro e w7 ⟨h1', g, rfl, hg⟩
          exact ⟨rfl, h1', g, rfl, hg⟩
        rename_i p4
        obtain ⟨z, t4⟩ := p4
        have hr2 : r = some (setC y 2 z.text y.num, t4, o1) := by rw [HRe.out, hki]
        subst hr2
        refine (S6.kind_yes hki).mono ?_
        rintro e w7 ⟨rfl, hch7, S7⟩
        have hfd : ∀ (W : World), (Instr.field 109 (.agg (encW z).toArray) 1).run Tryz.prog W = .ok (.string z.text) W := fun _ => by kernel_rfl
        have BX7 := (BX5.chg hch6 (by omega)).chg hch7 (by omega)
        have BT7 := (BT5.chg hch6 (by omega)).chg hch7 (by omega)
        have hre7 := (hre5.chg hch6 (by intro k hk; omega)).chg hch7 (by intro k hk; omega)
        have z0 := (BT7).cell 0
        have z1 := (BT7).cell 1
        have z2 := (BT7).cell 2
        have z3 := (BT7).cell 3
        have z4 := (BT7).cell 4
        have z5 := (BT7).cell 5
        have z6 := (BT7).cell 6
        simp at z0 z1 z2 z3 z4 z5 z6
        have zf := fun o => (BT7).frozen o
        have m0 := (BX7).cell 0
        have m1 := (BX7).cell 1
        have m2 := (BX7).cell 2
        have m3 := (BX7).cell 3
        have m4 := (BX7).cell 4
        have m5 := (BX7).cell 5
        have m6 := (BX7).cell 6
        simp at m0 m1 m2 m3 m4 m5 m6
        have mf := fun o => (BX7).frozen o
        have hnm : w2.heap.size ≠ w.heap.size := by omega
        go_wp2_with fail
        refine bodyPost_ret (v := .agg [.int .i64 y.op, .slice Aa y.args.length ca, .slice As y.path.length cp, .string y.attr, .int .i64 2, .string z.text, .int .i64 y.num].toArray) ?h1 rfl ?h2
        case h1 => simp [results, Tryz.results154, go_sem, z0, z1, z2, z3, z4, z5, z6]
        case h2 =>
          obtain ⟨Ax, cx, Sx, dx, he, hxa8, hxp8⟩ := hre7.rows
          obtain ⟨⟨rfl, rfl⟩, rfl, rfl⟩ : (Aa = Ax ∧ ca = cx) ∧ As = Sx ∧ cp = dx := by simpa using he
          refine St.ends ?h3 (RE.of_rows (x := setC y 2 z.text y.num) ?h4 ?h5)
          case h3 => repeat' first | with_reducible exact S7 | with_reducible refine St.set ?_ ?_ | (simp; done) | (simp; omega)
          case h4 => exact (hxa8.chg (p := fun k => k = w.heap.size ∨ k = w2.heap.size) (by repeat' (first | with_reducible exact Chg.refl _ _ | with_reducible assumption | with_reducible refine Chg.al ?_ | with_reducible refine Chg.set ?_ ?_ | with_reducible refine Chg.dr ?_ | with_reducible refine Chg.dn ?_ | with_reducible rfl | omega | (simp; done) | (simp; omega))) (by intro k hk; omega)).mono (by intro k hk; omega)
          case h5 => exact (hxp8.chg (p := fun k => k = w.heap.size ∨ k = w2.heap.size) (by repeat' (first | with_reducible exact Chg.refl _ _ | with_reducible assumption | with_reducible refine Chg.al ?_ | with_reducible refine Chg.set ?_ ?_ | with_reducible refine Chg.dr ?_ | with_reducible refine Chg.dn ?_ | with_reducible rfl | omega | (simp; done) | (simp; omega))) (by intro k hk; omega)).mono (by intro k hk; omega)
    · obtain ⟨x9, t9, rfl⟩ := signB_cons hq
      have HRe : Hid (r = match pKind 1 t9 with | some (z, r) => some (setC y 1 z.text y.num, r, o1) | none => none) := by
        unfold Hid; rw [HRd.out]; simp only [sg, hq, Bool.false_eq_true, if_false, if_true, List.tail_cons]
      go_wp2_with fail
      have S5 := S3.set (a := ⟨w2.heap.size, 4, none⟩) (u := .int .i64 1) (by simp; omega)
      have BX5 := BX.set 4 (.int .i64 1)
      have BT5 := BT3.far (a := ⟨w2.heap.size, 4, none⟩) (by simp; omega) (.int .i64 1)
      have hre5 : RE (W3.setCell ⟨w2.heap.size, 4, none⟩ (.int .i64 1)) (fun k => W0.heap.size ≤ k ∧ k < w2.heap.size) y _ := hre3.chg (p := fun k => k = w2.heap.size) (Chg.set rfl (Chg.refl _ _)) (by intro k hk; omega)
      simp only [List.setIfInBounds_toArray, List.set_cons_zero, List.set_cons_succ] at BX5
      clear m0 m1 m2 m3 m4 m5 m6 mf
      generalize W3.setCell ⟨w2.heap.size, 4, none⟩ (.int .i64 1) = W5 at *
      refine S5.take.mono ?_
      rintro e w6 ⟨rfl, hch6, S6⟩
      go_wp2_with fail
      cases hki : pKind 1 t9
      · have hr2 : r = none := by rw [HRe.out, hki]
        subst hr2
        refine (S6.kind_no hki).mono ?_
        rintro e w7 ⟨h1', g, rfl, hg⟩
        exact ⟨rfl, h1', g, rfl, hg⟩
      rename_i p4
      obtain ⟨z, t4⟩ := p4
      have hr2 : r = some (setC y 1 z.text y.num, t4, o1) := by rw [HRe.out, hki]
      subst hr2
      refine (S6.kind_yes hki).mono ?_
      rintro e w7 ⟨rfl, hch7, S7⟩
      have hfd : ∀ (W : World), (Instr.field 109 (.agg (encW z).toArray) 1).run Tryz.prog W = .ok (.string z.text) W := fun _ => by kernel_rfl
      have BX7 := (BX5.chg hch6 (by omega)).chg hch7 (by omega)
      have BT7 := (BT5.chg hch6 (by omega)).chg hch7 (by omega)
      have hre7 := (hre5.chg hch6 (by intro k hk; omega)).chg hch7 (by intro k hk; omega)
      have z0 := (BT7).cell 0
      have z1 := (BT7).cell 1
      have z2 := (BT7).cell 2
      have z3 := (BT7).cell 3
      have z4 := (BT7).cell 4
      have z5 := (BT7).cell 5
      have z6 := (BT7).cell 6
      simp at z0 z1 z2 z3 z4 z5 z6
      have zf := fun o => (BT7).frozen o
      have m0 := (BX7).cell 0
      have m1 := (BX7).cell 1
      have m2 := (BX7).cell 2
      have m3 := (BX7).cell 3
      have m4 := (BX7).cell 4
      have m5 := (BX7).cell 5
      have m6 := (BX7).cell 6
      simp at m0 m1 m2 m3 m4 m5 m6
      have mf := fun o => (BX7).frozen o
      have hnm : w2.heap.size ≠ w.heap.size := by omega
      go_wp2_with fail
      refine bodyPost_ret (v := .agg [.int .i64 y.op, .slice Aa y.args.length ca, .slice As y.path.length cp, .string y.attr, .int .i64 1, .string z.text, .int .i64 y.num].toArray) ?h1 rfl ?h2
      case h1 => simp [results, Tryz.results154, go_sem, z0, z1, z2, z3, z4, z5, z6]
      case h2 =>
        obtain ⟨Ax, cx, Sx, dx, he, hxa8, hxp8⟩ := hre7.rows
        obtain ⟨⟨rfl, rfl⟩, rfl, rfl⟩ : (Aa = Ax ∧ ca = cx) ∧ As = Sx ∧ cp = dx := by simpa using he
        refine St.ends ?h3 (RE.of_rows (x := setC y 1 z.text y.num) ?h4 ?h5)
        case h3 => repeat' first | with_reducible exact S7 | with_reducible refine St.set ?_ ?_ | (simp; done) | (simp; omega)
        case h4 => exact (hxa8.chg (p := fun k => k = w.heap.size ∨ k = w2.heap.size) (by repeat' (first | with_reducible exact Chg.refl _ _ | with_reducible assumption | with_reducible refine Chg.al ?_ | with_reducible refine Chg.set ?_ ?_ | with_reducible refine Chg.dr ?_ | with_reducible refine Chg.dn ?_ | with_reducible rfl | omega | (simp; done) | (simp; omega))) (by intro k hk; omega)).mono (by intro k hk; omega)
        case h5 => exact (hxp8.chg (p := fun k => k = w.heap.size ∨ k = w2.heap.size) (by repeat' (first | with_reducible exact Chg.refl _ _ | with_reducible assumption | with_reducible refine Chg.al ?_ | with_reducible refine Chg.set ?_ ?_ | with_reducible refine Chg.dr ?_ | with_reducible refine Chg.dn ?_ | with_reducible rfl | omega | (simp; done) | (simp; omega))) (by intro k hk; omega)).mono (by intro k hk; omega)
end Go.Proofs.YtbbmmeaicilabaaGreatDoor
