import Derived.Outline
import Derived.Deep.DeepCutAuto
import Derived.Deep.CutBlock
import Derived.Test.YtfgfoofojofnmaaDoorGQ0
import Derived.Test.YtfgfoofojofnmaaDoorGQF15
import Derived.Test.YtfgfoofojofnmaaDoorGQF51
import Derived.Test.YtfgfoofojofnmaaDoorGP3
import Derived.Test.YtfgfoofojofnmaaDoorGP4
set_option linter.unusedVariables false
set_option linter.unusedSimpArgs false
-- Written by a program of this session's (wip/tools/hprint.py, over the kit's print.py). Not trusted: Lean checks it.
namespace Go.Proofs.YtfgfoofojofnmaaDoor.Q
open Go.RowKit Go.Proofs.YtfgfoofojofnmaaDoorW.PrintWords Go.Proofs.YtfgfoofojofnmaaDoorW.PrintLast Go.Proofs.YtfgfoofojofnmaaDoorW.PrintMore
attribute [local go_sem] Go.Proofs.YtfgfoofojofnmaaDoor.Hand.w64_mod256 Go.Proofs.YtfgfoofojofnmaaDoor.Hand.w64_mod32 max2_int min2_int max_two min_two max_three min_three max_four min_four   -- for this text's walks alone
set_option linter.unusedVariables false
set_option linter.unusedSimpArgs false

/-! ### parse_Parse: function 22 -/
open Go.Proofs.YtfgfoofojofnmaaDoor.Hand
theorem blk_belowW {W w' : World} {g : Nat} {o : Obj} (h : Below W.heap.size W w') (hb : W.heap[g]? = some o) : w'.heap[g]? = some o := (h.block g (blk_lt hb)).trans hb
theorem below_set6 {w w1 : World} {B b : Nat} (h : Below B w w1) (hb : B ≤ b) (v0 v1 v2 v3 v4 v5 : Value) : Below B w ((((((w1.setCell ⟨b, 0, none⟩ v0).setCell ⟨b, 1, none⟩ v1).setCell ⟨b, 2, none⟩ v2).setCell ⟨b, 3, none⟩ v3).setCell ⟨b, 4, none⟩ v4).setCell ⟨b, 5, none⟩ v5) :=
  (((((h.setCell hb v0).setCell hb v1).setCell hb v2).setCell hb v3).setCell hb v4).setCell hb v5
theorem R_over {W w1 : World} {base b2 b3 g : Nat} {v : Value} {xs : List S44} (h : k44.R 44 w1 W.heap.size (fun _ => True) v xs) (hb : base ≤ W.heap.size) (h2 : b2 < W.heap.size) (hg : g < W.heap.size) (h3 : w1.heap.size ≤ b3) : k44.R 44 w1 base (fun q => q ≠ b2 ∧ q ≠ b3 ∧ q ≠ g) v xs :=
  Kd.R_lower (Kd.R_mono (Kd.R_bound h) (fun k hk => ⟨by have := hk.2.1; omega, by have := hk.2.2.1; omega, by have := hk.2.1; omega⟩)) hb
theorem belowG {w w1 w4 : World} {B g : Nat} (h : Below B w w1) (h2 : Below g w1 w4) (hg : B ≤ g) : Below B w w4 := h.trans (h2.mono hg)
/-- The tree, the place and the code, field by field. -/
def parse_Parse.f (a0 : ByteArray) : Option (Int × ByteArray × Int × Int × List S44 × Int × Int × Int) := some ((parseT a0).1.f0, (parseT a0).1.f1, (parseT a0).1.f2, (parseT a0).1.f3, (parseT a0).1.f4, (parseT a0).1.f5, (parseT a0).2.1, (parseT a0).2.2)
theorem parse_split {a0 : ByteArray} {r1 : Int} {r2 : ByteArray} {r3 r4 : Int} {r5 : List S44} {r6 r7 r8 : Int} {x : S44} {p q : Int} (h : ((parseT a0).1.f0, (parseT a0).1.f1, (parseT a0).1.f2, (parseT a0).1.f3, (parseT a0).1.f4, (parseT a0).1.f5, (parseT a0).2.1, (parseT a0).2.2) = (r1, r2, r3, r4, r5, r6, r7, r8)) (he : parseT a0 = (x, p, q)) : x.f0 = r1 ∧ x.f1 = r2 ∧ x.f2 = r3 ∧ x.f3 = r4 ∧ x.f4 = r5 ∧ x.f5 = r6 ∧ p = r7 ∧ q = r8 := by
  rw [he] at h
  simpa using h
set_option maxHeartbeats 4000000 in
set_option maxRecDepth 100000 in
theorem parse_Parse.calls (a0 : ByteArray) (r1 : Int) (r2 : ByteArray) (r3 : Int) (r4 : Int) (r5 : List (S44)) (r6 : Int) (r7 : Int) (r8 : Int) (w : World) (h : parse_Parse.f a0 = some (r1, r2, r3, r4, r5, r6, r7, r8)) :
    Calls Tryd.prog 22 #[.string a0] w fun e w' => ∃ v0_ : Value, e = .returned (.tuple #[.agg #[.int .i64 r1, .string r2, .int .i64 r3, .int .u64 r4, v0_, .int .i64 r6], .int .i64 r7, .int .i64 r8]) ∧ Kd.R k44 44 w' w.heap.size (fun _ => True) v0_ r5 ∧ Below w.heap.size w w' := by
  unfold parse_Parse.f at h
  have HP := Lib.hid (Option.some.inj h)
  clear h
  obtain ⟨⟨toks, at_, code⟩, hsc⟩ : ∃ q, scanS a0 = q := ⟨_, rfl⟩
  have CSC := fun W => lex_Scan.calls a0 toks at_ code W ((scanS_f a0).trans (by rw [hsc]))
  have hfew : toks.length ≤ 1024 := by have := scanS_few a0; rw [hsc] at this; exact this
  have HSC := Lib.hid hsc
  clear hsc
  go_enter Tryd.func22, Tryd.ntmps22
  go_upto_region 1 with (fail)
  have HZ := Lib.hid (blk_new w (Obj.cells #[.int .i64 0, .string (⟨#[]⟩ : ByteArray), .int .i64 0, .int .u64 0, .slice none 0 0, .int .i64 0] 44))
  have HBA := Lib.hid (below_alloc (Below.refl w.heap.size w) (Obj.cells #[.int .i64 0, .string (⟨#[]⟩ : ByteArray), .int .i64 0, .int .u64 0, .slice none 0 0, .int .i64 0] 44))
  have HSA : Hid ((w.alloc (Obj.cells #[.int .i64 0, .string (⟨#[]⟩ : ByteArray), .int .i64 0, .int .u64 0, .slice none 0 0, .int .i64 0] 44)).heap.size = w.heap.size + 1) := Lib.hid (alloc_size _ _)
  generalize w.alloc (Obj.cells #[.int .i64 0, .string (⟨#[]⟩ : ByteArray), .int .i64 0, .int .u64 0, .slice none 0 0, .int .i64 0] 44) = wA at *
  generalize hb2 : w.heap.size = b2 at *
  have HSB : Hid (w.heap.size = b2) := Lib.hid hb2
  have HW : Hid (w.heap.size ≤ b2) := Lib.hid (Nat.le_of_eq hb2)
  rw [← hb2] at HBA
  clear hb2
  by_cases hcode : code = 0
  · have tc : (code != 0) = false := by rw [hcode]; rfl
    have HPE : Hid (parseT a0 = (if (endS (a0.size : Int) (readS a0).2).bad = true then (z44, (endS (a0.size : Int) (readS a0).2).pos, 31) else if 24 < depthT (readS a0).1 then (z44, 0, 32) else ((readS a0).1, 0, 0))) := Lib.hid (by unfold parseT; rw [if_pos (by rw [HSC.out]; exact hcode)])
    have CE := fun (g : Nat) W0 => (par_all (6 * toks.length + 6)).1.use (W0 := W0) (g := g) (ev := (a0.size : Int)) (st := ⟨toks, false, 0⟩) (by show 6 * toks.length + 6 ≤ _ ∧ _; omega)
    have HRS : Hid (readS a0 = exprF (a0.size : Int) (6 * toks.length + 6) ⟨toks, false, 0⟩) := Lib.hid (by unfold readS; rw [HSC.out])
    have HWT := Lib.hid (readS_wt a0)
    rw [← HRS.out] at CE
    generalize readS a0 = q at *
    obtain ⟨b, s⟩ := q
    clear hcode HRS
    go_upto_region 5 with (go_at_call 15; (with_reducible refine (CSC _).mono ?_); rintro e w1 ⟨v1, rfl, hR1, hB1⟩; obtain ⟨A1, c1, rfl, hl1, hC1⟩ := Kd.R_reads hR1; have HC1 := Lib.hid hC1; have HL1 := Lib.hid hl1; have HB1 := Lib.hid hB1; have HB21 := Lib.hid (blk_belowW hB1 HZ.out); clear hR1 hC1 hl1 hB1)
    have HRD : Hid (RdAt w1 w1.heap.size (a0.size : Int) ⟨toks, false, 0⟩ (w1.alloc (Obj.cells #[.slice A1 toks.length c1, .int .i64 (a0.size : Int), .bool false, .int .i64 0] 89))) := Lib.hid ⟨⟨_, ⟨A1, c1, rfl, HL1.out, HC1.out⟩, blk_new w1 _⟩, Below.alloc (Below.refl _ _) (Nat.le_refl _) _, Nat.le_refl _⟩
    have HB2 := Lib.hid (blk_alloc HB21.out (Obj.cells #[.slice A1 toks.length c1, .int .i64 (a0.size : Int), .bool false, .int .i64 0] 89))
    have hg2 : b2 < w1.heap.size := blk_lt HB21.out
    have HBW := Lib.hid (below_step HBA.out HB1.out)
    clear CSC HC1 HL1 HB1 HB21 HZ HBA HSA
    generalize w1.alloc (Obj.cells #[.slice A1 toks.length c1, .int .i64 (a0.size : Int), .bool false, .int .i64 0] 89) = wG at *
    generalize hgE : w1.heap.size = g at *
    have HGE : Hid (w1.heap.size = g) := Lib.hid hgE
    clear hgE
    have hn2 : b2 ≠ g := Nat.ne_of_lt hg2
    replace CE := CE g w1
    go_upto_region 6 with (go_at_call 49; (with_reducible refine (CE _ ?_).mono ?_); exact HRD.out; rintro e w3 ⟨A3, c3, rfl, hR3, hS3, hF3⟩; have HR3 := Lib.hid hR3; have HS3 := Lib.hid hS3; have HB23 := Lib.hid (hF3.at_ hn2 HB2.out); have hgw3 := hS3.lt; clear hR3 hS3 hF3)
    have HS4 := Lib.hid (HS3.out.alloc (Obj.cells #[.int .i64 b.f0, .string b.f1, .int .i64 b.f2, .int .u64 b.f3, .slice A3 b.f4.length c3, .int .i64 b.f5] 44))
    have HB24 := Lib.hid (blk_alloc HB23.out (Obj.cells #[.int .i64 b.f0, .string b.f1, .int .i64 b.f2, .int .u64 b.f3, .slice A3 b.f4.length c3, .int .i64 b.f5] 44))
    have HB34 := Lib.hid (blk_new w3 (Obj.cells #[.int .i64 b.f0, .string b.f1, .int .i64 b.f2, .int .u64 b.f3, .slice A3 b.f4.length c3, .int .i64 b.f5] 44))
    have HR4 := Lib.hid (Kd.R_alloc (R_over (base := w.heap.size) (b2 := b2) (g := g) HR3.out (by have := HSB.out; have := HRD.out.lt; omega) (by have := HRD.out.lt; omega) HRD.out.lt (Nat.le_refl _)) (Obj.cells #[.int .i64 b.f0, .string b.f1, .int .i64 b.f2, .int .u64 b.f3, .slice A3 b.f4.length c3, .int .i64 b.f5] 44))
    clear CE HRD HB2 HR3 HS3 HB23
    generalize w3.alloc (Obj.cells #[.int .i64 b.f0, .string b.f1, .int .i64 b.f2, .int .u64 b.f3, .slice A3 b.f4.length c3, .int .i64 b.f5] 44) = w4 at *
    generalize w3.heap.size = b3 at *
    have hn3 : b3 ≠ g := Nat.ne_of_gt hgw3
    have hn32 : b2 ≠ b3 := by omega
    obtain ⟨AT, ct, hlc, hCC, hbb⟩ := HS4.out.cells
    have hc0 : w4.cell? ⟨g, 0, none⟩ = some (.slice AT s.ts.length ct) := (blk_cell hbb 0).trans rfl
    have hc2 : w4.cell? ⟨g, 2, none⟩ = some (.bool s.bad) := (blk_cell hbb 2).trans rfl
    have hc3 : w4.cell? ⟨g, 3, none⟩ = some (.int .i64 s.pos) := (blk_cell hbb 3).trans rfl
    clear hCC hbb hlc
    by_cases hz : s.ts.length = 0
    · have tz : ¬ (0 : Int) < (s.ts.length : Int) := by omega
      have HEND : Hid (endS (a0.size : Int) s = s) := Lib.hid (by unfold endS; rw [if_pos hz])
      have HWX := Lib.hid (belowG HBW.out (HS4.out.old) (by have := HSB.out; omega))
      clear hz
      cases hbad : s.bad with
      | true =>
        have HE : Hid (parseT a0 = (z44, s.pos, 31)) := Lib.hid (by rw [HPE.out]; show (if (endS _ s).bad = true then _ else _) = _; rw [HEND.out, if_pos hbad])
        simp only [hbad] at hc2
        have zc0 : w4.cell? ⟨b2, 0, none⟩ = some (.int .i64 0) := (blk_cell HB24.out 0).trans rfl
        have zc1 : w4.cell? ⟨b2, 1, none⟩ = some (.string (⟨#[]⟩ : ByteArray)) := (blk_cell HB24.out 1).trans rfl
        have zc2 : w4.cell? ⟨b2, 2, none⟩ = some (.int .i64 0) := (blk_cell HB24.out 2).trans rfl
        have zc3 : w4.cell? ⟨b2, 3, none⟩ = some (.int .u64 0) := (blk_cell HB24.out 3).trans rfl
        have zc4 : w4.cell? ⟨b2, 4, none⟩ = some (.slice none 0 0) := (blk_cell HB24.out 4).trans rfl
        have zc5 : w4.cell? ⟨b2, 5, none⟩ = some (.int .i64 0) := (blk_cell HB24.out 5).trans rfl
        have zf0 := blk_frozen HB24.out 0
        have zf1 := blk_frozen HB24.out 1
        have zf2 := blk_frozen HB24.out 2
        have zf3 := blk_frozen HB24.out 3
        have zf4 := blk_frozen HB24.out 4
        have zf5 := blk_frozen HB24.out 5
        obtain ⟨rfl, rfl, rfl, rfl, rfl, rfl, rfl, rfl⟩ := parse_split HP.out HE.out
        go_upto_region 9 with (fail)
        go_region
        all_goals go_wp2
        all_goals exact bodyPost_ret (v := .tuple #[.agg #[.int .i64 0, .string (⟨#[]⟩ : ByteArray), .int .i64 0, .int .u64 0, .slice none 0 0, .int .i64 0], .int .i64 s.pos, .int .i64 31]) (results_ctt Tryd.results22 _ _ b2 44 _ (0, 0) _ rfl (blk_drew (blk_put6 HB24.out _ _ _ _ _ _)) Tryd.underlying44 rfl size44) rfl ⟨.slice none 0 0, rfl, Kd.R_nil _ _ _ _ _, (below_drew1 (below_set6 HWX.out HW.out _ _ _ _ _ _))⟩
      | false =>
        simp only [hbad] at hc2
        have hwt := HWT.out
        obtain ⟨A4, c4, hA4, hl4, hC4⟩ := Kd.R_reads HR4.out
        have HC4 : Hid (Kd.C k44 w4 A3 b.f4.length b.f4 ∧ b.f4.length ≤ c3) := Lib.hid (by injection hA4 with e1 e2 e3; rw [e1, e3]; exact ⟨hC4, hl4⟩)
        clear hA4 hl4 hC4
        have CD := fun (W : World) (hC : Kd.C k44 W A3 b.f4.length b.f4) => parse_depth.calls (2 * wt b) b.f0 b.f1 b.f2 b.f3 A3 c3 b.f4 b.f5 (depthT b : Int) W hC HC4.out.2 (depth_f (wt b) (2 * wt b) b (Nat.le_refl _) (Nat.le_refl _) (by omega))
        clear hwt
        by_cases hd : 24 < depthT b
        · have HE : Hid (parseT a0 = (z44, 0, 32)) := Lib.hid (by rw [HPE.out]; show (if (endS _ s).bad = true then _ else if 24 < depthT b then _ else _) = _; rw [HEND.out, if_neg (by rw [hbad]; decide), if_pos hd])
          obtain ⟨rfl, rfl, rfl, rfl, rfl, rfl, rfl, rfl⟩ := parse_split HP.out HE.out
          have yc0 : w4.cell? ⟨b3, 0, none⟩ = some (.int .i64 b.f0) := (blk_cell HB34.out 0).trans rfl
          have yc1 : w4.cell? ⟨b3, 1, none⟩ = some (.string b.f1) := (blk_cell HB34.out 1).trans rfl
          have yc2 : w4.cell? ⟨b3, 2, none⟩ = some (.int .i64 b.f2) := (blk_cell HB34.out 2).trans rfl
          have yc3 : w4.cell? ⟨b3, 3, none⟩ = some (.int .u64 b.f3) := (blk_cell HB34.out 3).trans rfl
          have yc4 : w4.cell? ⟨b3, 4, none⟩ = some (.slice A3 b.f4.length c3) := (blk_cell HB34.out 4).trans rfl
          have yc5 : w4.cell? ⟨b3, 5, none⟩ = some (.int .i64 b.f5) := (blk_cell HB34.out 5).trans rfl
          have yf0 := blk_frozen HB34.out 0
          have yf1 := blk_frozen HB34.out 1
          have yf2 := blk_frozen HB34.out 2
          have yf3 := blk_frozen HB34.out 3
          have yf4 := blk_frozen HB34.out 4
          have yf5 := blk_frozen HB34.out 5
          have td : (24 : Int) < (depthT b : Int) := by omega
          clear hd
          go_wp2_with (go_at_call 51; (with_reducible refine (CD _ ?_).mono ?_); exact HC4.out.1; rintro e w8 ⟨rfl, hb8⟩; have HB28 := Lib.hid (blk_belowW hb8 HB24.out); have HB38 := Lib.hid (blk_belowW hb8 HB34.out); have HR8 := Lib.hid (Kd.R_below HR4.out hb8); have HW8 := Lib.hid (below_step HWX.out hb8); clear hb8; have zc0 : w8.cell? ⟨b2, 0, none⟩ = some (.int .i64 0) := (blk_cell HB28.out 0).trans rfl; have zc1 : w8.cell? ⟨b2, 1, none⟩ = some (.string (⟨#[]⟩ : ByteArray)) := (blk_cell HB28.out 1).trans rfl; have zc2 : w8.cell? ⟨b2, 2, none⟩ = some (.int .i64 0) := (blk_cell HB28.out 2).trans rfl; have zc3 : w8.cell? ⟨b2, 3, none⟩ = some (.int .u64 0) := (blk_cell HB28.out 3).trans rfl; have zc4 : w8.cell? ⟨b2, 4, none⟩ = some (.slice none 0 0) := (blk_cell HB28.out 4).trans rfl; have zc5 : w8.cell? ⟨b2, 5, none⟩ = some (.int .i64 0) := (blk_cell HB28.out 5).trans rfl; have zf0 := blk_frozen HB28.out 0; have zf1 := blk_frozen HB28.out 1; have zf2 := blk_frozen HB28.out 2; have zf3 := blk_frozen HB28.out 3; have zf4 := blk_frozen HB28.out 4; have zf5 := blk_frozen HB28.out 5; have xc0 : w8.cell? ⟨b3, 0, none⟩ = some (.int .i64 b.f0) := (blk_cell HB38.out 0).trans rfl; have xc1 : w8.cell? ⟨b3, 1, none⟩ = some (.string b.f1) := (blk_cell HB38.out 1).trans rfl; have xc2 : w8.cell? ⟨b3, 2, none⟩ = some (.int .i64 b.f2) := (blk_cell HB38.out 2).trans rfl; have xc3 : w8.cell? ⟨b3, 3, none⟩ = some (.int .u64 b.f3) := (blk_cell HB38.out 3).trans rfl; have xc4 : w8.cell? ⟨b3, 4, none⟩ = some (.slice A3 b.f4.length c3) := (blk_cell HB38.out 4).trans rfl; have xc5 : w8.cell? ⟨b3, 5, none⟩ = some (.int .i64 b.f5) := (blk_cell HB38.out 5).trans rfl; have xf0 := blk_frozen HB38.out 0; have xf1 := blk_frozen HB38.out 1; have xf2 := blk_frozen HB38.out 2; have xf3 := blk_frozen HB38.out 3; have xf4 := blk_frozen HB38.out 4; have xf5 := blk_frozen HB38.out 5)
          exact bodyPost_ret (v := .tuple #[.agg #[.int .i64 0, .string (⟨#[]⟩ : ByteArray), .int .i64 0, .int .u64 0, .slice none 0 0, .int .i64 0], .int .i64 0, .int .i64 32]) (results_ctt Tryd.results22 _ _ b2 44 _ (0, 0) _ rfl (blk_put6 HB28.out _ _ _ _ _ _) Tryd.underlying44 rfl size44) rfl ⟨.slice none 0 0, rfl, Kd.R_nil _ _ _ _ _, (below_set6 HW8.out HW.out _ _ _ _ _ _)⟩
        · have HE : Hid (parseT a0 = (b, 0, 0)) := Lib.hid (by rw [HPE.out]; show (if (endS _ s).bad = true then _ else if 24 < depthT b then _ else (b, _)) = _; rw [HEND.out, if_neg (by rw [hbad]; decide), if_neg hd])
          obtain ⟨rfl, rfl, rfl, rfl, rfl, rfl, rfl, rfl⟩ := parse_split HP.out HE.out
          have yc0 : w4.cell? ⟨b3, 0, none⟩ = some (.int .i64 b.f0) := (blk_cell HB34.out 0).trans rfl
          have yc1 : w4.cell? ⟨b3, 1, none⟩ = some (.string b.f1) := (blk_cell HB34.out 1).trans rfl
          have yc2 : w4.cell? ⟨b3, 2, none⟩ = some (.int .i64 b.f2) := (blk_cell HB34.out 2).trans rfl
          have yc3 : w4.cell? ⟨b3, 3, none⟩ = some (.int .u64 b.f3) := (blk_cell HB34.out 3).trans rfl
          have yc4 : w4.cell? ⟨b3, 4, none⟩ = some (.slice A3 b.f4.length c3) := (blk_cell HB34.out 4).trans rfl
          have yc5 : w4.cell? ⟨b3, 5, none⟩ = some (.int .i64 b.f5) := (blk_cell HB34.out 5).trans rfl
          have yf0 := blk_frozen HB34.out 0
          have yf1 := blk_frozen HB34.out 1
          have yf2 := blk_frozen HB34.out 2
          have yf3 := blk_frozen HB34.out 3
          have yf4 := blk_frozen HB34.out 4
          have yf5 := blk_frozen HB34.out 5
          have td : ¬ (24 : Int) < (depthT b : Int) := by omega
          clear hd
          go_wp2_with (go_at_call 51; (with_reducible refine (CD _ ?_).mono ?_); exact HC4.out.1; rintro e w8 ⟨rfl, hb8⟩; have HB28 := Lib.hid (blk_belowW hb8 HB24.out); have HB38 := Lib.hid (blk_belowW hb8 HB34.out); have HR8 := Lib.hid (Kd.R_below HR4.out hb8); have HW8 := Lib.hid (below_step HWX.out hb8); clear hb8; have zc0 : w8.cell? ⟨b2, 0, none⟩ = some (.int .i64 0) := (blk_cell HB28.out 0).trans rfl; have zc1 : w8.cell? ⟨b2, 1, none⟩ = some (.string (⟨#[]⟩ : ByteArray)) := (blk_cell HB28.out 1).trans rfl; have zc2 : w8.cell? ⟨b2, 2, none⟩ = some (.int .i64 0) := (blk_cell HB28.out 2).trans rfl; have zc3 : w8.cell? ⟨b2, 3, none⟩ = some (.int .u64 0) := (blk_cell HB28.out 3).trans rfl; have zc4 : w8.cell? ⟨b2, 4, none⟩ = some (.slice none 0 0) := (blk_cell HB28.out 4).trans rfl; have zc5 : w8.cell? ⟨b2, 5, none⟩ = some (.int .i64 0) := (blk_cell HB28.out 5).trans rfl; have zf0 := blk_frozen HB28.out 0; have zf1 := blk_frozen HB28.out 1; have zf2 := blk_frozen HB28.out 2; have zf3 := blk_frozen HB28.out 3; have zf4 := blk_frozen HB28.out 4; have zf5 := blk_frozen HB28.out 5; have xc0 : w8.cell? ⟨b3, 0, none⟩ = some (.int .i64 b.f0) := (blk_cell HB38.out 0).trans rfl; have xc1 : w8.cell? ⟨b3, 1, none⟩ = some (.string b.f1) := (blk_cell HB38.out 1).trans rfl; have xc2 : w8.cell? ⟨b3, 2, none⟩ = some (.int .i64 b.f2) := (blk_cell HB38.out 2).trans rfl; have xc3 : w8.cell? ⟨b3, 3, none⟩ = some (.int .u64 b.f3) := (blk_cell HB38.out 3).trans rfl; have xc4 : w8.cell? ⟨b3, 4, none⟩ = some (.slice A3 b.f4.length c3) := (blk_cell HB38.out 4).trans rfl; have xc5 : w8.cell? ⟨b3, 5, none⟩ = some (.int .i64 b.f5) := (blk_cell HB38.out 5).trans rfl; have xf0 := blk_frozen HB38.out 0; have xf1 := blk_frozen HB38.out 1; have xf2 := blk_frozen HB38.out 2; have xf3 := blk_frozen HB38.out 3; have xf4 := blk_frozen HB38.out 4; have xf5 := blk_frozen HB38.out 5)
          exact bodyPost_ret (v := .tuple #[.agg #[.int .i64 b.f0, .string b.f1, .int .i64 b.f2, .int .u64 b.f3, .slice A3 b.f4.length c3, .int .i64 b.f5], .int .i64 0, .int .i64 0]) (results_ctt Tryd.results22 _ _ b2 44 _ (0, 0) _ rfl (blk_put6 HB28.out _ _ _ _ _ _) Tryd.underlying44 rfl size44) rfl ⟨.slice A3 b.f4.length c3, rfl, R_true (R_set6 HR8.out (fun q hq => hq.1) _ _ _ _ _ _), below_set6 HW8.out HW.out _ _ _ _ _ _⟩
    · have tz : (0 : Int) < (s.ts.length : Int) := by omega
      have HEND : Hid (endS (a0.size : Int) s = failS (a0.size : Int) s) := Lib.hid (by unfold endS; rw [if_neg hz])
      have HFB : Hid ((failS (a0.size : Int) s).bad = true) := Lib.hid (by unfold failS; split <;> rfl)
      have HE : Hid (parseT a0 = (z44, (failS (a0.size : Int) s).pos, 31)) := Lib.hid (by rw [HPE.out]; show (if (endS _ s).bad = true then (z44, (endS _ s).pos, 31) else _) = _; rw [HEND.out, if_pos HFB.out])
      have CF := fail_z (W0 := w1) (g := g) (ev := (a0.size : Int)) (st := s)
      have hgW : w.heap.size ≤ g := by have := HSB.out; omega
      clear hz
      generalize failS (a0.size : Int) s = sf at *
      obtain ⟨rfl, rfl, rfl, rfl, rfl, rfl, rfl, rfl⟩ := parse_split HP.out HE.out
      go_upto_region 8 with (go_at_call 50; (with_reducible refine (CF _ ?_).mono ?_); exact HS4.out; rintro e w5 ⟨rfl, hS5, hF5⟩; have HS5 := Lib.hid hS5; have HB25 := Lib.hid (hF5.at_ hn2 HB24.out); have HB35 := Lib.hid (hF5.at_ hn3 HB34.out); have HF5 := Lib.hid hF5; clear hS5 hF5)
      obtain ⟨AU, cu, hlc, hCC, hbb⟩ := HS5.out.cells
      have hd2 : w5.cell? ⟨g, 2, none⟩ = some (.bool sf.bad) := (blk_cell hbb 2).trans rfl
      have hd3 : w5.cell? ⟨g, 3, none⟩ = some (.int .i64 sf.pos) := (blk_cell hbb 3).trans rfl
      clear hCC hbb hlc hc0 hc2 hc3 CF
      rw [HFB.out] at hd2
      have zc0 : w5.cell? ⟨b2, 0, none⟩ = some (.int .i64 0) := (blk_cell HB25.out 0).trans rfl
      have zc1 : w5.cell? ⟨b2, 1, none⟩ = some (.string (⟨#[]⟩ : ByteArray)) := (blk_cell HB25.out 1).trans rfl
      have zc2 : w5.cell? ⟨b2, 2, none⟩ = some (.int .i64 0) := (blk_cell HB25.out 2).trans rfl
      have zc3 : w5.cell? ⟨b2, 3, none⟩ = some (.int .u64 0) := (blk_cell HB25.out 3).trans rfl
      have zc4 : w5.cell? ⟨b2, 4, none⟩ = some (.slice none 0 0) := (blk_cell HB25.out 4).trans rfl
      have zc5 : w5.cell? ⟨b2, 5, none⟩ = some (.int .i64 0) := (blk_cell HB25.out 5).trans rfl
      have zf0 := blk_frozen HB25.out 0
      have zf1 := blk_frozen HB25.out 1
      have zf2 := blk_frozen HB25.out 2
      have zf3 := blk_frozen HB25.out 3
      have zf4 := blk_frozen HB25.out 4
      have zf5 := blk_frozen HB25.out 5
      have HWX := Lib.hid (belowG HBW.out (HS5.out.old) hgW)
      go_upto_region 9 with (fail)
      go_region
      all_goals go_wp2
      all_goals exact bodyPost_ret (v := .tuple #[.agg #[.int .i64 0, .string (⟨#[]⟩ : ByteArray), .int .i64 0, .int .u64 0, .slice none 0 0, .int .i64 0], .int .i64 sf.pos, .int .i64 31]) (results_ctt Tryd.results22 _ _ b2 44 _ (0, 0) _ rfl (blk_drew (blk_put6 HB25.out _ _ _ _ _ _)) Tryd.underlying44 rfl size44) rfl ⟨.slice none 0 0, rfl, Kd.R_nil _ _ _ _ _, (below_drew1 (below_set6 HWX.out HW.out _ _ _ _ _ _))⟩
  · have tc : (code != 0) = true := bne_iff_ne.2 hcode
    have HE : Hid (parseT a0 = (z44, at_, code)) := Lib.hid (by unfold parseT; rw [if_neg (by rw [HSC.out]; exact hcode), HSC.out])
    obtain ⟨rfl, rfl, rfl, rfl, rfl, rfl, rfl, rfl⟩ := parse_split HP.out HE.out
    clear hcode
    go_wp2_with (go_at_call 15; (with_reducible refine (CSC _).mono ?_); rintro e w1 ⟨v1, rfl, hR1, hB1⟩; obtain ⟨A1, c1, rfl, hl1, hC1⟩ := Kd.R_reads hR1; have HC1 := Lib.hid hC1; have HL1 := Lib.hid hl1; have HB1 := Lib.hid hB1; have HB21 := Lib.hid (blk_belowW hB1 HZ.out); clear hR1 hC1 hl1 hB1; have zc0 : w1.cell? ⟨b2, 0, none⟩ = some (.int .i64 0) := (blk_cell HB21.out 0).trans rfl; have zc1 : w1.cell? ⟨b2, 1, none⟩ = some (.string (⟨#[]⟩ : ByteArray)) := (blk_cell HB21.out 1).trans rfl; have zc2 : w1.cell? ⟨b2, 2, none⟩ = some (.int .i64 0) := (blk_cell HB21.out 2).trans rfl; have zc3 : w1.cell? ⟨b2, 3, none⟩ = some (.int .u64 0) := (blk_cell HB21.out 3).trans rfl; have zc4 : w1.cell? ⟨b2, 4, none⟩ = some (.slice none 0 0) := (blk_cell HB21.out 4).trans rfl; have zc5 : w1.cell? ⟨b2, 5, none⟩ = some (.int .i64 0) := (blk_cell HB21.out 5).trans rfl; have zf0 := blk_frozen HB21.out 0; have zf1 := blk_frozen HB21.out 1; have zf2 := blk_frozen HB21.out 2; have zf3 := blk_frozen HB21.out 3; have zf4 := blk_frozen HB21.out 4; have zf5 := blk_frozen HB21.out 5)
    exact bodyPost_ret (v := .tuple #[.agg #[.int .i64 0, .string (⟨#[]⟩ : ByteArray), .int .i64 0, .int .u64 0, .slice none 0 0, .int .i64 0], .int .i64 at_, .int .i64 code]) (results_ctt Tryd.results22 _ _ b2 44 _ (0, 0) _ rfl (blk_put6 HB21.out _ _ _ _ _ _) Tryd.underlying44 rfl size44) rfl ⟨.slice none 0 0, rfl, Kd.R_nil _ _ _ _ _, (below_set6 (below_step HBA.out HB1.out) HW.out _ _ _ _ _ _)⟩

end Go.Proofs.YtfgfoofojofnmaaDoor.Q
