/- The parser's functions inter, expr, ranged, unary, atom, call, each walked over the contracts of those that it calls. -/
import Derived.Deep.RegionWith
import Derived.Deep.RegionLaw
import Derived.Test.YtfgfoofojofnmaaDoorGP2
set_option linter.unusedVariables false
set_option linter.unusedSimpArgs false
namespace Go.Proofs.YtfgfoofojofnmaaDoor.Q
open Go.RowKit Go.Proofs.YtfgfoofojofnmaaDoorW.PrintWords Go.Proofs.YtfgfoofojofnmaaDoorW.PrintLast Go.Proofs.YtfgfoofojofnmaaDoorW.PrintMore
set_option linter.unusedVariables false
set_option linter.unusedSimpArgs false
open Go.Proofs.YtfgfoofojofnmaaDoor.Hand
set_option maxHeartbeats 2000000 in
set_option maxRecDepth 100000 in
theorem inter_walk (n : Nat) (RC : ∀ m, m ≤ n → FnC 96 rangedF 4 m) : FnC 82 interF 5 (n + 1) := by
  intro W0 g ev st w hfu hR
  go_enter Tryd.func82, Tryd.ntmps82
  go_upto_region 1 with (fail)
  have HZ := Lib.hid (blk_new w (Obj.cells #[.int .i64 0, .string (⟨#[]⟩ : ByteArray), .int .i64 0, .int .u64 0, .slice none 0 0, .int .i64 0] 44))
  have HRA := Lib.hid (hR.alloc (Obj.cells #[.int .i64 0, .string (⟨#[]⟩ : ByteArray), .int .i64 0, .int .u64 0, .slice none 0 0, .int .i64 0] 44))
  have HFA := Lib.hid ((Frm.refl g w).alloc (Obj.cells #[.int .i64 0, .string (⟨#[]⟩ : ByteArray), .int .i64 0, .int .u64 0, .slice none 0 0, .int .i64 0] 44))
  have hgb : g < w.heap.size := hR.lt
  have HSA : Hid ((w.alloc (Obj.cells #[.int .i64 0, .string (⟨#[]⟩ : ByteArray), .int .i64 0, .int .u64 0, .slice none 0 0, .int .i64 0] 44)).heap.size = w.heap.size + 1) := Lib.hid (Array.size_push _)
  clear hR
  generalize w.alloc (Obj.cells #[.int .i64 0, .string (⟨#[]⟩ : ByteArray), .int .i64 0, .int .u64 0, .slice none 0 0, .int .i64 0] 44) = wA at *
  generalize hb2 : w.heap.size = b2 at *
  have HSB : Hid (w.heap.size = b2) := Lib.hid hb2
  clear hb2
  have C1 := (RC n (Nat.le_refl _)).use (W0 := W0) (g := g) (ev := ev) (st := st) (by omega)
  have HEQ : Hid (interF ev (n + 1) st = interL ev n (rangedF ev n st).1 (rangedF ev n st).2) := Lib.hid rfl
  have hlen : (rangedF ev n st).2.ts.length ≤ st.ts.length := (ts_le ev n).2.2.1 st
  generalize rangedF ev n st = q0 at *
  obtain ⟨a0, s0⟩ := q0
  go_upto_block 0 with (go_at_call 96; (with_reducible refine (C1 _ ?_).mono ?_); exact HRA.out; rintro e w1 ⟨A1, c1, rfl, hR1, hS1, hF1⟩; have HR1 := Lib.hid hR1; have HS1 := Lib.hid hS1; have HF1 := Lib.hid hF1; clear hR1 hS1 hF1)
  clear C1
  have HB3 := Lib.hid (blk_new w1 (Obj.cells #[.int .i64 a0.f0, .string a0.f1, .int .i64 a0.f2, .int .u64 a0.f3, .slice A1 a0.f4.length c1, .int .i64 a0.f5] 44))
  have HB2 := Lib.hid (blk_alloc (HF1.out.at_ (Nat.ne_of_gt hgb) HZ.out) (Obj.cells #[.int .i64 a0.f0, .string a0.f1, .int .i64 a0.f2, .int .u64 a0.f3, .slice A1 a0.f4.length c1, .int .i64 a0.f5] 44))
  have HS := Lib.hid (HS1.out.alloc (Obj.cells #[.int .i64 a0.f0, .string a0.f1, .int .i64 a0.f2, .int .u64 a0.f3, .slice A1 a0.f4.length c1, .int .i64 a0.f5] 44))
  have HF := Lib.hid ((HFA.out.trans HF1.out).alloc (Obj.cells #[.int .i64 a0.f0, .string a0.f1, .int .i64 a0.f2, .int .u64 a0.f3, .slice A1 a0.f4.length c1, .int .i64 a0.f5] 44))
  have HR := Lib.hid (Kd.R_alloc (R_between (base := w.heap.size) (b2 := b2) HR1.out (by rw [HSA.out, HSB.out]; omega) (by rw [HSA.out]; omega) (Nat.le_refl _)) (Obj.cells #[.int .i64 a0.f0, .string a0.f1, .int .i64 a0.f2, .int .u64 a0.f3, .slice A1 a0.f4.length c1, .int .i64 a0.f5] 44))
  have hg3 : b2 < w1.heap.size := by have := HF1.out.size; rw [HSA.out] at this; omega
  clear HR1 HS1 HF1 HRA HFA HZ HSA
  generalize w1.alloc (Obj.cells #[.int .i64 a0.f0, .string a0.f1, .int .i64 a0.f2, .int .u64 a0.f3, .slice A1 a0.f4.length c1, .int .i64 a0.f5] 44) = wL at *
  generalize w1.heap.size = b3 at *
  have hn2 : b2 ≠ g := Nat.ne_of_gt hgb
  have hn3 : b3 ≠ g := by omega
  have hn23 : b3 ≠ b2 := by omega
  have hgb3 : g < b3 := by omega
  have hb3w : w.heap.size ≤ b3 := by have := HSB.out; omega
  have hokg : ∀ q, (q ≠ b2 ∧ q ≠ b3) → w.heap.size ≤ q → q ≠ g := fun q _ hq => by have := HSB.out; omega
  go_wp2
  go_loopw [4] (fun v4 wr => ∃ (k : Nat) (a : S44) (s : St) (A : Option Addr) (c : Nat), (6 * s.ts.length ≤ k + 1 ∧ k ≤ n) ∧ Aside0 (interF ev (n + 1) st = interL ev k a s) ∧ Aside0 (wr.heap[b3]? = some (.cells #[.int .i64 a.f0, .string a.f1, .int .i64 a.f2, .int .u64 a.f3, .slice A a.f4.length c, .int .i64 a.f5] 44 (0, 0))) ∧ Aside0 (wr.heap[b2]? = some (.cells #[.int .i64 0, .string (⟨#[]⟩ : ByteArray), .int .i64 0, .int .u64 0, .slice none 0 0, .int .i64 0] 44 (0, 0))) ∧ Aside0 (k44.R 44 wr w.heap.size (fun q => q ≠ b2 ∧ q ≠ b3) (.slice A a.f4.length c) a.f4) ∧ Aside0 (RdAt W0 g ev s wr) ∧ Aside0 (Frm g w wr)) (fun _ wr => tokLen g wr)
  case atStart => exact ⟨n, a0, s0, A1, c1, ⟨by omega, Nat.le_refl _⟩, ⟨HEQ.out⟩, ⟨HB3.out⟩, ⟨HB2.out⟩, ⟨HR.out⟩, ⟨HS.out⟩, ⟨HF.out⟩⟩
  case round =>
    clear HEQ HB3 HB2 HR HS HF hlen
    obtain ⟨k, a, s, A, c, ⟨hk, hkn⟩, HEQ, HB3, HB2, HR, HS, HF⟩ := hrel
    have HTL := Lib.hid HS.out.len
    rcases hsg : signAt (str1 38) s with _ | ⟨p, s1⟩
    · have CS := sign_no (W0 := W0) (g := g) (ev := ev) hsg
      have HE : Hid (interF ev (n + 1) st = (a, s)) := Lib.hid (HEQ.out.trans (interL_none hsg))
      clear hsg HEQ
      go_wp2_with (go_at_call 83; (with_reducible refine (CS _ ?_).mono ?_); exact HS.out; rintro e w2 ⟨rfl, hS2, hF2⟩; have HS2 := Lib.hid hS2; have HF2 := Lib.hid hF2; have HB32 := Lib.hid (hF2.at_ hn3 HB3.out); have HB22 := Lib.hid (hF2.at_ hn2 HB2.out); have HR2 := Lib.hid (R_frm' HR.out hF2 hokg); clear hS2 hF2; have yc0 : w2.cell? ⟨b3, 0, none⟩ = some (.int .i64 a.f0) := (blk_cell HB32.out 0).trans rfl; have yc1 : w2.cell? ⟨b3, 1, none⟩ = some (.string a.f1) := (blk_cell HB32.out 1).trans rfl; have yc2 : w2.cell? ⟨b3, 2, none⟩ = some (.int .i64 a.f2) := (blk_cell HB32.out 2).trans rfl; have yc3 : w2.cell? ⟨b3, 3, none⟩ = some (.int .u64 a.f3) := (blk_cell HB32.out 3).trans rfl; have yc4 : w2.cell? ⟨b3, 4, none⟩ = some (.slice A a.f4.length c) := (blk_cell HB32.out 4).trans rfl; have yc5 : w2.cell? ⟨b3, 5, none⟩ = some (.int .i64 a.f5) := (blk_cell HB32.out 5).trans rfl; have yf0 := blk_frozen HB32.out 0; have yf1 := blk_frozen HB32.out 1; have yf2 := blk_frozen HB32.out 2; have yf3 := blk_frozen HB32.out 3; have yf4 := blk_frozen HB32.out 4; have yf5 := blk_frozen HB32.out 5; have zc0 : w2.cell? ⟨b2, 0, none⟩ = some (.int .i64 0) := (blk_cell HB22.out 0).trans rfl; have zc1 : w2.cell? ⟨b2, 1, none⟩ = some (.string (⟨#[]⟩ : ByteArray)) := (blk_cell HB22.out 1).trans rfl; have zc2 : w2.cell? ⟨b2, 2, none⟩ = some (.int .i64 0) := (blk_cell HB22.out 2).trans rfl; have zc3 : w2.cell? ⟨b2, 3, none⟩ = some (.int .u64 0) := (blk_cell HB22.out 3).trans rfl; have zc4 : w2.cell? ⟨b2, 4, none⟩ = some (.slice none 0 0) := (blk_cell HB22.out 4).trans rfl; have zc5 : w2.cell? ⟨b2, 5, none⟩ = some (.int .i64 0) := (blk_cell HB22.out 5).trans rfl; have zf0 := blk_frozen HB22.out 0; have zf1 := blk_frozen HB22.out 1; have zf2 := blk_frozen HB22.out 2; have zf3 := blk_frozen HB22.out 3; have zf4 := blk_frozen HB22.out 4; have zf5 := blk_frozen HB22.out 5)
      exact bodyPost_ret (v := .agg #[.int .i64 a.f0, .string a.f1, .int .i64 a.f2, .int .u64 a.f3, .slice A a.f4.length c, .int .i64 a.f5]) (results_c Tryd.results82 _ _ b2 44 _ (0, 0) _ rfl (blk_put6 HB22.out _ _ _ _ _ _) Tryd.underlying44 rfl size44) rfl (ndPost_of HE.out ⟨_, rfl, R_true (R_set6 HR2.out (fun q hq => hq.1) _ _ _ _ _ _), HS2.out.set6 hgb _ _ _ _ _ _, (HF.out.trans HF2.out).set6 (Nat.le_of_eq HSB.out) _ _ _ _ _ _⟩)
    · have CS := sign_yes (W0 := W0) (g := g) (ev := ev) hsg
      have hl1 := signAt_len hsg
      obtain ⟨k, rfl⟩ : ∃ k1, k = k1 + 1 := ⟨k - 1, by omega⟩
      have CR := (RC k (by omega)).use (W0 := W0) (g := g) (ev := ev) (st := s1) (by omega)
      have HEQ2 : Hid (interF ev (n + 1) st = interL ev k (nd 8 [a, (rangedF ev k s1).1] p) (rangedF ev k s1).2) := Lib.hid (HEQ.out.trans (interL_some hsg))
      have hlen : (rangedF ev k s1).2.ts.length ≤ s1.ts.length := (ts_le ev k).2.2.1 s1
      clear hsg HEQ
      generalize rangedF ev k s1 = q1 at *
      obtain ⟨b, s2⟩ := q1
      go_upto_region 5 with (go_at_call 83; (with_reducible refine (CS _ ?_).mono ?_); exact HS.out; rintro e w2 ⟨rfl, hS2, hF2⟩; have HS2 := Lib.hid hS2; have HF2 := Lib.hid hF2; have HB32 := Lib.hid (hF2.at_ hn3 HB3.out); have HB22 := Lib.hid (hF2.at_ hn2 HB2.out); have HR2 := Lib.hid (R_frm' HR.out hF2 hokg); clear hS2 hF2; have yc0 : w2.cell? ⟨b3, 0, none⟩ = some (.int .i64 a.f0) := (blk_cell HB32.out 0).trans rfl; have yc1 : w2.cell? ⟨b3, 1, none⟩ = some (.string a.f1) := (blk_cell HB32.out 1).trans rfl; have yc2 : w2.cell? ⟨b3, 2, none⟩ = some (.int .i64 a.f2) := (blk_cell HB32.out 2).trans rfl; have yc3 : w2.cell? ⟨b3, 3, none⟩ = some (.int .u64 a.f3) := (blk_cell HB32.out 3).trans rfl; have yc4 : w2.cell? ⟨b3, 4, none⟩ = some (.slice A a.f4.length c) := (blk_cell HB32.out 4).trans rfl; have yc5 : w2.cell? ⟨b3, 5, none⟩ = some (.int .i64 a.f5) := (blk_cell HB32.out 5).trans rfl; have yf0 := blk_frozen HB32.out 0; have yf1 := blk_frozen HB32.out 1; have yf2 := blk_frozen HB32.out 2; have yf3 := blk_frozen HB32.out 3; have yf4 := blk_frozen HB32.out 4; have yf5 := blk_frozen HB32.out 5; have zc0 : w2.cell? ⟨b2, 0, none⟩ = some (.int .i64 0) := (blk_cell HB22.out 0).trans rfl; have zc1 : w2.cell? ⟨b2, 1, none⟩ = some (.string (⟨#[]⟩ : ByteArray)) := (blk_cell HB22.out 1).trans rfl; have zc2 : w2.cell? ⟨b2, 2, none⟩ = some (.int .i64 0) := (blk_cell HB22.out 2).trans rfl; have zc3 : w2.cell? ⟨b2, 3, none⟩ = some (.int .u64 0) := (blk_cell HB22.out 3).trans rfl; have zc4 : w2.cell? ⟨b2, 4, none⟩ = some (.slice none 0 0) := (blk_cell HB22.out 4).trans rfl; have zc5 : w2.cell? ⟨b2, 5, none⟩ = some (.int .i64 0) := (blk_cell HB22.out 5).trans rfl; have zf0 := blk_frozen HB22.out 0; have zf1 := blk_frozen HB22.out 1; have zf2 := blk_frozen HB22.out 2; have zf3 := blk_frozen HB22.out 3; have zf4 := blk_frozen HB22.out 4; have zf5 := blk_frozen HB22.out 5)
      clear CS
      trace_state
      go_region_with (go_at_call 96; (with_reducible refine (CR _ ?_).mono ?_); (first | exact HS2.out | exact HS2.out.drew | exact HS2.out.drewN _); rintro e w3 ⟨A3, c3, rfl, hR3, hS3, hF3⟩; have HS3 := Lib.hid hS3; have HF3 := Lib.hid (Frm.trans (by first | exact HF2.out | exact HF2.out.drew | exact HF2.out.drewN _) hF3); have HB33 := Lib.hid (HF3.out.at_ hn3 HB3.out); have HB23 := Lib.hid (HF3.out.at_ hn2 HB2.out); have HR3a := Lib.hid (R_frm' HR.out HF3.out hokg); have HR3b := Lib.hid (R_new2 (base := w.heap.size) (b2 := b2) (b3 := b3) hR3 HSB.out (blk_lt HB22.out) (blk_lt HB32.out)); clear hR3 hS3 hF3; have hb3l := blk_lt HB33.out; have hb2l := blk_lt HB23.out; have xc0 : w3.cell? ⟨b3, 0, none⟩ = some (.int .i64 a.f0) := (blk_cell HB33.out 0).trans rfl; have xc1 : w3.cell? ⟨b3, 1, none⟩ = some (.string a.f1) := (blk_cell HB33.out 1).trans rfl; have xc2 : w3.cell? ⟨b3, 2, none⟩ = some (.int .i64 a.f2) := (blk_cell HB33.out 2).trans rfl; have xc3 : w3.cell? ⟨b3, 3, none⟩ = some (.int .u64 a.f3) := (blk_cell HB33.out 3).trans rfl; have xc4 : w3.cell? ⟨b3, 4, none⟩ = some (.slice A a.f4.length c) := (blk_cell HB33.out 4).trans rfl; have xc5 : w3.cell? ⟨b3, 5, none⟩ = some (.int .i64 a.f5) := (blk_cell HB33.out 5).trans rfl; have xf0 := blk_frozen HB33.out 0; have xf1 := blk_frozen HB33.out 1; have xf2 := blk_frozen HB33.out 2; have xf3 := blk_frozen HB33.out 3; have xf4 := blk_frozen HB33.out 4; have xf5 := blk_frozen HB33.out 5)
      all_goals
        go_wp2
        go_roundw
        case rel => exact ⟨k, nd 8 [a, b] p, s2, some ⟨w3.heap.size, 0, none⟩, 2, ⟨by omega, by omega⟩, ⟨HEQ2.out⟩, ⟨blk_alloc (blk_put6 HB33.out _ _ _ _ _ _) _⟩, ⟨blk_alloc (blk_far6 HB23.out (Ne.symm hn23) _ _ _ _ _ _) _⟩, ⟨R_pair HR3a.out HR3b.out HSB.out hb2l hb3l _ _ _ _ _ _⟩, ⟨(HS3.out.set6 hgb3 _ _ _ _ _ _).alloc _⟩, ⟨((HF.out.trans HF3.out).set6 hb3w _ _ _ _ _ _).alloc _⟩⟩
        case measure => rw [HTL.out, ((HS3.out.set6 hgb3 _ _ _ _ _ _).alloc _).len]; omega
set_option maxHeartbeats 4000000 in
set_option maxRecDepth 100000 in
theorem expr_walk (n : Nat) (RC : ∀ m, m ≤ n → FnC 82 interF 5 m) : FnC 49 exprF 6 (n + 1) := by
  intro W0 g ev st w hfu hR
  go_enter Tryd.func49, Tryd.ntmps49
  go_upto_region 1 with (fail)
  have HZ := Lib.hid (blk_new w (Obj.cells #[.int .i64 0, .string (⟨#[]⟩ : ByteArray), .int .i64 0, .int .u64 0, .slice none 0 0, .int .i64 0] 44))
  have HRA := Lib.hid (hR.alloc (Obj.cells #[.int .i64 0, .string (⟨#[]⟩ : ByteArray), .int .i64 0, .int .u64 0, .slice none 0 0, .int .i64 0] 44))
  have HFA := Lib.hid ((Frm.refl g w).alloc (Obj.cells #[.int .i64 0, .string (⟨#[]⟩ : ByteArray), .int .i64 0, .int .u64 0, .slice none 0 0, .int .i64 0] 44))
  have hgb : g < w.heap.size := hR.lt
  have HSA : Hid ((w.alloc (Obj.cells #[.int .i64 0, .string (⟨#[]⟩ : ByteArray), .int .i64 0, .int .u64 0, .slice none 0 0, .int .i64 0] 44)).heap.size = w.heap.size + 1) := Lib.hid (Array.size_push _)
  clear hR
  generalize w.alloc (Obj.cells #[.int .i64 0, .string (⟨#[]⟩ : ByteArray), .int .i64 0, .int .u64 0, .slice none 0 0, .int .i64 0] 44) = wA at *
  generalize hb2 : w.heap.size = b2 at *
  have HSB : Hid (w.heap.size = b2) := Lib.hid hb2
  clear hb2
  have C1 := (RC n (Nat.le_refl _)).use (W0 := W0) (g := g) (ev := ev) (st := st) (by omega)
  have HEQ : Hid (exprF ev (n + 1) st = exprL ev n (interF ev n st).1 (interF ev n st).2) := Lib.hid rfl
  have hlen : (interF ev n st).2.ts.length ≤ st.ts.length := (ts_le ev n).2.1 st
  generalize interF ev n st = q0 at *
  obtain ⟨a0, s0⟩ := q0
  go_upto_block 0 with (go_at_call 82; (with_reducible refine (C1 _ ?_).mono ?_); exact HRA.out; rintro e w1 ⟨A1, c1, rfl, hR1, hS1, hF1⟩; have HR1 := Lib.hid hR1; have HS1 := Lib.hid hS1; have HF1 := Lib.hid hF1; clear hR1 hS1 hF1)
  clear C1
  have HB3 := Lib.hid (blk_new w1 (Obj.cells #[.int .i64 a0.f0, .string a0.f1, .int .i64 a0.f2, .int .u64 a0.f3, .slice A1 a0.f4.length c1, .int .i64 a0.f5] 44))
  have HB2 := Lib.hid (blk_alloc (HF1.out.at_ (Nat.ne_of_gt hgb) HZ.out) (Obj.cells #[.int .i64 a0.f0, .string a0.f1, .int .i64 a0.f2, .int .u64 a0.f3, .slice A1 a0.f4.length c1, .int .i64 a0.f5] 44))
  have HS := Lib.hid (HS1.out.alloc (Obj.cells #[.int .i64 a0.f0, .string a0.f1, .int .i64 a0.f2, .int .u64 a0.f3, .slice A1 a0.f4.length c1, .int .i64 a0.f5] 44))
  have HF := Lib.hid ((HFA.out.trans HF1.out).alloc (Obj.cells #[.int .i64 a0.f0, .string a0.f1, .int .i64 a0.f2, .int .u64 a0.f3, .slice A1 a0.f4.length c1, .int .i64 a0.f5] 44))
  have HR := Lib.hid (Kd.R_alloc (R_between (base := w.heap.size) (b2 := b2) HR1.out (by rw [HSA.out, HSB.out]; omega) (by rw [HSA.out]; omega) (Nat.le_refl _)) (Obj.cells #[.int .i64 a0.f0, .string a0.f1, .int .i64 a0.f2, .int .u64 a0.f3, .slice A1 a0.f4.length c1, .int .i64 a0.f5] 44))
  have hg3 : b2 < w1.heap.size := by have := HF1.out.size; rw [HSA.out] at this; omega
  clear HR1 HS1 HF1 HRA HFA HZ HSA
  generalize w1.alloc (Obj.cells #[.int .i64 a0.f0, .string a0.f1, .int .i64 a0.f2, .int .u64 a0.f3, .slice A1 a0.f4.length c1, .int .i64 a0.f5] 44) = wL at *
  generalize w1.heap.size = b3 at *
  have hn2 : b2 ≠ g := Nat.ne_of_gt hgb
  have hn3 : b3 ≠ g := by omega
  have hn23 : b3 ≠ b2 := by omega
  have hgb3 : g < b3 := by omega
  have hb3w : w.heap.size ≤ b3 := by have := HSB.out; omega
  have hokg : ∀ q, (q ≠ b2 ∧ q ≠ b3) → w.heap.size ≤ q → q ≠ g := fun q _ hq => by have := HSB.out; omega
  go_wp2
  go_loopw [4] (fun v4 wr => ∃ (k : Nat) (a : S44) (s : St) (A : Option Addr) (c : Nat), (6 * s.ts.length ≤ k ∧ k ≤ n) ∧ Aside0 (exprF ev (n + 1) st = exprL ev k a s) ∧ Aside0 (wr.heap[b3]? = some (.cells #[.int .i64 a.f0, .string a.f1, .int .i64 a.f2, .int .u64 a.f3, .slice A a.f4.length c, .int .i64 a.f5] 44 (0, 0))) ∧ Aside0 (wr.heap[b2]? = some (.cells #[.int .i64 0, .string (⟨#[]⟩ : ByteArray), .int .i64 0, .int .u64 0, .slice none 0 0, .int .i64 0] 44 (0, 0))) ∧ Aside0 (k44.R 44 wr w.heap.size (fun q => q ≠ b2 ∧ q ≠ b3) (.slice A a.f4.length c) a.f4) ∧ Aside0 (RdAt W0 g ev s wr) ∧ Aside0 (Frm g w wr)) (fun _ wr => tokLen g wr)
  case atStart => exact ⟨n, a0, s0, A1, c1, ⟨by omega, Nat.le_refl _⟩, ⟨HEQ.out⟩, ⟨HB3.out⟩, ⟨HB2.out⟩, ⟨HR.out⟩, ⟨HS.out⟩, ⟨HF.out⟩⟩
  case round =>
    clear HEQ HB3 HB2 HR HS HF hlen
    obtain ⟨k, a, s, A, c, ⟨hk, hkn⟩, HEQ, HB3, HB2, HR, HS, HF⟩ := hrel
    have HTL := Lib.hid HS.out.len
    go_wp2
    have ix0 := idx2_0 (⟨#[124]⟩ : ByteArray) ⟨#[45]⟩
    have ix1 := idx2_1 (⟨#[124]⟩ : ByteArray) ⟨#[45]⟩
    rcases hor : signAt (str1 124) s with _ | ⟨p, s1⟩
    · rcases hmi : signAt (str1 45) s with _ | ⟨p, s1⟩
      · have CS1 := sign_no (W0 := W0) (g := g) (ev := ev) hor
        have CS2 := sign_no (W0 := W0) (g := g) (ev := ev) hmi
        have HE : Hid (exprF ev (n + 1) st = (a, s)) := Lib.hid (HEQ.out.trans (exprL_none hor hmi))
        clear hor hmi HEQ
        go_loopw [4, 6, 12] (fun v4 v6 v12 wq => ∃ j : Int, (j = 0 ∨ j = 1 ∨ j = 2) ∧ v12 = .int .i64 j ∧ v4 = .int .i64 6 ∧ v6 = .bool false ∧ Aside0 (wq.heap[b3]? = some (.cells #[.int .i64 a.f0, .string a.f1, .int .i64 a.f2, .int .u64 a.f3, .slice A a.f4.length c, .int .i64 a.f5] 44 (0, 0))) ∧ Aside0 (wq.heap[b2]? = some (.cells #[.int .i64 0, .string (⟨#[]⟩ : ByteArray), .int .i64 0, .int .u64 0, .slice none 0 0, .int .i64 0] 44 (0, 0))) ∧ Aside0 (k44.R 44 wq w.heap.size (fun q => q ≠ b2 ∧ q ≠ b3) (.slice A a.f4.length c) a.f4) ∧ Aside0 (RdAt W0 g ev s wq) ∧ Aside0 (Frm g w wq)) (fun _ _ v12 _ => 2 - (intOf v12).toNat)
        case atStart => exact ⟨0, by simp, rfl, rfl, rfl, HB3, HB2, HR, HS, HF⟩
        case round =>
          clear HB3 HB2 HR HS HF
          obtain ⟨j, hj, rfl, rfl, rfl, HB3, HB2, HR, HS, HF⟩ := hrel
          rcases hj with rfl | rfl | rfl
          · have CS := CS1
            clear CS1 CS2
            go_wp2_with (go_at_call 83; (with_reducible refine (CS _ ?_).mono ?_); exact HS.out; rintro e w2 ⟨rfl, hS2, hF2⟩; have HS2 := Lib.hid hS2; have HF2 := Lib.hid hF2; have HB32 := Lib.hid (hF2.at_ hn3 HB3.out); have HB22 := Lib.hid (hF2.at_ hn2 HB2.out); have HR2 := Lib.hid (R_frm' HR.out hF2 hokg); clear hS2 hF2; have yc0 : w2.cell? ⟨b3, 0, none⟩ = some (.int .i64 a.f0) := (blk_cell HB32.out 0).trans rfl; have yc1 : w2.cell? ⟨b3, 1, none⟩ = some (.string a.f1) := (blk_cell HB32.out 1).trans rfl; have yc2 : w2.cell? ⟨b3, 2, none⟩ = some (.int .i64 a.f2) := (blk_cell HB32.out 2).trans rfl; have yc3 : w2.cell? ⟨b3, 3, none⟩ = some (.int .u64 a.f3) := (blk_cell HB32.out 3).trans rfl; have yc4 : w2.cell? ⟨b3, 4, none⟩ = some (.slice A a.f4.length c) := (blk_cell HB32.out 4).trans rfl; have yc5 : w2.cell? ⟨b3, 5, none⟩ = some (.int .i64 a.f5) := (blk_cell HB32.out 5).trans rfl; have yf0 := blk_frozen HB32.out 0; have yf1 := blk_frozen HB32.out 1; have yf2 := blk_frozen HB32.out 2; have yf3 := blk_frozen HB32.out 3; have yf4 := blk_frozen HB32.out 4; have yf5 := blk_frozen HB32.out 5; have zc0 : w2.cell? ⟨b2, 0, none⟩ = some (.int .i64 0) := (blk_cell HB22.out 0).trans rfl; have zc1 : w2.cell? ⟨b2, 1, none⟩ = some (.string (⟨#[]⟩ : ByteArray)) := (blk_cell HB22.out 1).trans rfl; have zc2 : w2.cell? ⟨b2, 2, none⟩ = some (.int .i64 0) := (blk_cell HB22.out 2).trans rfl; have zc3 : w2.cell? ⟨b2, 3, none⟩ = some (.int .u64 0) := (blk_cell HB22.out 3).trans rfl; have zc4 : w2.cell? ⟨b2, 4, none⟩ = some (.slice none 0 0) := (blk_cell HB22.out 4).trans rfl; have zc5 : w2.cell? ⟨b2, 5, none⟩ = some (.int .i64 0) := (blk_cell HB22.out 5).trans rfl; have zf0 := blk_frozen HB22.out 0; have zf1 := blk_frozen HB22.out 1; have zf2 := blk_frozen HB22.out 2; have zf3 := blk_frozen HB22.out 3; have zf4 := blk_frozen HB22.out 4; have zf5 := blk_frozen HB22.out 5)
            go_roundw
            case rel => exact ⟨1, by simp, rfl, rfl, rfl, ⟨HB32.out⟩, ⟨HB22.out⟩, ⟨HR2.out⟩, ⟨HS2.out⟩, ⟨HF.out.trans HF2.out⟩⟩
            case measure => simp [intOf]
          · have CS := CS2
            clear CS1 CS2
            go_wp2_with (go_at_call 83; (with_reducible refine (CS _ ?_).mono ?_); exact HS.out; rintro e w2 ⟨rfl, hS2, hF2⟩; have HS2 := Lib.hid hS2; have HF2 := Lib.hid hF2; have HB32 := Lib.hid (hF2.at_ hn3 HB3.out); have HB22 := Lib.hid (hF2.at_ hn2 HB2.out); have HR2 := Lib.hid (R_frm' HR.out hF2 hokg); clear hS2 hF2; have yc0 : w2.cell? ⟨b3, 0, none⟩ = some (.int .i64 a.f0) := (blk_cell HB32.out 0).trans rfl; have yc1 : w2.cell? ⟨b3, 1, none⟩ = some (.string a.f1) := (blk_cell HB32.out 1).trans rfl; have yc2 : w2.cell? ⟨b3, 2, none⟩ = some (.int .i64 a.f2) := (blk_cell HB32.out 2).trans rfl; have yc3 : w2.cell? ⟨b3, 3, none⟩ = some (.int .u64 a.f3) := (blk_cell HB32.out 3).trans rfl; have yc4 : w2.cell? ⟨b3, 4, none⟩ = some (.slice A a.f4.length c) := (blk_cell HB32.out 4).trans rfl; have yc5 : w2.cell? ⟨b3, 5, none⟩ = some (.int .i64 a.f5) := (blk_cell HB32.out 5).trans rfl; have yf0 := blk_frozen HB32.out 0; have yf1 := blk_frozen HB32.out 1; have yf2 := blk_frozen HB32.out 2; have yf3 := blk_frozen HB32.out 3; have yf4 := blk_frozen HB32.out 4; have yf5 := blk_frozen HB32.out 5; have zc0 : w2.cell? ⟨b2, 0, none⟩ = some (.int .i64 0) := (blk_cell HB22.out 0).trans rfl; have zc1 : w2.cell? ⟨b2, 1, none⟩ = some (.string (⟨#[]⟩ : ByteArray)) := (blk_cell HB22.out 1).trans rfl; have zc2 : w2.cell? ⟨b2, 2, none⟩ = some (.int .i64 0) := (blk_cell HB22.out 2).trans rfl; have zc3 : w2.cell? ⟨b2, 3, none⟩ = some (.int .u64 0) := (blk_cell HB22.out 3).trans rfl; have zc4 : w2.cell? ⟨b2, 4, none⟩ = some (.slice none 0 0) := (blk_cell HB22.out 4).trans rfl; have zc5 : w2.cell? ⟨b2, 5, none⟩ = some (.int .i64 0) := (blk_cell HB22.out 5).trans rfl; have zf0 := blk_frozen HB22.out 0; have zf1 := blk_frozen HB22.out 1; have zf2 := blk_frozen HB22.out 2; have zf3 := blk_frozen HB22.out 3; have zf4 := blk_frozen HB22.out 4; have zf5 := blk_frozen HB22.out 5)
            go_roundw
            case rel => exact ⟨2, by simp, rfl, rfl, rfl, ⟨HB32.out⟩, ⟨HB22.out⟩, ⟨HR2.out⟩, ⟨HS2.out⟩, ⟨HF.out.trans HF2.out⟩⟩
            case measure => simp [intOf]
          · clear CS1 CS2
            have yc0 : wr.cell? ⟨b3, 0, none⟩ = some (.int .i64 a.f0) := (blk_cell HB3.out 0).trans rfl
            have yc1 : wr.cell? ⟨b3, 1, none⟩ = some (.string a.f1) := (blk_cell HB3.out 1).trans rfl
            have yc2 : wr.cell? ⟨b3, 2, none⟩ = some (.int .i64 a.f2) := (blk_cell HB3.out 2).trans rfl
            have yc3 : wr.cell? ⟨b3, 3, none⟩ = some (.int .u64 a.f3) := (blk_cell HB3.out 3).trans rfl
            have yc4 : wr.cell? ⟨b3, 4, none⟩ = some (.slice A a.f4.length c) := (blk_cell HB3.out 4).trans rfl
            have yc5 : wr.cell? ⟨b3, 5, none⟩ = some (.int .i64 a.f5) := (blk_cell HB3.out 5).trans rfl
            have yf0 := blk_frozen HB3.out 0
            have yf1 := blk_frozen HB3.out 1
            have yf2 := blk_frozen HB3.out 2
            have yf3 := blk_frozen HB3.out 3
            have yf4 := blk_frozen HB3.out 4
            have yf5 := blk_frozen HB3.out 5
            have zc0 : wr.cell? ⟨b2, 0, none⟩ = some (.int .i64 0) := (blk_cell HB2.out 0).trans rfl
            have zc1 : wr.cell? ⟨b2, 1, none⟩ = some (.string (⟨#[]⟩ : ByteArray)) := (blk_cell HB2.out 1).trans rfl
            have zc2 : wr.cell? ⟨b2, 2, none⟩ = some (.int .i64 0) := (blk_cell HB2.out 2).trans rfl
            have zc3 : wr.cell? ⟨b2, 3, none⟩ = some (.int .u64 0) := (blk_cell HB2.out 3).trans rfl
            have zc4 : wr.cell? ⟨b2, 4, none⟩ = some (.slice none 0 0) := (blk_cell HB2.out 4).trans rfl
            have zc5 : wr.cell? ⟨b2, 5, none⟩ = some (.int .i64 0) := (blk_cell HB2.out 5).trans rfl
            have zf0 := blk_frozen HB2.out 0
            have zf1 := blk_frozen HB2.out 1
            have zf2 := blk_frozen HB2.out 2
            have zf3 := blk_frozen HB2.out 3
            have zf4 := blk_frozen HB2.out 4
            have zf5 := blk_frozen HB2.out 5
            have HB22 := HB2
            have HR2 := HR
            have HS2 := HS
            have HF2 := Lib.hid (Frm.refl g wr)
            go_wp2
            exact bodyPost_ret (v := .agg #[.int .i64 a.f0, .string a.f1, .int .i64 a.f2, .int .u64 a.f3, .slice A a.f4.length c, .int .i64 a.f5]) (results_c Tryd.results49 _ _ b2 44 _ (0, 0) _ rfl (blk_put6 HB22.out _ _ _ _ _ _) Tryd.underlying44 rfl size44) rfl (ndPost_of HE.out ⟨_, rfl, R_true (R_set6 HR2.out (fun q hq => hq.1) _ _ _ _ _ _), HS2.out.set6 hgb _ _ _ _ _ _, (HF.out.trans HF2.out).set6 (Nat.le_of_eq HSB.out) _ _ _ _ _ _⟩)
      · have CS1 := sign_no (W0 := W0) (g := g) (ev := ev) hor
        have CS2 := sign_yes (W0 := W0) (g := g) (ev := ev) hmi
        have hl1 := signAt_len hmi
        obtain ⟨k, rfl⟩ : ∃ k1, k = k1 + 1 := ⟨k - 1, by omega⟩
        have CR := (RC k (by omega)).use (W0 := W0) (g := g) (ev := ev) (st := s1) (by omega)
        have HEQ2 : Hid (exprF ev (n + 1) st = exprL ev k (nd 7 [a, (interF ev k s1).1] p) (interF ev k s1).2) := Lib.hid (HEQ.out.trans (exprL_minus hor hmi))
        have hlen : (interF ev k s1).2.ts.length ≤ s1.ts.length := (ts_le ev k).2.1 s1
        clear HEQ
        clear hor hmi
        go_loopw [4, 6, 12] (fun v4 v6 v12 wq => ∃ j : Int, (j = 0 ∨ j = 1) ∧ v12 = .int .i64 j ∧ v4 = .int .i64 6 ∧ v6 = .bool false ∧ Aside0 (wq.heap[b3]? = some (.cells #[.int .i64 a.f0, .string a.f1, .int .i64 a.f2, .int .u64 a.f3, .slice A a.f4.length c, .int .i64 a.f5] 44 (0, 0))) ∧ Aside0 (wq.heap[b2]? = some (.cells #[.int .i64 0, .string (⟨#[]⟩ : ByteArray), .int .i64 0, .int .u64 0, .slice none 0 0, .int .i64 0] 44 (0, 0))) ∧ Aside0 (k44.R 44 wq w.heap.size (fun q => q ≠ b2 ∧ q ≠ b3) (.slice A a.f4.length c) a.f4) ∧ Aside0 (RdAt W0 g ev s wq) ∧ Aside0 (Frm g w wq)) (fun _ _ v12 _ => 2 - (intOf v12).toNat)
        case atStart => exact ⟨0, by simp, rfl, rfl, rfl, HB3, HB2, HR, HS, HF⟩
        case round =>
          clear HB3 HB2 HR HS HF
          obtain ⟨j, hj, rfl, rfl, rfl, HB3, HB2, HR, HS, HF⟩ := hrel
          rcases hj with rfl | rfl
          · have CS := CS1
            clear CS1 CS2 CR HEQ2
            go_wp2_with (go_at_call 83; (with_reducible refine (CS _ ?_).mono ?_); exact HS.out; rintro e w2 ⟨rfl, hS2, hF2⟩; have HS2 := Lib.hid hS2; have HF2 := Lib.hid hF2; have HB32 := Lib.hid (hF2.at_ hn3 HB3.out); have HB22 := Lib.hid (hF2.at_ hn2 HB2.out); have HR2 := Lib.hid (R_frm' HR.out hF2 hokg); clear hS2 hF2; have yc0 : w2.cell? ⟨b3, 0, none⟩ = some (.int .i64 a.f0) := (blk_cell HB32.out 0).trans rfl; have yc1 : w2.cell? ⟨b3, 1, none⟩ = some (.string a.f1) := (blk_cell HB32.out 1).trans rfl; have yc2 : w2.cell? ⟨b3, 2, none⟩ = some (.int .i64 a.f2) := (blk_cell HB32.out 2).trans rfl; have yc3 : w2.cell? ⟨b3, 3, none⟩ = some (.int .u64 a.f3) := (blk_cell HB32.out 3).trans rfl; have yc4 : w2.cell? ⟨b3, 4, none⟩ = some (.slice A a.f4.length c) := (blk_cell HB32.out 4).trans rfl; have yc5 : w2.cell? ⟨b3, 5, none⟩ = some (.int .i64 a.f5) := (blk_cell HB32.out 5).trans rfl; have yf0 := blk_frozen HB32.out 0; have yf1 := blk_frozen HB32.out 1; have yf2 := blk_frozen HB32.out 2; have yf3 := blk_frozen HB32.out 3; have yf4 := blk_frozen HB32.out 4; have yf5 := blk_frozen HB32.out 5; have zc0 : w2.cell? ⟨b2, 0, none⟩ = some (.int .i64 0) := (blk_cell HB22.out 0).trans rfl; have zc1 : w2.cell? ⟨b2, 1, none⟩ = some (.string (⟨#[]⟩ : ByteArray)) := (blk_cell HB22.out 1).trans rfl; have zc2 : w2.cell? ⟨b2, 2, none⟩ = some (.int .i64 0) := (blk_cell HB22.out 2).trans rfl; have zc3 : w2.cell? ⟨b2, 3, none⟩ = some (.int .u64 0) := (blk_cell HB22.out 3).trans rfl; have zc4 : w2.cell? ⟨b2, 4, none⟩ = some (.slice none 0 0) := (blk_cell HB22.out 4).trans rfl; have zc5 : w2.cell? ⟨b2, 5, none⟩ = some (.int .i64 0) := (blk_cell HB22.out 5).trans rfl; have zf0 := blk_frozen HB22.out 0; have zf1 := blk_frozen HB22.out 1; have zf2 := blk_frozen HB22.out 2; have zf3 := blk_frozen HB22.out 3; have zf4 := blk_frozen HB22.out 4; have zf5 := blk_frozen HB22.out 5)
            go_roundw
            case rel => exact ⟨1, by simp, rfl, rfl, rfl, ⟨HB32.out⟩, ⟨HB22.out⟩, ⟨HR2.out⟩, ⟨HS2.out⟩, ⟨HF.out.trans HF2.out⟩⟩
            case measure => simp [intOf]
          · have CS := CS2
            clear CS1 CS2
            generalize interF ev k s1 = q1 at *
            obtain ⟨b, s2⟩ := q1
            go_upto_region 12 with (go_at_call 83; (with_reducible refine (CS _ ?_).mono ?_); exact HS.out; rintro e w2 ⟨rfl, hS2, hF2⟩; have HS2 := Lib.hid hS2; have HF2 := Lib.hid hF2; have HB32 := Lib.hid (hF2.at_ hn3 HB3.out); have HB22 := Lib.hid (hF2.at_ hn2 HB2.out); have HR2 := Lib.hid (R_frm' HR.out hF2 hokg); clear hS2 hF2; have yc0 : w2.cell? ⟨b3, 0, none⟩ = some (.int .i64 a.f0) := (blk_cell HB32.out 0).trans rfl; have yc1 : w2.cell? ⟨b3, 1, none⟩ = some (.string a.f1) := (blk_cell HB32.out 1).trans rfl; have yc2 : w2.cell? ⟨b3, 2, none⟩ = some (.int .i64 a.f2) := (blk_cell HB32.out 2).trans rfl; have yc3 : w2.cell? ⟨b3, 3, none⟩ = some (.int .u64 a.f3) := (blk_cell HB32.out 3).trans rfl; have yc4 : w2.cell? ⟨b3, 4, none⟩ = some (.slice A a.f4.length c) := (blk_cell HB32.out 4).trans rfl; have yc5 : w2.cell? ⟨b3, 5, none⟩ = some (.int .i64 a.f5) := (blk_cell HB32.out 5).trans rfl; have yf0 := blk_frozen HB32.out 0; have yf1 := blk_frozen HB32.out 1; have yf2 := blk_frozen HB32.out 2; have yf3 := blk_frozen HB32.out 3; have yf4 := blk_frozen HB32.out 4; have yf5 := blk_frozen HB32.out 5; have zc0 : w2.cell? ⟨b2, 0, none⟩ = some (.int .i64 0) := (blk_cell HB22.out 0).trans rfl; have zc1 : w2.cell? ⟨b2, 1, none⟩ = some (.string (⟨#[]⟩ : ByteArray)) := (blk_cell HB22.out 1).trans rfl; have zc2 : w2.cell? ⟨b2, 2, none⟩ = some (.int .i64 0) := (blk_cell HB22.out 2).trans rfl; have zc3 : w2.cell? ⟨b2, 3, none⟩ = some (.int .u64 0) := (blk_cell HB22.out 3).trans rfl; have zc4 : w2.cell? ⟨b2, 4, none⟩ = some (.slice none 0 0) := (blk_cell HB22.out 4).trans rfl; have zc5 : w2.cell? ⟨b2, 5, none⟩ = some (.int .i64 0) := (blk_cell HB22.out 5).trans rfl; have zf0 := blk_frozen HB22.out 0; have zf1 := blk_frozen HB22.out 1; have zf2 := blk_frozen HB22.out 2; have zf3 := blk_frozen HB22.out 3; have zf4 := blk_frozen HB22.out 4; have zf5 := blk_frozen HB22.out 5)
            clear CS
            go_region_with (go_at_call 82; (with_reducible refine (CR _ ?_).mono ?_); (first | exact HS2.out | exact HS2.out.drew | exact HS2.out.drewN _); rintro e w3 ⟨A3, c3, rfl, hR3, hS3, hF3⟩; have HS3 := Lib.hid hS3; have HF3 := Lib.hid (Frm.trans (by first | exact HF2.out | exact HF2.out.drew | exact HF2.out.drewN _) hF3); have HB33 := Lib.hid (HF3.out.at_ hn3 HB3.out); have HB23 := Lib.hid (HF3.out.at_ hn2 HB2.out); have HR3a := Lib.hid (R_frm' HR.out HF3.out hokg); have HR3b := Lib.hid (R_new2 (base := w.heap.size) (b2 := b2) (b3 := b3) hR3 HSB.out (blk_lt HB22.out) (blk_lt HB32.out)); clear hR3 hS3 hF3; have hb3l := blk_lt HB33.out; have hb2l := blk_lt HB23.out; have xc0 : w3.cell? ⟨b3, 0, none⟩ = some (.int .i64 a.f0) := (blk_cell HB33.out 0).trans rfl; have xc1 : w3.cell? ⟨b3, 1, none⟩ = some (.string a.f1) := (blk_cell HB33.out 1).trans rfl; have xc2 : w3.cell? ⟨b3, 2, none⟩ = some (.int .i64 a.f2) := (blk_cell HB33.out 2).trans rfl; have xc3 : w3.cell? ⟨b3, 3, none⟩ = some (.int .u64 a.f3) := (blk_cell HB33.out 3).trans rfl; have xc4 : w3.cell? ⟨b3, 4, none⟩ = some (.slice A a.f4.length c) := (blk_cell HB33.out 4).trans rfl; have xc5 : w3.cell? ⟨b3, 5, none⟩ = some (.int .i64 a.f5) := (blk_cell HB33.out 5).trans rfl; have xf0 := blk_frozen HB33.out 0; have xf1 := blk_frozen HB33.out 1; have xf2 := blk_frozen HB33.out 2; have xf3 := blk_frozen HB33.out 3; have xf4 := blk_frozen HB33.out 4; have xf5 := blk_frozen HB33.out 5; have vc0 : w3.cell? ⟨b2, 0, none⟩ = some (.int .i64 0) := (blk_cell HB23.out 0).trans rfl; have vc1 : w3.cell? ⟨b2, 1, none⟩ = some (.string (⟨#[]⟩ : ByteArray)) := (blk_cell HB23.out 1).trans rfl; have vc2 : w3.cell? ⟨b2, 2, none⟩ = some (.int .i64 0) := (blk_cell HB23.out 2).trans rfl; have vc3 : w3.cell? ⟨b2, 3, none⟩ = some (.int .u64 0) := (blk_cell HB23.out 3).trans rfl; have vc4 : w3.cell? ⟨b2, 4, none⟩ = some (.slice none 0 0) := (blk_cell HB23.out 4).trans rfl; have vc5 : w3.cell? ⟨b2, 5, none⟩ = some (.int .i64 0) := (blk_cell HB23.out 5).trans rfl; have vf0 := blk_frozen HB23.out 0; have vf1 := blk_frozen HB23.out 1; have vf2 := blk_frozen HB23.out 2; have vf3 := blk_frozen HB23.out 3; have vf4 := blk_frozen HB23.out 4; have vf5 := blk_frozen HB23.out 5)
            all_goals
              go_wp2
              go_roundw
              case rel => exact ⟨k, nd 7 [a, b] p, s2, some ⟨w3.heap.size, 0, none⟩, 2, ⟨by omega, by omega⟩, ⟨HEQ2.out⟩, ⟨blk_alloc (blk_put6 HB33.out _ _ _ _ _ _) _⟩, ⟨blk_alloc (blk_far6 HB23.out (Ne.symm hn23) _ _ _ _ _ _) _⟩, ⟨R_pair HR3a.out HR3b.out HSB.out hb2l hb3l _ _ _ _ _ _⟩, ⟨(HS3.out.set6 hgb3 _ _ _ _ _ _).alloc _⟩, ⟨((HF.out.trans HF3.out).set6 hb3w _ _ _ _ _ _).alloc _⟩⟩
              case measure => rw [HTL.out, ((HS3.out.set6 hgb3 _ _ _ _ _ _).alloc _).len]; omega
    · have CS1 := sign_yes (W0 := W0) (g := g) (ev := ev) hor
      have hl1 := signAt_len hor
      obtain ⟨k, rfl⟩ : ∃ k1, k = k1 + 1 := ⟨k - 1, by omega⟩
      have CR := (RC k (by omega)).use (W0 := W0) (g := g) (ev := ev) (st := s1) (by omega)
      have HEQ2 : Hid (exprF ev (n + 1) st = exprL ev k (nd 6 [a, (interF ev k s1).1] p) (interF ev k s1).2) := Lib.hid (HEQ.out.trans (exprL_or hor))
      have hlen : (interF ev k s1).2.ts.length ≤ s1.ts.length := (ts_le ev k).2.1 s1
      clear HEQ
      clear hor
      go_loopw [4, 6, 12] (fun v4 v6 v12 wq => ∃ j : Int, (j = 0) ∧ v12 = .int .i64 j ∧ v4 = .int .i64 6 ∧ v6 = .bool false ∧ Aside0 (wq.heap[b3]? = some (.cells #[.int .i64 a.f0, .string a.f1, .int .i64 a.f2, .int .u64 a.f3, .slice A a.f4.length c, .int .i64 a.f5] 44 (0, 0))) ∧ Aside0 (wq.heap[b2]? = some (.cells #[.int .i64 0, .string (⟨#[]⟩ : ByteArray), .int .i64 0, .int .u64 0, .slice none 0 0, .int .i64 0] 44 (0, 0))) ∧ Aside0 (k44.R 44 wq w.heap.size (fun q => q ≠ b2 ∧ q ≠ b3) (.slice A a.f4.length c) a.f4) ∧ Aside0 (RdAt W0 g ev s wq) ∧ Aside0 (Frm g w wq)) (fun _ _ v12 _ => 2 - (intOf v12).toNat)
      case atStart => exact ⟨0, by simp, rfl, rfl, rfl, HB3, HB2, HR, HS, HF⟩
      case round =>
        clear HB3 HB2 HR HS HF
        obtain ⟨j, hj, rfl, rfl, rfl, HB3, HB2, HR, HS, HF⟩ := hrel
        obtain rfl := hj
        have CS := CS1
        clear CS1
        generalize interF ev k s1 = q1 at *
        obtain ⟨b, s2⟩ := q1
        go_upto_region 12 with (go_at_call 83; (with_reducible refine (CS _ ?_).mono ?_); exact HS.out; rintro e w2 ⟨rfl, hS2, hF2⟩; have HS2 := Lib.hid hS2; have HF2 := Lib.hid hF2; have HB32 := Lib.hid (hF2.at_ hn3 HB3.out); have HB22 := Lib.hid (hF2.at_ hn2 HB2.out); have HR2 := Lib.hid (R_frm' HR.out hF2 hokg); clear hS2 hF2; have yc0 : w2.cell? ⟨b3, 0, none⟩ = some (.int .i64 a.f0) := (blk_cell HB32.out 0).trans rfl; have yc1 : w2.cell? ⟨b3, 1, none⟩ = some (.string a.f1) := (blk_cell HB32.out 1).trans rfl; have yc2 : w2.cell? ⟨b3, 2, none⟩ = some (.int .i64 a.f2) := (blk_cell HB32.out 2).trans rfl; have yc3 : w2.cell? ⟨b3, 3, none⟩ = some (.int .u64 a.f3) := (blk_cell HB32.out 3).trans rfl; have yc4 : w2.cell? ⟨b3, 4, none⟩ = some (.slice A a.f4.length c) := (blk_cell HB32.out 4).trans rfl; have yc5 : w2.cell? ⟨b3, 5, none⟩ = some (.int .i64 a.f5) := (blk_cell HB32.out 5).trans rfl; have yf0 := blk_frozen HB32.out 0; have yf1 := blk_frozen HB32.out 1; have yf2 := blk_frozen HB32.out 2; have yf3 := blk_frozen HB32.out 3; have yf4 := blk_frozen HB32.out 4; have yf5 := blk_frozen HB32.out 5; have zc0 : w2.cell? ⟨b2, 0, none⟩ = some (.int .i64 0) := (blk_cell HB22.out 0).trans rfl; have zc1 : w2.cell? ⟨b2, 1, none⟩ = some (.string (⟨#[]⟩ : ByteArray)) := (blk_cell HB22.out 1).trans rfl; have zc2 : w2.cell? ⟨b2, 2, none⟩ = some (.int .i64 0) := (blk_cell HB22.out 2).trans rfl; have zc3 : w2.cell? ⟨b2, 3, none⟩ = some (.int .u64 0) := (blk_cell HB22.out 3).trans rfl; have zc4 : w2.cell? ⟨b2, 4, none⟩ = some (.slice none 0 0) := (blk_cell HB22.out 4).trans rfl; have zc5 : w2.cell? ⟨b2, 5, none⟩ = some (.int .i64 0) := (blk_cell HB22.out 5).trans rfl; have zf0 := blk_frozen HB22.out 0; have zf1 := blk_frozen HB22.out 1; have zf2 := blk_frozen HB22.out 2; have zf3 := blk_frozen HB22.out 3; have zf4 := blk_frozen HB22.out 4; have zf5 := blk_frozen HB22.out 5)
        clear CS
        go_region_with (go_at_call 82; (with_reducible refine (CR _ ?_).mono ?_); (first | exact HS2.out | exact HS2.out.drew | exact HS2.out.drewN _); rintro e w3 ⟨A3, c3, rfl, hR3, hS3, hF3⟩; have HS3 := Lib.hid hS3; have HF3 := Lib.hid (Frm.trans (by first | exact HF2.out | exact HF2.out.drew | exact HF2.out.drewN _) hF3); have HB33 := Lib.hid (HF3.out.at_ hn3 HB3.out); have HB23 := Lib.hid (HF3.out.at_ hn2 HB2.out); have HR3a := Lib.hid (R_frm' HR.out HF3.out hokg); have HR3b := Lib.hid (R_new2 (base := w.heap.size) (b2 := b2) (b3 := b3) hR3 HSB.out (blk_lt HB22.out) (blk_lt HB32.out)); clear hR3 hS3 hF3; have hb3l := blk_lt HB33.out; have hb2l := blk_lt HB23.out; have xc0 : w3.cell? ⟨b3, 0, none⟩ = some (.int .i64 a.f0) := (blk_cell HB33.out 0).trans rfl; have xc1 : w3.cell? ⟨b3, 1, none⟩ = some (.string a.f1) := (blk_cell HB33.out 1).trans rfl; have xc2 : w3.cell? ⟨b3, 2, none⟩ = some (.int .i64 a.f2) := (blk_cell HB33.out 2).trans rfl; have xc3 : w3.cell? ⟨b3, 3, none⟩ = some (.int .u64 a.f3) := (blk_cell HB33.out 3).trans rfl; have xc4 : w3.cell? ⟨b3, 4, none⟩ = some (.slice A a.f4.length c) := (blk_cell HB33.out 4).trans rfl; have xc5 : w3.cell? ⟨b3, 5, none⟩ = some (.int .i64 a.f5) := (blk_cell HB33.out 5).trans rfl; have xf0 := blk_frozen HB33.out 0; have xf1 := blk_frozen HB33.out 1; have xf2 := blk_frozen HB33.out 2; have xf3 := blk_frozen HB33.out 3; have xf4 := blk_frozen HB33.out 4; have xf5 := blk_frozen HB33.out 5; have vc0 : w3.cell? ⟨b2, 0, none⟩ = some (.int .i64 0) := (blk_cell HB23.out 0).trans rfl; have vc1 : w3.cell? ⟨b2, 1, none⟩ = some (.string (⟨#[]⟩ : ByteArray)) := (blk_cell HB23.out 1).trans rfl; have vc2 : w3.cell? ⟨b2, 2, none⟩ = some (.int .i64 0) := (blk_cell HB23.out 2).trans rfl; have vc3 : w3.cell? ⟨b2, 3, none⟩ = some (.int .u64 0) := (blk_cell HB23.out 3).trans rfl; have vc4 : w3.cell? ⟨b2, 4, none⟩ = some (.slice none 0 0) := (blk_cell HB23.out 4).trans rfl; have vc5 : w3.cell? ⟨b2, 5, none⟩ = some (.int .i64 0) := (blk_cell HB23.out 5).trans rfl; have vf0 := blk_frozen HB23.out 0; have vf1 := blk_frozen HB23.out 1; have vf2 := blk_frozen HB23.out 2; have vf3 := blk_frozen HB23.out 3; have vf4 := blk_frozen HB23.out 4; have vf5 := blk_frozen HB23.out 5)
        all_goals
          go_wp2
          go_roundw
          case rel => exact ⟨k, nd 6 [a, b] p, s2, some ⟨w3.heap.size, 0, none⟩, 2, ⟨by omega, by omega⟩, ⟨HEQ2.out⟩, ⟨blk_alloc (blk_put6 HB33.out _ _ _ _ _ _) _⟩, ⟨blk_alloc (blk_far6 HB23.out (Ne.symm hn23) _ _ _ _ _ _) _⟩, ⟨R_pair HR3a.out HR3b.out HSB.out hb2l hb3l _ _ _ _ _ _⟩, ⟨(HS3.out.set6 hgb3 _ _ _ _ _ _).alloc _⟩, ⟨((HF.out.trans HF3.out).set6 hb3w _ _ _ _ _ _).alloc _⟩⟩
          case measure => rw [HTL.out, ((HS3.out.set6 hgb3 _ _ _ _ _ _).alloc _).len]; omega
set_option maxHeartbeats 4000000 in
set_option maxRecDepth 100000 in
theorem ranged_walk (n : Nat) (RC : ∀ m, m ≤ n → FnC 121 unaryF 3 m) : FnC 96 rangedF 4 (n + 1) := by
  intro W0 g ev st w hfu hR
  go_enter Tryd.func96, Tryd.ntmps96
  go_upto_region 1 with (fail)
  have HZ := Lib.hid (blk_new w (Obj.cells #[.int .i64 0, .string (⟨#[]⟩ : ByteArray), .int .i64 0, .int .u64 0, .slice none 0 0, .int .i64 0] 44))
  have HRA := Lib.hid (hR.alloc (Obj.cells #[.int .i64 0, .string (⟨#[]⟩ : ByteArray), .int .i64 0, .int .u64 0, .slice none 0 0, .int .i64 0] 44))
  have HFA := Lib.hid ((Frm.refl g w).alloc (Obj.cells #[.int .i64 0, .string (⟨#[]⟩ : ByteArray), .int .i64 0, .int .u64 0, .slice none 0 0, .int .i64 0] 44))
  have hgb : g < w.heap.size := hR.lt
  have HSA : Hid ((w.alloc (Obj.cells #[.int .i64 0, .string (⟨#[]⟩ : ByteArray), .int .i64 0, .int .u64 0, .slice none 0 0, .int .i64 0] 44)).heap.size = w.heap.size + 1) := Lib.hid (Array.size_push _)
  clear hR
  generalize w.alloc (Obj.cells #[.int .i64 0, .string (⟨#[]⟩ : ByteArray), .int .i64 0, .int .u64 0, .slice none 0 0, .int .i64 0] 44) = wA at *
  generalize hb2 : w.heap.size = b2 at *
  have HSB : Hid (w.heap.size = b2) := Lib.hid hb2
  clear hb2
  have C1 := (RC n (Nat.le_refl _)).use (W0 := W0) (g := g) (ev := ev) (st := st) (by omega)
  have hlen : (unaryF ev n st).2.ts.length ≤ st.ts.length := (ts_le ev n).2.2.2.1 st
  have HN := fun h h2 => rangedF_none (ev := ev) (k := n) (st := st) h h2
  have HD := fun p s1 h => rangedF_dots (ev := ev) (p := p) (k := n) (st := st) (s1 := s1) h
  have HCO := fun p s1 h h2 => rangedF_colons (ev := ev) (p := p) (k := n) (st := st) (s1 := s1) h h2
  generalize hq0 : unaryF ev n st = q0 at *
  obtain ⟨a, s⟩ := q0
  have HN := Lib.hid HN
  have HD := Lib.hid HD
  have HCO := Lib.hid HCO
  have HQ0 := Lib.hid hq0
  clear hq0
  go_upto_block 0 with (go_at_call 121; (with_reducible refine (C1 _ ?_).mono ?_); exact HRA.out; rintro e w1 ⟨A1, c1, rfl, hR1, hS1, hF1⟩; have HR1 := Lib.hid hR1; have HS1 := Lib.hid hS1; have HF1 := Lib.hid hF1; clear hR1 hS1 hF1)
  clear C1
  have HB3 := Lib.hid (blk_new w1 (Obj.cells #[.int .i64 a.f0, .string a.f1, .int .i64 a.f2, .int .u64 a.f3, .slice A1 a.f4.length c1, .int .i64 a.f5] 44))
  have HB2 := Lib.hid (blk_alloc (HF1.out.at_ (Nat.ne_of_gt hgb) HZ.out) (Obj.cells #[.int .i64 a.f0, .string a.f1, .int .i64 a.f2, .int .u64 a.f3, .slice A1 a.f4.length c1, .int .i64 a.f5] 44))
  have HS := Lib.hid (HS1.out.alloc (Obj.cells #[.int .i64 a.f0, .string a.f1, .int .i64 a.f2, .int .u64 a.f3, .slice A1 a.f4.length c1, .int .i64 a.f5] 44))
  have HF := Lib.hid ((HFA.out.trans HF1.out).alloc (Obj.cells #[.int .i64 a.f0, .string a.f1, .int .i64 a.f2, .int .u64 a.f3, .slice A1 a.f4.length c1, .int .i64 a.f5] 44))
  have HR := Lib.hid (Kd.R_alloc (R_between (base := w.heap.size) (b2 := b2) HR1.out (by rw [HSA.out, HSB.out]; omega) (by rw [HSA.out]; omega) (Nat.le_refl _)) (Obj.cells #[.int .i64 a.f0, .string a.f1, .int .i64 a.f2, .int .u64 a.f3, .slice A1 a.f4.length c1, .int .i64 a.f5] 44))
  have hg3 : b2 < w1.heap.size := by have := HF1.out.size; rw [HSA.out] at this; omega
  clear HR1 HS1 HF1 HRA HFA HZ HSA
  generalize w1.alloc (Obj.cells #[.int .i64 a.f0, .string a.f1, .int .i64 a.f2, .int .u64 a.f3, .slice A1 a.f4.length c1, .int .i64 a.f5] 44) = wL at *
  generalize w1.heap.size = b3 at *
  have hn2 : b2 ≠ g := Nat.ne_of_gt hgb
  have hn3 : b3 ≠ g := by omega
  have hn23 : b3 ≠ b2 := by omega
  have hgb3 : g < b3 := by omega
  have hb3w : w.heap.size ≤ b3 := by have := HSB.out; omega
  have hokg : ∀ q, (q ≠ b2 ∧ q ≠ b3) → w.heap.size ≤ q → q ≠ g := fun q _ hq => by have := HSB.out; omega
  go_wp2
  have ix0 := idx2_0 (⟨#[46, 46]⟩ : ByteArray) ⟨#[58, 58]⟩
  have ix1 := idx2_1 (⟨#[46, 46]⟩ : ByteArray) ⟨#[58, 58]⟩
  obtain ⟨A, hA⟩ : ∃ A : Option Addr, A = A1 := ⟨_, rfl⟩
  obtain ⟨c, hc⟩ : ∃ c : Nat, c = c1 := ⟨_, rfl⟩
  subst hA
  subst hc
  rcases hor : signAt (str2 46 46) s with _ | ⟨p, s1⟩
  · rcases hmi : signAt (str2 58 58) s with _ | ⟨p, s1⟩
    · have CS1 := sign_no (W0 := W0) (g := g) (ev := ev) hor
      have CS2 := sign_no (W0 := W0) (g := g) (ev := ev) hmi
      have HE : Hid (rangedF ev (n + 1) st = (a, s)) := Lib.hid (HN.out hor hmi)
      clear hor hmi HN HD HCO
      go_loopw [7, 11] (fun v7 v11 wq => ∃ j : Int, (j = 0 ∨ j = 1 ∨ j = 2) ∧ v11 = .int .i64 j ∧ Aside0 (wq.heap[b3]? = some (.cells #[.int .i64 a.f0, .string a.f1, .int .i64 a.f2, .int .u64 a.f3, .slice A a.f4.length c, .int .i64 a.f5] 44 (0, 0))) ∧ Aside0 (wq.heap[b2]? = some (.cells #[.int .i64 0, .string (⟨#[]⟩ : ByteArray), .int .i64 0, .int .u64 0, .slice none 0 0, .int .i64 0] 44 (0, 0))) ∧ Aside0 (k44.R 44 wq w.heap.size (fun q => q ≠ b2 ∧ q ≠ b3) (.slice A a.f4.length c) a.f4) ∧ Aside0 (RdAt W0 g ev s wq) ∧ Aside0 (Frm g w wq)) (fun _ v11 _ => 2 - (intOf v11).toNat)
      case atStart => exact ⟨0, by simp, rfl, ⟨HB3.out⟩, ⟨HB2.out⟩, ⟨HR.out⟩, ⟨HS.out⟩, ⟨HF.out⟩⟩
      case round =>
        clear HB3 HB2 HR HS HF
        obtain ⟨j, hj, rfl, HB3, HB2, HR, HS, HF⟩ := hrel
        rcases hj with rfl | rfl | rfl
        · have CS := CS1
          clear CS1 CS2
          go_wp2_with (go_at_call 83; (with_reducible refine (CS _ ?_).mono ?_); exact HS.out; rintro e w2 ⟨rfl, hS2, hF2⟩; have HS2 := Lib.hid hS2; have HF2 := Lib.hid hF2; have HB32 := Lib.hid (hF2.at_ hn3 HB3.out); have HB22 := Lib.hid (hF2.at_ hn2 HB2.out); have HR2 := Lib.hid (R_frm' HR.out hF2 hokg); clear hS2 hF2; have yc0 : w2.cell? ⟨b3, 0, none⟩ = some (.int .i64 a.f0) := (blk_cell HB32.out 0).trans rfl; have yc1 : w2.cell? ⟨b3, 1, none⟩ = some (.string a.f1) := (blk_cell HB32.out 1).trans rfl; have yc2 : w2.cell? ⟨b3, 2, none⟩ = some (.int .i64 a.f2) := (blk_cell HB32.out 2).trans rfl; have yc3 : w2.cell? ⟨b3, 3, none⟩ = some (.int .u64 a.f3) := (blk_cell HB32.out 3).trans rfl; have yc4 : w2.cell? ⟨b3, 4, none⟩ = some (.slice A a.f4.length c) := (blk_cell HB32.out 4).trans rfl; have yc5 : w2.cell? ⟨b3, 5, none⟩ = some (.int .i64 a.f5) := (blk_cell HB32.out 5).trans rfl; have yf0 := blk_frozen HB32.out 0; have yf1 := blk_frozen HB32.out 1; have yf2 := blk_frozen HB32.out 2; have yf3 := blk_frozen HB32.out 3; have yf4 := blk_frozen HB32.out 4; have yf5 := blk_frozen HB32.out 5; have zc0 : w2.cell? ⟨b2, 0, none⟩ = some (.int .i64 0) := (blk_cell HB22.out 0).trans rfl; have zc1 : w2.cell? ⟨b2, 1, none⟩ = some (.string (⟨#[]⟩ : ByteArray)) := (blk_cell HB22.out 1).trans rfl; have zc2 : w2.cell? ⟨b2, 2, none⟩ = some (.int .i64 0) := (blk_cell HB22.out 2).trans rfl; have zc3 : w2.cell? ⟨b2, 3, none⟩ = some (.int .u64 0) := (blk_cell HB22.out 3).trans rfl; have zc4 : w2.cell? ⟨b2, 4, none⟩ = some (.slice none 0 0) := (blk_cell HB22.out 4).trans rfl; have zc5 : w2.cell? ⟨b2, 5, none⟩ = some (.int .i64 0) := (blk_cell HB22.out 5).trans rfl; have zf0 := blk_frozen HB22.out 0; have zf1 := blk_frozen HB22.out 1; have zf2 := blk_frozen HB22.out 2; have zf3 := blk_frozen HB22.out 3; have zf4 := blk_frozen HB22.out 4; have zf5 := blk_frozen HB22.out 5)
          go_roundw
          case rel => exact ⟨1, by simp, rfl, ⟨HB32.out⟩, ⟨HB22.out⟩, ⟨HR2.out⟩, ⟨HS2.out⟩, ⟨HF.out.trans HF2.out⟩⟩
          case measure => simp [intOf]
        · have CS := CS2
          clear CS1 CS2
          go_wp2_with (go_at_call 83; (with_reducible refine (CS _ ?_).mono ?_); exact HS.out; rintro e w2 ⟨rfl, hS2, hF2⟩; have HS2 := Lib.hid hS2; have HF2 := Lib.hid hF2; have HB32 := Lib.hid (hF2.at_ hn3 HB3.out); have HB22 := Lib.hid (hF2.at_ hn2 HB2.out); have HR2 := Lib.hid (R_frm' HR.out hF2 hokg); clear hS2 hF2; have yc0 : w2.cell? ⟨b3, 0, none⟩ = some (.int .i64 a.f0) := (blk_cell HB32.out 0).trans rfl; have yc1 : w2.cell? ⟨b3, 1, none⟩ = some (.string a.f1) := (blk_cell HB32.out 1).trans rfl; have yc2 : w2.cell? ⟨b3, 2, none⟩ = some (.int .i64 a.f2) := (blk_cell HB32.out 2).trans rfl; have yc3 : w2.cell? ⟨b3, 3, none⟩ = some (.int .u64 a.f3) := (blk_cell HB32.out 3).trans rfl; have yc4 : w2.cell? ⟨b3, 4, none⟩ = some (.slice A a.f4.length c) := (blk_cell HB32.out 4).trans rfl; have yc5 : w2.cell? ⟨b3, 5, none⟩ = some (.int .i64 a.f5) := (blk_cell HB32.out 5).trans rfl; have yf0 := blk_frozen HB32.out 0; have yf1 := blk_frozen HB32.out 1; have yf2 := blk_frozen HB32.out 2; have yf3 := blk_frozen HB32.out 3; have yf4 := blk_frozen HB32.out 4; have yf5 := blk_frozen HB32.out 5; have zc0 : w2.cell? ⟨b2, 0, none⟩ = some (.int .i64 0) := (blk_cell HB22.out 0).trans rfl; have zc1 : w2.cell? ⟨b2, 1, none⟩ = some (.string (⟨#[]⟩ : ByteArray)) := (blk_cell HB22.out 1).trans rfl; have zc2 : w2.cell? ⟨b2, 2, none⟩ = some (.int .i64 0) := (blk_cell HB22.out 2).trans rfl; have zc3 : w2.cell? ⟨b2, 3, none⟩ = some (.int .u64 0) := (blk_cell HB22.out 3).trans rfl; have zc4 : w2.cell? ⟨b2, 4, none⟩ = some (.slice none 0 0) := (blk_cell HB22.out 4).trans rfl; have zc5 : w2.cell? ⟨b2, 5, none⟩ = some (.int .i64 0) := (blk_cell HB22.out 5).trans rfl; have zf0 := blk_frozen HB22.out 0; have zf1 := blk_frozen HB22.out 1; have zf2 := blk_frozen HB22.out 2; have zf3 := blk_frozen HB22.out 3; have zf4 := blk_frozen HB22.out 4; have zf5 := blk_frozen HB22.out 5)
          go_roundw
          case rel => exact ⟨2, by simp, rfl, ⟨HB32.out⟩, ⟨HB22.out⟩, ⟨HR2.out⟩, ⟨HS2.out⟩, ⟨HF.out.trans HF2.out⟩⟩
          case measure => simp [intOf]
        · clear CS1 CS2
          have yc0 : wr.cell? ⟨b3, 0, none⟩ = some (.int .i64 a.f0) := (blk_cell HB3.out 0).trans rfl
          have yc1 : wr.cell? ⟨b3, 1, none⟩ = some (.string a.f1) := (blk_cell HB3.out 1).trans rfl
          have yc2 : wr.cell? ⟨b3, 2, none⟩ = some (.int .i64 a.f2) := (blk_cell HB3.out 2).trans rfl
          have yc3 : wr.cell? ⟨b3, 3, none⟩ = some (.int .u64 a.f3) := (blk_cell HB3.out 3).trans rfl
          have yc4 : wr.cell? ⟨b3, 4, none⟩ = some (.slice A a.f4.length c) := (blk_cell HB3.out 4).trans rfl
          have yc5 : wr.cell? ⟨b3, 5, none⟩ = some (.int .i64 a.f5) := (blk_cell HB3.out 5).trans rfl
          have yf0 := blk_frozen HB3.out 0
          have yf1 := blk_frozen HB3.out 1
          have yf2 := blk_frozen HB3.out 2
          have yf3 := blk_frozen HB3.out 3
          have yf4 := blk_frozen HB3.out 4
          have yf5 := blk_frozen HB3.out 5
          have zc0 : wr.cell? ⟨b2, 0, none⟩ = some (.int .i64 0) := (blk_cell HB2.out 0).trans rfl
          have zc1 : wr.cell? ⟨b2, 1, none⟩ = some (.string (⟨#[]⟩ : ByteArray)) := (blk_cell HB2.out 1).trans rfl
          have zc2 : wr.cell? ⟨b2, 2, none⟩ = some (.int .i64 0) := (blk_cell HB2.out 2).trans rfl
          have zc3 : wr.cell? ⟨b2, 3, none⟩ = some (.int .u64 0) := (blk_cell HB2.out 3).trans rfl
          have zc4 : wr.cell? ⟨b2, 4, none⟩ = some (.slice none 0 0) := (blk_cell HB2.out 4).trans rfl
          have zc5 : wr.cell? ⟨b2, 5, none⟩ = some (.int .i64 0) := (blk_cell HB2.out 5).trans rfl
          have zf0 := blk_frozen HB2.out 0
          have zf1 := blk_frozen HB2.out 1
          have zf2 := blk_frozen HB2.out 2
          have zf3 := blk_frozen HB2.out 3
          have zf4 := blk_frozen HB2.out 4
          have zf5 := blk_frozen HB2.out 5
          have HB22 := HB2
          have HR2 := HR
          have HS2 := HS
          have HF2 := Lib.hid (Frm.refl g wr)
          go_wp2
          exact bodyPost_ret (v := .agg #[.int .i64 a.f0, .string a.f1, .int .i64 a.f2, .int .u64 a.f3, .slice A a.f4.length c, .int .i64 a.f5]) (results_c Tryd.results96 _ _ b2 44 _ (0, 0) _ rfl (blk_put6 HB22.out _ _ _ _ _ _) Tryd.underlying44 rfl size44) rfl (ndPost_of HE.out ⟨_, rfl, R_true (R_set6 HR2.out (fun q hq => hq.1) _ _ _ _ _ _), HS2.out.set6 hgb _ _ _ _ _ _, (HF.out.trans HF2.out).set6 (Nat.le_of_eq HSB.out) _ _ _ _ _ _⟩)
    · have CS1 := sign_no (W0 := W0) (g := g) (ev := ev) hor
      have CS2 := sign_yes (W0 := W0) (g := g) (ev := ev) hmi
      have hl1 := signAt_len hmi
      have CR := (RC n (Nat.le_refl _)).use (W0 := W0) (g := g) (ev := ev) (st := s1) (by omega)
      have HE : Hid (rangedF ev (n + 1) st = (nd 10 [a, (unaryF ev n s1).1] p, (unaryF ev n s1).2)) := Lib.hid (HCO.out p s1 hor hmi)
      clear hor hmi HN HD HCO
      go_loopw [7, 11] (fun v7 v11 wq => ∃ j : Int, (j = 0 ∨ j = 1) ∧ v11 = .int .i64 j ∧ Aside0 (wq.heap[b3]? = some (.cells #[.int .i64 a.f0, .string a.f1, .int .i64 a.f2, .int .u64 a.f3, .slice A a.f4.length c, .int .i64 a.f5] 44 (0, 0))) ∧ Aside0 (wq.heap[b2]? = some (.cells #[.int .i64 0, .string (⟨#[]⟩ : ByteArray), .int .i64 0, .int .u64 0, .slice none 0 0, .int .i64 0] 44 (0, 0))) ∧ Aside0 (k44.R 44 wq w.heap.size (fun q => q ≠ b2 ∧ q ≠ b3) (.slice A a.f4.length c) a.f4) ∧ Aside0 (RdAt W0 g ev s wq) ∧ Aside0 (Frm g w wq)) (fun _ v11 _ => 2 - (intOf v11).toNat)
      case atStart => exact ⟨0, by simp, rfl, ⟨HB3.out⟩, ⟨HB2.out⟩, ⟨HR.out⟩, ⟨HS.out⟩, ⟨HF.out⟩⟩
      case round =>
        clear HB3 HB2 HR HS HF
        obtain ⟨j, hj, rfl, HB3, HB2, HR, HS, HF⟩ := hrel
        rcases hj with rfl | rfl
        · have CS := CS1
          clear CS1 CS2 CR HE
          go_wp2_with (go_at_call 83; (with_reducible refine (CS _ ?_).mono ?_); exact HS.out; rintro e w2 ⟨rfl, hS2, hF2⟩; have HS2 := Lib.hid hS2; have HF2 := Lib.hid hF2; have HB32 := Lib.hid (hF2.at_ hn3 HB3.out); have HB22 := Lib.hid (hF2.at_ hn2 HB2.out); have HR2 := Lib.hid (R_frm' HR.out hF2 hokg); clear hS2 hF2; have yc0 : w2.cell? ⟨b3, 0, none⟩ = some (.int .i64 a.f0) := (blk_cell HB32.out 0).trans rfl; have yc1 : w2.cell? ⟨b3, 1, none⟩ = some (.string a.f1) := (blk_cell HB32.out 1).trans rfl; have yc2 : w2.cell? ⟨b3, 2, none⟩ = some (.int .i64 a.f2) := (blk_cell HB32.out 2).trans rfl; have yc3 : w2.cell? ⟨b3, 3, none⟩ = some (.int .u64 a.f3) := (blk_cell HB32.out 3).trans rfl; have yc4 : w2.cell? ⟨b3, 4, none⟩ = some (.slice A a.f4.length c) := (blk_cell HB32.out 4).trans rfl; have yc5 : w2.cell? ⟨b3, 5, none⟩ = some (.int .i64 a.f5) := (blk_cell HB32.out 5).trans rfl; have yf0 := blk_frozen HB32.out 0; have yf1 := blk_frozen HB32.out 1; have yf2 := blk_frozen HB32.out 2; have yf3 := blk_frozen HB32.out 3; have yf4 := blk_frozen HB32.out 4; have yf5 := blk_frozen HB32.out 5; have zc0 : w2.cell? ⟨b2, 0, none⟩ = some (.int .i64 0) := (blk_cell HB22.out 0).trans rfl; have zc1 : w2.cell? ⟨b2, 1, none⟩ = some (.string (⟨#[]⟩ : ByteArray)) := (blk_cell HB22.out 1).trans rfl; have zc2 : w2.cell? ⟨b2, 2, none⟩ = some (.int .i64 0) := (blk_cell HB22.out 2).trans rfl; have zc3 : w2.cell? ⟨b2, 3, none⟩ = some (.int .u64 0) := (blk_cell HB22.out 3).trans rfl; have zc4 : w2.cell? ⟨b2, 4, none⟩ = some (.slice none 0 0) := (blk_cell HB22.out 4).trans rfl; have zc5 : w2.cell? ⟨b2, 5, none⟩ = some (.int .i64 0) := (blk_cell HB22.out 5).trans rfl; have zf0 := blk_frozen HB22.out 0; have zf1 := blk_frozen HB22.out 1; have zf2 := blk_frozen HB22.out 2; have zf3 := blk_frozen HB22.out 3; have zf4 := blk_frozen HB22.out 4; have zf5 := blk_frozen HB22.out 5)
          go_roundw
          case rel => exact ⟨1, by simp, rfl, ⟨HB32.out⟩, ⟨HB22.out⟩, ⟨HR2.out⟩, ⟨HS2.out⟩, ⟨HF.out.trans HF2.out⟩⟩
          case measure => simp [intOf]
        · have CS := CS2
          clear CS1 CS2
          generalize unaryF ev n s1 = q1 at *
          obtain ⟨b, s2⟩ := q1
          go_upto_region 7 with (go_at_call 83; (with_reducible refine (CS _ ?_).mono ?_); exact HS.out; rintro e w2 ⟨rfl, hS2, hF2⟩; have HS2 := Lib.hid hS2; have HF2 := Lib.hid hF2; have HB32 := Lib.hid (hF2.at_ hn3 HB3.out); have HB22 := Lib.hid (hF2.at_ hn2 HB2.out); have HR2 := Lib.hid (R_frm' HR.out hF2 hokg); clear hS2 hF2; have yc0 : w2.cell? ⟨b3, 0, none⟩ = some (.int .i64 a.f0) := (blk_cell HB32.out 0).trans rfl; have yc1 : w2.cell? ⟨b3, 1, none⟩ = some (.string a.f1) := (blk_cell HB32.out 1).trans rfl; have yc2 : w2.cell? ⟨b3, 2, none⟩ = some (.int .i64 a.f2) := (blk_cell HB32.out 2).trans rfl; have yc3 : w2.cell? ⟨b3, 3, none⟩ = some (.int .u64 a.f3) := (blk_cell HB32.out 3).trans rfl; have yc4 : w2.cell? ⟨b3, 4, none⟩ = some (.slice A a.f4.length c) := (blk_cell HB32.out 4).trans rfl; have yc5 : w2.cell? ⟨b3, 5, none⟩ = some (.int .i64 a.f5) := (blk_cell HB32.out 5).trans rfl; have yf0 := blk_frozen HB32.out 0; have yf1 := blk_frozen HB32.out 1; have yf2 := blk_frozen HB32.out 2; have yf3 := blk_frozen HB32.out 3; have yf4 := blk_frozen HB32.out 4; have yf5 := blk_frozen HB32.out 5; have zc0 : w2.cell? ⟨b2, 0, none⟩ = some (.int .i64 0) := (blk_cell HB22.out 0).trans rfl; have zc1 : w2.cell? ⟨b2, 1, none⟩ = some (.string (⟨#[]⟩ : ByteArray)) := (blk_cell HB22.out 1).trans rfl; have zc2 : w2.cell? ⟨b2, 2, none⟩ = some (.int .i64 0) := (blk_cell HB22.out 2).trans rfl; have zc3 : w2.cell? ⟨b2, 3, none⟩ = some (.int .u64 0) := (blk_cell HB22.out 3).trans rfl; have zc4 : w2.cell? ⟨b2, 4, none⟩ = some (.slice none 0 0) := (blk_cell HB22.out 4).trans rfl; have zc5 : w2.cell? ⟨b2, 5, none⟩ = some (.int .i64 0) := (blk_cell HB22.out 5).trans rfl; have zf0 := blk_frozen HB22.out 0; have zf1 := blk_frozen HB22.out 1; have zf2 := blk_frozen HB22.out 2; have zf3 := blk_frozen HB22.out 3; have zf4 := blk_frozen HB22.out 4; have zf5 := blk_frozen HB22.out 5)
          clear CS
          go_region_with (go_at_call 121; (with_reducible refine (CR _ ?_).mono ?_); (first | exact HS2.out | exact HS2.out.drew | exact HS2.out.drewN _); rintro e w3 ⟨A3, c3, rfl, hR3, hS3, hF3⟩; have HS3 := Lib.hid hS3; have HF3 := Lib.hid (Frm.trans (by first | exact HF2.out | exact HF2.out.drew | exact HF2.out.drewN _) hF3); have HB33 := Lib.hid (HF3.out.at_ hn3 HB3.out); have HB23 := Lib.hid (HF3.out.at_ hn2 HB2.out); have HR3a := Lib.hid (R_frm' HR.out HF3.out hokg); have HR3b := Lib.hid (R_new2 (base := w.heap.size) (b2 := b2) (b3 := b3) hR3 HSB.out (blk_lt HB22.out) (blk_lt HB32.out)); clear hR3 hS3 hF3; have hb3l := blk_lt HB33.out; have hb2l := blk_lt HB23.out; have xc0 : w3.cell? ⟨b3, 0, none⟩ = some (.int .i64 a.f0) := (blk_cell HB33.out 0).trans rfl; have xc1 : w3.cell? ⟨b3, 1, none⟩ = some (.string a.f1) := (blk_cell HB33.out 1).trans rfl; have xc2 : w3.cell? ⟨b3, 2, none⟩ = some (.int .i64 a.f2) := (blk_cell HB33.out 2).trans rfl; have xc3 : w3.cell? ⟨b3, 3, none⟩ = some (.int .u64 a.f3) := (blk_cell HB33.out 3).trans rfl; have xc4 : w3.cell? ⟨b3, 4, none⟩ = some (.slice A a.f4.length c) := (blk_cell HB33.out 4).trans rfl; have xc5 : w3.cell? ⟨b3, 5, none⟩ = some (.int .i64 a.f5) := (blk_cell HB33.out 5).trans rfl; have xf0 := blk_frozen HB33.out 0; have xf1 := blk_frozen HB33.out 1; have xf2 := blk_frozen HB33.out 2; have xf3 := blk_frozen HB33.out 3; have xf4 := blk_frozen HB33.out 4; have xf5 := blk_frozen HB33.out 5; have vc0 : w3.cell? ⟨b2, 0, none⟩ = some (.int .i64 0) := (blk_cell HB23.out 0).trans rfl; have vc1 : w3.cell? ⟨b2, 1, none⟩ = some (.string (⟨#[]⟩ : ByteArray)) := (blk_cell HB23.out 1).trans rfl; have vc2 : w3.cell? ⟨b2, 2, none⟩ = some (.int .i64 0) := (blk_cell HB23.out 2).trans rfl; have vc3 : w3.cell? ⟨b2, 3, none⟩ = some (.int .u64 0) := (blk_cell HB23.out 3).trans rfl; have vc4 : w3.cell? ⟨b2, 4, none⟩ = some (.slice none 0 0) := (blk_cell HB23.out 4).trans rfl; have vc5 : w3.cell? ⟨b2, 5, none⟩ = some (.int .i64 0) := (blk_cell HB23.out 5).trans rfl; have vf0 := blk_frozen HB23.out 0; have vf1 := blk_frozen HB23.out 1; have vf2 := blk_frozen HB23.out 2; have vf3 := blk_frozen HB23.out 3; have vf4 := blk_frozen HB23.out 4; have vf5 := blk_frozen HB23.out 5)
          all_goals
            go_wp2
            exact bodyPost_ret (v := .agg #[.int .i64 10, .string ⟨#[]⟩, .int .i64 0, .int .u64 0, .slice (some ⟨w3.heap.size, 0, none⟩) 2 2, .int .i64 p]) (results_c Tryd.results96 _ _ b2 44 _ (0, 0) _ rfl (blk_alloc (blk_put6 HB23.out _ _ _ _ _ _) _) Tryd.underlying44 rfl size44) rfl (ndPost_of HE.out ⟨_, rfl, R_true (R_pair2 HR3a.out HR3b.out HSB.out hb2l hb3l _ _ _ _ _ _), (HS3.out.set6 hgb _ _ _ _ _ _).alloc _, ((HF.out.trans HF3.out).set6 (Nat.le_of_eq HSB.out) _ _ _ _ _ _).alloc _⟩)
  · have CS1 := sign_yes (W0 := W0) (g := g) (ev := ev) hor
    have hl1 := signAt_len hor
    have CR := (RC n (Nat.le_refl _)).use (W0 := W0) (g := g) (ev := ev) (st := s1) (by omega)
    have HE : Hid (rangedF ev (n + 1) st = (nd 9 [a, (unaryF ev n s1).1] p, (unaryF ev n s1).2)) := Lib.hid (HD.out p s1 hor)
    clear hor HN HD HCO
    go_loopw [7, 11] (fun v7 v11 wq => ∃ j : Int, (j = 0) ∧ v11 = .int .i64 j ∧ Aside0 (wq.heap[b3]? = some (.cells #[.int .i64 a.f0, .string a.f1, .int .i64 a.f2, .int .u64 a.f3, .slice A a.f4.length c, .int .i64 a.f5] 44 (0, 0))) ∧ Aside0 (wq.heap[b2]? = some (.cells #[.int .i64 0, .string (⟨#[]⟩ : ByteArray), .int .i64 0, .int .u64 0, .slice none 0 0, .int .i64 0] 44 (0, 0))) ∧ Aside0 (k44.R 44 wq w.heap.size (fun q => q ≠ b2 ∧ q ≠ b3) (.slice A a.f4.length c) a.f4) ∧ Aside0 (RdAt W0 g ev s wq) ∧ Aside0 (Frm g w wq)) (fun _ v11 _ => 2 - (intOf v11).toNat)
    case atStart => exact ⟨0, by simp, rfl, ⟨HB3.out⟩, ⟨HB2.out⟩, ⟨HR.out⟩, ⟨HS.out⟩, ⟨HF.out⟩⟩
    case round =>
      clear HB3 HB2 HR HS HF
      obtain ⟨j, hj, rfl, HB3, HB2, HR, HS, HF⟩ := hrel
      obtain rfl := hj
      have CS := CS1
      clear CS1
      generalize unaryF ev n s1 = q1 at *
      obtain ⟨b, s2⟩ := q1
      go_upto_region 7 with (go_at_call 83; (with_reducible refine (CS _ ?_).mono ?_); exact HS.out; rintro e w2 ⟨rfl, hS2, hF2⟩; have HS2 := Lib.hid hS2; have HF2 := Lib.hid hF2; have HB32 := Lib.hid (hF2.at_ hn3 HB3.out); have HB22 := Lib.hid (hF2.at_ hn2 HB2.out); have HR2 := Lib.hid (R_frm' HR.out hF2 hokg); clear hS2 hF2; have yc0 : w2.cell? ⟨b3, 0, none⟩ = some (.int .i64 a.f0) := (blk_cell HB32.out 0).trans rfl; have yc1 : w2.cell? ⟨b3, 1, none⟩ = some (.string a.f1) := (blk_cell HB32.out 1).trans rfl; have yc2 : w2.cell? ⟨b3, 2, none⟩ = some (.int .i64 a.f2) := (blk_cell HB32.out 2).trans rfl; have yc3 : w2.cell? ⟨b3, 3, none⟩ = some (.int .u64 a.f3) := (blk_cell HB32.out 3).trans rfl; have yc4 : w2.cell? ⟨b3, 4, none⟩ = some (.slice A a.f4.length c) := (blk_cell HB32.out 4).trans rfl; have yc5 : w2.cell? ⟨b3, 5, none⟩ = some (.int .i64 a.f5) := (blk_cell HB32.out 5).trans rfl; have yf0 := blk_frozen HB32.out 0; have yf1 := blk_frozen HB32.out 1; have yf2 := blk_frozen HB32.out 2; have yf3 := blk_frozen HB32.out 3; have yf4 := blk_frozen HB32.out 4; have yf5 := blk_frozen HB32.out 5; have zc0 : w2.cell? ⟨b2, 0, none⟩ = some (.int .i64 0) := (blk_cell HB22.out 0).trans rfl; have zc1 : w2.cell? ⟨b2, 1, none⟩ = some (.string (⟨#[]⟩ : ByteArray)) := (blk_cell HB22.out 1).trans rfl; have zc2 : w2.cell? ⟨b2, 2, none⟩ = some (.int .i64 0) := (blk_cell HB22.out 2).trans rfl; have zc3 : w2.cell? ⟨b2, 3, none⟩ = some (.int .u64 0) := (blk_cell HB22.out 3).trans rfl; have zc4 : w2.cell? ⟨b2, 4, none⟩ = some (.slice none 0 0) := (blk_cell HB22.out 4).trans rfl; have zc5 : w2.cell? ⟨b2, 5, none⟩ = some (.int .i64 0) := (blk_cell HB22.out 5).trans rfl; have zf0 := blk_frozen HB22.out 0; have zf1 := blk_frozen HB22.out 1; have zf2 := blk_frozen HB22.out 2; have zf3 := blk_frozen HB22.out 3; have zf4 := blk_frozen HB22.out 4; have zf5 := blk_frozen HB22.out 5)
      clear CS
      go_region_with (go_at_call 121; (with_reducible refine (CR _ ?_).mono ?_); (first | exact HS2.out | exact HS2.out.drew | exact HS2.out.drewN _); rintro e w3 ⟨A3, c3, rfl, hR3, hS3, hF3⟩; have HS3 := Lib.hid hS3; have HF3 := Lib.hid (Frm.trans (by first | exact HF2.out | exact HF2.out.drew | exact HF2.out.drewN _) hF3); have HB33 := Lib.hid (HF3.out.at_ hn3 HB3.out); have HB23 := Lib.hid (HF3.out.at_ hn2 HB2.out); have HR3a := Lib.hid (R_frm' HR.out HF3.out hokg); have HR3b := Lib.hid (R_new2 (base := w.heap.size) (b2 := b2) (b3 := b3) hR3 HSB.out (blk_lt HB22.out) (blk_lt HB32.out)); clear hR3 hS3 hF3; have hb3l := blk_lt HB33.out; have hb2l := blk_lt HB23.out; have xc0 : w3.cell? ⟨b3, 0, none⟩ = some (.int .i64 a.f0) := (blk_cell HB33.out 0).trans rfl; have xc1 : w3.cell? ⟨b3, 1, none⟩ = some (.string a.f1) := (blk_cell HB33.out 1).trans rfl; have xc2 : w3.cell? ⟨b3, 2, none⟩ = some (.int .i64 a.f2) := (blk_cell HB33.out 2).trans rfl; have xc3 : w3.cell? ⟨b3, 3, none⟩ = some (.int .u64 a.f3) := (blk_cell HB33.out 3).trans rfl; have xc4 : w3.cell? ⟨b3, 4, none⟩ = some (.slice A a.f4.length c) := (blk_cell HB33.out 4).trans rfl; have xc5 : w3.cell? ⟨b3, 5, none⟩ = some (.int .i64 a.f5) := (blk_cell HB33.out 5).trans rfl; have xf0 := blk_frozen HB33.out 0; have xf1 := blk_frozen HB33.out 1; have xf2 := blk_frozen HB33.out 2; have xf3 := blk_frozen HB33.out 3; have xf4 := blk_frozen HB33.out 4; have xf5 := blk_frozen HB33.out 5; have vc0 : w3.cell? ⟨b2, 0, none⟩ = some (.int .i64 0) := (blk_cell HB23.out 0).trans rfl; have vc1 : w3.cell? ⟨b2, 1, none⟩ = some (.string (⟨#[]⟩ : ByteArray)) := (blk_cell HB23.out 1).trans rfl; have vc2 : w3.cell? ⟨b2, 2, none⟩ = some (.int .i64 0) := (blk_cell HB23.out 2).trans rfl; have vc3 : w3.cell? ⟨b2, 3, none⟩ = some (.int .u64 0) := (blk_cell HB23.out 3).trans rfl; have vc4 : w3.cell? ⟨b2, 4, none⟩ = some (.slice none 0 0) := (blk_cell HB23.out 4).trans rfl; have vc5 : w3.cell? ⟨b2, 5, none⟩ = some (.int .i64 0) := (blk_cell HB23.out 5).trans rfl; have vf0 := blk_frozen HB23.out 0; have vf1 := blk_frozen HB23.out 1; have vf2 := blk_frozen HB23.out 2; have vf3 := blk_frozen HB23.out 3; have vf4 := blk_frozen HB23.out 4; have vf5 := blk_frozen HB23.out 5)
      all_goals
        go_wp2
        exact bodyPost_ret (v := .agg #[.int .i64 9, .string ⟨#[]⟩, .int .i64 0, .int .u64 0, .slice (some ⟨w3.heap.size, 0, none⟩) 2 2, .int .i64 p]) (results_c Tryd.results96 _ _ b2 44 _ (0, 0) _ rfl (blk_alloc (blk_put6 HB23.out _ _ _ _ _ _) _) Tryd.underlying44 rfl size44) rfl (ndPost_of HE.out ⟨_, rfl, R_true (R_pair2 HR3a.out HR3b.out HSB.out hb2l hb3l _ _ _ _ _ _), (HS3.out.set6 hgb _ _ _ _ _ _).alloc _, ((HF.out.trans HF3.out).set6 (Nat.le_of_eq HSB.out) _ _ _ _ _ _).alloc _⟩)
set_option maxHeartbeats 4000000 in
set_option maxRecDepth 100000 in
theorem unary_walk (n : Nat) (UC : ∀ m, m ≤ n → FnC 121 unaryF 3 m) (AC : ∀ m, m ≤ n → FnC 138 atomF 2 m) : FnC 121 unaryF 3 (n + 1) := by
  intro W0 g ev st w hfu hR
  go_enter Tryd.func121, Tryd.ntmps121
  go_upto_region 1 with (fail)
  have HZ := Lib.hid (blk_new w (Obj.cells #[.int .i64 0, .string (⟨#[]⟩ : ByteArray), .int .i64 0, .int .u64 0, .slice none 0 0, .int .i64 0] 44))
  have HRA := Lib.hid (hR.alloc (Obj.cells #[.int .i64 0, .string (⟨#[]⟩ : ByteArray), .int .i64 0, .int .u64 0, .slice none 0 0, .int .i64 0] 44))
  have HFA := Lib.hid ((Frm.refl g w).alloc (Obj.cells #[.int .i64 0, .string (⟨#[]⟩ : ByteArray), .int .i64 0, .int .u64 0, .slice none 0 0, .int .i64 0] 44))
  have hgb : g < w.heap.size := hR.lt
  have HSA : Hid ((w.alloc (Obj.cells #[.int .i64 0, .string (⟨#[]⟩ : ByteArray), .int .i64 0, .int .u64 0, .slice none 0 0, .int .i64 0] 44)).heap.size = w.heap.size + 1) := Lib.hid (Array.size_push _)
  clear hR
  generalize w.alloc (Obj.cells #[.int .i64 0, .string (⟨#[]⟩ : ByteArray), .int .i64 0, .int .u64 0, .slice none 0 0, .int .i64 0] 44) = wA at *
  generalize hb2 : w.heap.size = b2 at *
  have HSB : Hid (w.heap.size = b2) := Lib.hid hb2
  clear hb2
  rcases hnot : signAt (str1 33) st with _ | ⟨p, s1⟩
  · have CS := sign_no (W0 := W0) (g := g) (ev := ev) hnot
    have HEQ : Hid (unaryF ev (n + 1) st = upL ev n (atomF ev n st).1 (atomF ev n st).2) := Lib.hid (unaryF_atom hnot)
    have C1 := (AC n (Nat.le_refl _)).use (W0 := W0) (g := g) (ev := ev) (st := st) (by omega)
    have hlen : (atomF ev n st).2.ts.length ≤ st.ts.length := (ts_le ev n).2.2.2.2 st
    clear hnot
    generalize atomF ev n st = q0 at *
    obtain ⟨a0, s0⟩ := q0
    go_upto_block 0 with (first | (go_at_call 83; (with_reducible refine (CS _ ?_).mono ?_); exact HRA.out; rintro e w1 ⟨rfl, hS1, hF1⟩; have HS1 := Lib.hid hS1; have HF1 := Lib.hid hF1; have HB21 := Lib.hid (hF1.at_ (Nat.ne_of_gt hgb) HZ.out); clear hS1 hF1) | (go_at_call 138; (with_reducible refine (C1 _ ?_).mono ?_); exact HS1.out; rintro e w4 ⟨A1, c1, rfl, hR1, hS1, hF1⟩; have HR1 := Lib.hid hR1; have HS4 := Lib.hid hS1; have HF4 := Lib.hid (Frm.trans HF1.out hF1); clear hR1 hS1 hF1))
    clear C1 CS
    have HB3 := Lib.hid (blk_new w4 (Obj.cells #[.int .i64 a0.f0, .string a0.f1, .int .i64 a0.f2, .int .u64 a0.f3, .slice A1 a0.f4.length c1, .int .i64 a0.f5] 44))
    have HB2 := Lib.hid (blk_alloc (HF4.out.at_ (Nat.ne_of_gt hgb) HZ.out) (Obj.cells #[.int .i64 a0.f0, .string a0.f1, .int .i64 a0.f2, .int .u64 a0.f3, .slice A1 a0.f4.length c1, .int .i64 a0.f5] 44))
    have HS := Lib.hid (HS4.out.alloc (Obj.cells #[.int .i64 a0.f0, .string a0.f1, .int .i64 a0.f2, .int .u64 a0.f3, .slice A1 a0.f4.length c1, .int .i64 a0.f5] 44))
    have HF := Lib.hid ((HFA.out.trans HF4.out).alloc (Obj.cells #[.int .i64 a0.f0, .string a0.f1, .int .i64 a0.f2, .int .u64 a0.f3, .slice A1 a0.f4.length c1, .int .i64 a0.f5] 44))
    have HR := Lib.hid (Kd.R_alloc (R_between (base := w.heap.size) (b2 := b2) HR1.out (by have := blk_lt HB21.out; have := HSB.out; omega) (blk_lt HB21.out) (Nat.le_refl _)) (Obj.cells #[.int .i64 a0.f0, .string a0.f1, .int .i64 a0.f2, .int .u64 a0.f3, .slice A1 a0.f4.length c1, .int .i64 a0.f5] 44))
    have hg3 : b2 < w4.heap.size := by have := HF4.out.size; rw [HSA.out] at this; omega
    clear HR1 HS1 HF1 HRA HFA HZ HSA HB21 HF4 HS4
    generalize w4.alloc (Obj.cells #[.int .i64 a0.f0, .string a0.f1, .int .i64 a0.f2, .int .u64 a0.f3, .slice A1 a0.f4.length c1, .int .i64 a0.f5] 44) = wL at *
    generalize w4.heap.size = b3 at *
    have hn2 : b2 ≠ g := Nat.ne_of_gt hgb
    have hn3 : b3 ≠ g := by omega
    have hn23 : b3 ≠ b2 := by omega
    have hgb3 : g < b3 := by omega
    have hb3w : w.heap.size ≤ b3 := by have := HSB.out; omega
    have hokg : ∀ q, (q ≠ b2 ∧ q ≠ b3) → w.heap.size ≤ q → q ≠ g := fun q _ hq => by have := HSB.out; omega
    go_wp2
    go_loopw [6] (fun v6 wr => ∃ (k : Nat) (a : S44) (s : St) (A : Option Addr) (c : Nat), (s.ts.length ≤ k ∧ k ≤ n) ∧ Aside0 (unaryF ev (n + 1) st = upL ev k a s) ∧ Aside0 (wr.heap[b3]? = some (.cells #[.int .i64 a.f0, .string a.f1, .int .i64 a.f2, .int .u64 a.f3, .slice A a.f4.length c, .int .i64 a.f5] 44 (0, 0))) ∧ Aside0 (wr.heap[b2]? = some (.cells #[.int .i64 0, .string (⟨#[]⟩ : ByteArray), .int .i64 0, .int .u64 0, .slice none 0 0, .int .i64 0] 44 (0, 0))) ∧ Aside0 (k44.R 44 wr w.heap.size (fun q => q ≠ b2 ∧ q ≠ b3) (.slice A a.f4.length c) a.f4) ∧ Aside0 (RdAt W0 g ev s wr) ∧ Aside0 (Frm g w wr)) (fun _ wr => tokLen g wr)
    case atStart => exact ⟨n, a0, s0, A1, c1, ⟨by omega, Nat.le_refl _⟩, ⟨HEQ.out⟩, ⟨HB3.out⟩, ⟨HB2.out⟩, ⟨HR.out⟩, ⟨HS.out⟩, ⟨HF.out⟩⟩
    case round =>
      clear HEQ HB3 HB2 HR HS HF hlen
      obtain ⟨k, a, s, A, c, ⟨hk, hkn⟩, HEQ, HB3, HB2, HR, HS, HF⟩ := hrel
      have HTL := Lib.hid HS.out.len
      rcases hsg : signAt (str1 94) s with _ | ⟨p, s1⟩
      · have CS := sign_no (W0 := W0) (g := g) (ev := ev) hsg
        have HE : Hid (unaryF ev (n + 1) st = (a, s)) := Lib.hid (HEQ.out.trans (upL_none hsg))
        clear hsg HEQ
        go_wp2_with (go_at_call 83; (with_reducible refine (CS _ ?_).mono ?_); exact HS.out; rintro e w2 ⟨rfl, hS2, hF2⟩; have HS2 := Lib.hid hS2; have HF2 := Lib.hid hF2; have HB32 := Lib.hid (hF2.at_ hn3 HB3.out); have HB22 := Lib.hid (hF2.at_ hn2 HB2.out); have HR2 := Lib.hid (R_frm' HR.out hF2 hokg); clear hS2 hF2; have yc0 : w2.cell? ⟨b3, 0, none⟩ = some (.int .i64 a.f0) := (blk_cell HB32.out 0).trans rfl; have yc1 : w2.cell? ⟨b3, 1, none⟩ = some (.string a.f1) := (blk_cell HB32.out 1).trans rfl; have yc2 : w2.cell? ⟨b3, 2, none⟩ = some (.int .i64 a.f2) := (blk_cell HB32.out 2).trans rfl; have yc3 : w2.cell? ⟨b3, 3, none⟩ = some (.int .u64 a.f3) := (blk_cell HB32.out 3).trans rfl; have yc4 : w2.cell? ⟨b3, 4, none⟩ = some (.slice A a.f4.length c) := (blk_cell HB32.out 4).trans rfl; have yc5 : w2.cell? ⟨b3, 5, none⟩ = some (.int .i64 a.f5) := (blk_cell HB32.out 5).trans rfl; have yf0 := blk_frozen HB32.out 0; have yf1 := blk_frozen HB32.out 1; have yf2 := blk_frozen HB32.out 2; have yf3 := blk_frozen HB32.out 3; have yf4 := blk_frozen HB32.out 4; have yf5 := blk_frozen HB32.out 5; have zc0 : w2.cell? ⟨b2, 0, none⟩ = some (.int .i64 0) := (blk_cell HB22.out 0).trans rfl; have zc1 : w2.cell? ⟨b2, 1, none⟩ = some (.string (⟨#[]⟩ : ByteArray)) := (blk_cell HB22.out 1).trans rfl; have zc2 : w2.cell? ⟨b2, 2, none⟩ = some (.int .i64 0) := (blk_cell HB22.out 2).trans rfl; have zc3 : w2.cell? ⟨b2, 3, none⟩ = some (.int .u64 0) := (blk_cell HB22.out 3).trans rfl; have zc4 : w2.cell? ⟨b2, 4, none⟩ = some (.slice none 0 0) := (blk_cell HB22.out 4).trans rfl; have zc5 : w2.cell? ⟨b2, 5, none⟩ = some (.int .i64 0) := (blk_cell HB22.out 5).trans rfl; have zf0 := blk_frozen HB22.out 0; have zf1 := blk_frozen HB22.out 1; have zf2 := blk_frozen HB22.out 2; have zf3 := blk_frozen HB22.out 3; have zf4 := blk_frozen HB22.out 4; have zf5 := blk_frozen HB22.out 5)
        exact bodyPost_ret (v := .agg #[.int .i64 a.f0, .string a.f1, .int .i64 a.f2, .int .u64 a.f3, .slice A a.f4.length c, .int .i64 a.f5]) (results_c Tryd.results121 _ _ b2 44 _ (0, 0) _ rfl (blk_put6 HB22.out _ _ _ _ _ _) Tryd.underlying44 rfl size44) rfl (ndPost_of HE.out ⟨_, rfl, R_true (R_set6 HR2.out (fun q hq => hq.1) _ _ _ _ _ _), HS2.out.set6 hgb _ _ _ _ _ _, (HF.out.trans HF2.out).set6 (Nat.le_of_eq HSB.out) _ _ _ _ _ _⟩)
      · have CS := sign_yes (W0 := W0) (g := g) (ev := ev) hsg
        have hl1 := signAt_len hsg
        obtain ⟨k, rfl⟩ : ∃ k1, k = k1 + 1 := ⟨k - 1, by omega⟩
        have HSG := Lib.hid hsg
        clear hsg
        go_upto_region 9 with (go_at_call 83; (with_reducible refine (CS _ ?_).mono ?_); exact HS.out; rintro e w2 ⟨rfl, hS2, hF2⟩; have HS2 := Lib.hid hS2; have HF2 := Lib.hid hF2; have HB32 := Lib.hid (hF2.at_ hn3 HB3.out); have HB22 := Lib.hid (hF2.at_ hn2 HB2.out); have HR2 := Lib.hid (R_frm' HR.out hF2 hokg); clear hS2 hF2; have yc0 : w2.cell? ⟨b3, 0, none⟩ = some (.int .i64 a.f0) := (blk_cell HB32.out 0).trans rfl; have yc1 : w2.cell? ⟨b3, 1, none⟩ = some (.string a.f1) := (blk_cell HB32.out 1).trans rfl; have yc2 : w2.cell? ⟨b3, 2, none⟩ = some (.int .i64 a.f2) := (blk_cell HB32.out 2).trans rfl; have yc3 : w2.cell? ⟨b3, 3, none⟩ = some (.int .u64 a.f3) := (blk_cell HB32.out 3).trans rfl; have yc4 : w2.cell? ⟨b3, 4, none⟩ = some (.slice A a.f4.length c) := (blk_cell HB32.out 4).trans rfl; have yc5 : w2.cell? ⟨b3, 5, none⟩ = some (.int .i64 a.f5) := (blk_cell HB32.out 5).trans rfl; have yf0 := blk_frozen HB32.out 0; have yf1 := blk_frozen HB32.out 1; have yf2 := blk_frozen HB32.out 2; have yf3 := blk_frozen HB32.out 3; have yf4 := blk_frozen HB32.out 4; have yf5 := blk_frozen HB32.out 5; have zc0 : w2.cell? ⟨b2, 0, none⟩ = some (.int .i64 0) := (blk_cell HB22.out 0).trans rfl; have zc1 : w2.cell? ⟨b2, 1, none⟩ = some (.string (⟨#[]⟩ : ByteArray)) := (blk_cell HB22.out 1).trans rfl; have zc2 : w2.cell? ⟨b2, 2, none⟩ = some (.int .i64 0) := (blk_cell HB22.out 2).trans rfl; have zc3 : w2.cell? ⟨b2, 3, none⟩ = some (.int .u64 0) := (blk_cell HB22.out 3).trans rfl; have zc4 : w2.cell? ⟨b2, 4, none⟩ = some (.slice none 0 0) := (blk_cell HB22.out 4).trans rfl; have zc5 : w2.cell? ⟨b2, 5, none⟩ = some (.int .i64 0) := (blk_cell HB22.out 5).trans rfl; have zf0 := blk_frozen HB22.out 0; have zf1 := blk_frozen HB22.out 1; have zf2 := blk_frozen HB22.out 2; have zf3 := blk_frozen HB22.out 3; have zf4 := blk_frozen HB22.out 4; have zf5 := blk_frozen HB22.out 5; have hb3l := blk_lt HB32.out; have hb2l := blk_lt HB22.out)
        clear CS yc0 yf0 zc0 zf0 yc1 yf1 zc1 zf1 yc2 yf2 zc2 zf2 yc3 yf3 zc3 zf3 yc4 yf4 zc4 zf4 yc5 yf5 zc5 zf5
        have HB3M : Hid ((((((((w2.setCell ⟨b3, 0, none⟩ (.int .i64 12)).setCell ⟨b3, 1, none⟩ (.string ⟨#[]⟩)).setCell ⟨b3, 2, none⟩ (.int .i64 0)).setCell ⟨b3, 3, none⟩ (.int .u64 0)).setCell ⟨b3, 4, none⟩ (.slice (some ⟨w2.heap.size, 0, none⟩) 1 1)).setCell ⟨b3, 5, none⟩ (.int .i64 p)).alloc (.cells #[.int .i64 a.f0, .string a.f1, .int .i64 a.f2, .int .u64 a.f3, .slice A a.f4.length c, .int .i64 a.f5] 44)).heap[b3]? = _) := Lib.hid (blk_alloc (blk_put6 HB32.out _ _ _ _ _ _) _)
        have HB2M : Hid ((((((((w2.setCell ⟨b3, 0, none⟩ (.int .i64 12)).setCell ⟨b3, 1, none⟩ (.string ⟨#[]⟩)).setCell ⟨b3, 2, none⟩ (.int .i64 0)).setCell ⟨b3, 3, none⟩ (.int .u64 0)).setCell ⟨b3, 4, none⟩ (.slice (some ⟨w2.heap.size, 0, none⟩) 1 1)).setCell ⟨b3, 5, none⟩ (.int .i64 p)).alloc (.cells #[.int .i64 a.f0, .string a.f1, .int .i64 a.f2, .int .u64 a.f3, .slice A a.f4.length c, .int .i64 a.f5] 44)).heap[b2]? = _) := Lib.hid (blk_alloc (blk_far6 HB22.out (Ne.symm hn23) _ _ _ _ _ _) _)
        have HRM : Hid (k44.R 44 (((((((w2.setCell ⟨b3, 0, none⟩ (.int .i64 12)).setCell ⟨b3, 1, none⟩ (.string ⟨#[]⟩)).setCell ⟨b3, 2, none⟩ (.int .i64 0)).setCell ⟨b3, 3, none⟩ (.int .u64 0)).setCell ⟨b3, 4, none⟩ (.slice (some ⟨w2.heap.size, 0, none⟩) 1 1)).setCell ⟨b3, 5, none⟩ (.int .i64 p)).alloc (.cells #[.int .i64 a.f0, .string a.f1, .int .i64 a.f2, .int .u64 a.f3, .slice A a.f4.length c, .int .i64 a.f5] 44)) w.heap.size (fun q => q ≠ b2 ∧ q ≠ b3) (.slice (some ⟨w2.heap.size, 0, none⟩) 1 1) [a]) := Lib.hid (R_single HR2.out HSB.out hb2l hb3l _ _ _ _ _ _)
        have HSM : Hid (RdAt W0 g ev s1 (((((((w2.setCell ⟨b3, 0, none⟩ (.int .i64 12)).setCell ⟨b3, 1, none⟩ (.string ⟨#[]⟩)).setCell ⟨b3, 2, none⟩ (.int .i64 0)).setCell ⟨b3, 3, none⟩ (.int .u64 0)).setCell ⟨b3, 4, none⟩ (.slice (some ⟨w2.heap.size, 0, none⟩) 1 1)).setCell ⟨b3, 5, none⟩ (.int .i64 p)).alloc (.cells #[.int .i64 a.f0, .string a.f1, .int .i64 a.f2, .int .u64 a.f3, .slice A a.f4.length c, .int .i64 a.f5] 44))) := Lib.hid ((HS2.out.set6 hgb3 _ _ _ _ _ _).alloc _)
        have HFM : Hid (Frm g w (((((((w2.setCell ⟨b3, 0, none⟩ (.int .i64 12)).setCell ⟨b3, 1, none⟩ (.string ⟨#[]⟩)).setCell ⟨b3, 2, none⟩ (.int .i64 0)).setCell ⟨b3, 3, none⟩ (.int .u64 0)).setCell ⟨b3, 4, none⟩ (.slice (some ⟨w2.heap.size, 0, none⟩) 1 1)).setCell ⟨b3, 5, none⟩ (.int .i64 p)).alloc (.cells #[.int .i64 a.f0, .string a.f1, .int .i64 a.f2, .int .u64 a.f3, .slice A a.f4.length c, .int .i64 a.f5] 44))) := Lib.hid (((HF.out.trans HF2.out).set6 hb3w _ _ _ _ _ _).alloc _)
        clear HB32 HB22 HR2 HS2 HF2 HB3 HB2 HR HS HF hb3l hb2l
        generalize (((((((w2.setCell ⟨b3, 0, none⟩ (.int .i64 12)).setCell ⟨b3, 1, none⟩ (.string ⟨#[]⟩)).setCell ⟨b3, 2, none⟩ (.int .i64 0)).setCell ⟨b3, 3, none⟩ (.int .u64 0)).setCell ⟨b3, 4, none⟩ (.slice (some ⟨w2.heap.size, 0, none⟩) 1 1)).setCell ⟨b3, 5, none⟩ (.int .i64 p)).alloc (.cells #[.int .i64 a.f0, .string a.f1, .int .i64 a.f2, .int .u64 a.f3, .slice A a.f4.length c, .int .i64 a.f5] 44)) = wM at *
        generalize w2.heap.size = kb at *
        obtain ⟨ts, bad, pos⟩ := s1
        cases ts with
        | nil =>
          obtain ⟨AT, ct, hlc, hCC, hbb⟩ := HSM.out.cells
          have hc0 : wM.cell? ⟨g, 0, none⟩ = some (.slice AT 0 ct) := (blk_cell hbb 0).trans rfl
          clear hbb hCC hlc
          have HEQ2 : Hid (unaryF ev (n + 1) st = upL ev k (nd 12 [a] p) ⟨[], bad, pos⟩) := Lib.hid (HEQ.out.trans (upL_nil HSG.out))
          go_wp2
          go_roundw
          case rel => exact ⟨k, nd 12 [a] p, ⟨[], bad, pos⟩, some ⟨kb, 0, none⟩, 1, ⟨by first | omega | (simp only [List.length_cons, List.length_nil] at *; omega), by omega⟩, ⟨HEQ2.out⟩, ⟨HB3M.out⟩, ⟨HB2M.out⟩, ⟨HRM.out⟩, ⟨HSM.out⟩, ⟨HFM.out⟩⟩
          case measure => rw [HTL.out, HSM.out.len]; omega
        | cons t r =>
          obtain ⟨AT, ct, hlc, hCC, hbb⟩ := HSM.out.cells
          obtain ⟨ad, e0_, x0, x1, x2, x3, x4⟩ := at_T39 hCC (0 : Int) (by omega) (by simp)
          cases e0_
          have hxb : ad.block < W0.heap.size := by have := World.block_lt_of_cell? W0 _ x0; first | rwa [add_block] at this | exact this
          have HCC := Lib.hid hCC
          clear hCC
          have et : rd_T39 (t :: r) 0 = t := rfl
          rw [et] at x0 x1 x2 x3 x4
          simp only [Int.toNat_zero, Nat.zero_mul, Addr.add, if_true] at x0 x1 x2 x3 x4
          have hlt_ := HSM.out.sz
          replace x0 := (HSM.out.old.cell (by show ad.block < g; omega)).trans x0
          replace x2 := (HSM.out.old.cell (by show ad.block < g; omega)).trans x2
          clear et x1 x3 x4
          have hne_ : ad.block ≠ g := by omega
          have hc0 : wM.cell? ⟨g, 0, none⟩ = some (.slice (some ad) (t :: r).length ct) := (blk_cell hbb 0).trans rfl
          have hf0 := blk_frozen hbb 0
          simp only [List.length_cons] at hc0 hlc
          clear hbb
          have hl0 : (0 : Int) < (r.length : Int) + 1 := by omega
          simp only [List.length_cons] at hl1
          by_cases h2 : t.f0 = 2
          · have tk : (t.f0 == 2) = true := beq_iff_eq.2 h2
            by_cases h3 : t.f2 = 0
            · have tz : (t.f2 == 0) = true := beq_iff_eq.2 h3
              have HE : Hid (unaryF ev (n + 1) st = (z44, failS ev ⟨t :: r, bad, pos⟩)) := Lib.hid (HEQ.out.trans (upL_zero HSG.out h2 h3))
              clear h2 h3
              have CF := fail_z (W0 := W0) (g := g) (ev := ev) (st := ⟨t :: r, bad, pos⟩)
              go_wp2_with (go_at_call 50; (with_reducible refine (CF _ ?_).mono ?_); exact HSM.out; rintro e w5 ⟨rfl, hS5, hF5⟩; have HS5 := Lib.hid hS5; have HF5 := Lib.hid hF5; have HB25 := Lib.hid (hF5.at_ hn2 HB2M.out); clear hS5 hF5; have zc0 : w5.cell? ⟨b2, 0, none⟩ = some (.int .i64 0) := (blk_cell HB25.out 0).trans rfl; have zc1 : w5.cell? ⟨b2, 1, none⟩ = some (.string (⟨#[]⟩ : ByteArray)) := (blk_cell HB25.out 1).trans rfl; have zc2 : w5.cell? ⟨b2, 2, none⟩ = some (.int .i64 0) := (blk_cell HB25.out 2).trans rfl; have zc3 : w5.cell? ⟨b2, 3, none⟩ = some (.int .u64 0) := (blk_cell HB25.out 3).trans rfl; have zc4 : w5.cell? ⟨b2, 4, none⟩ = some (.slice none 0 0) := (blk_cell HB25.out 4).trans rfl; have zc5 : w5.cell? ⟨b2, 5, none⟩ = some (.int .i64 0) := (blk_cell HB25.out 5).trans rfl; have zf0 := blk_frozen HB25.out 0; have zf1 := blk_frozen HB25.out 1; have zf2 := blk_frozen HB25.out 2; have zf3 := blk_frozen HB25.out 3; have zf4 := blk_frozen HB25.out 4; have zf5 := blk_frozen HB25.out 5)
              exact bodyPost_ret (v := .agg #[.int .i64 0, .string (⟨#[]⟩ : ByteArray), .int .i64 0, .int .u64 0, .slice none 0 0, .int .i64 0]) (results_c Tryd.results121 _ _ b2 44 _ (0, 0) _ rfl (blk_put6 HB25.out _ _ _ _ _ _) Tryd.underlying44 rfl size44) rfl (ndPost_of HE.out ⟨_, rfl, Kd.R_nil _ _ _ _ _, HS5.out.set6 hgb _ _ _ _ _ _, (HFM.out.trans HF5.out).set6 (Nat.le_of_eq HSB.out) _ _ _ _ _ _⟩)
            · have tz : (t.f2 == 0) = false := beq_eq_false_iff_ne.2 h3
              have HEQ2 : Hid (unaryF ev (n + 1) st = upL ev k ⟨12, ⟨#[]⟩, t.f2, 0, [a], p⟩ ⟨r, bad, pos⟩) := Lib.hid (HEQ.out.trans (upL_num HSG.out h2 h3))
              clear h2 h3
              have yc0 : wM.cell? ⟨b3, 0, none⟩ = some (.int .i64 12) := (blk_cell HB3M.out 0).trans rfl
              have yc1 : wM.cell? ⟨b3, 1, none⟩ = some (.string (⟨#[]⟩ : ByteArray)) := (blk_cell HB3M.out 1).trans rfl
              have yc2 : wM.cell? ⟨b3, 2, none⟩ = some (.int .i64 0) := (blk_cell HB3M.out 2).trans rfl
              have yc3 : wM.cell? ⟨b3, 3, none⟩ = some (.int .u64 0) := (blk_cell HB3M.out 3).trans rfl
              have yc4 : wM.cell? ⟨b3, 4, none⟩ = some (.slice (some ⟨kb, 0, none⟩) 1 1) := (blk_cell HB3M.out 4).trans rfl
              have yc5 : wM.cell? ⟨b3, 5, none⟩ = some (.int .i64 p) := (blk_cell HB3M.out 5).trans rfl
              have yf0 := blk_frozen HB3M.out 0
              have yf1 := blk_frozen HB3M.out 1
              have yf2 := blk_frozen HB3M.out 2
              have yf3 := blk_frozen HB3M.out 3
              have yf4 := blk_frozen HB3M.out 4
              have yf5 := blk_frozen HB3M.out 5
              have HN3 : Hid ((wM.setCell ⟨b3, 2, none⟩ (.int .i64 t.f2)).heap[b3]? = some (.cells #[.int .i64 12, .string (⟨#[]⟩ : ByteArray), .int .i64 t.f2, .int .u64 0, .slice (some ⟨kb, 0, none⟩) 1 1, .int .i64 p] 44 (0, 0))) := Lib.hid (blk_put (cs := #[.int .i64 12, .string (⟨#[]⟩ : ByteArray), .int .i64 0, .int .u64 0, .slice (some ⟨kb, 0, none⟩) 1 1, .int .i64 p]) HB3M.out 2 _ rfl)
              have HN2 := Lib.hid (blk_far HB2M.out (Ne.symm hn23) 2 (.int .i64 t.f2))
              have HNR := Lib.hid (Kd.R_far (p := ⟨b3, 2, none⟩) HRM.out (fun q hq => hq.2) (.int .i64 t.f2))
              have HNS := Lib.hid (HSM.out.setFar hgb3 2 (.int .i64 t.f2))
              have HNF := Lib.hid (HFM.out.setNew hb3w 2 (.int .i64 t.f2))
              go_wp2
              go_roundw
              case rel => exact ⟨k, ⟨12, ⟨#[]⟩, t.f2, 0, [a], p⟩, ⟨r, bad, pos⟩, some ⟨kb, 0, none⟩, 1, ⟨by first | omega | (simp only [List.length_cons, List.length_nil] at *; omega), by omega⟩, ⟨HEQ2.out⟩, ⟨blk_far HN3.out hn3 _ _⟩, ⟨blk_far HN2.out hn2 _ _⟩, ⟨Kd.R_mono (Kd.R_far (p := ⟨g, 0, none⟩) (R_notg HNR.out hokg) (fun q hq => hq.2) _) (fun q hq => hq.1)⟩, ⟨HNS.out.set0 (slt_if HCC.out hlc)⟩, ⟨HNF.out.set _ _⟩⟩
              case measure => rw [HTL.out, (HNS.out.set0 (slt_if HCC.out hlc)).len]; show r.length < _; omega
          · have tk : (t.f0 == 2) = false := beq_eq_false_iff_ne.2 h2
            have HEQ2 : Hid (unaryF ev (n + 1) st = upL ev k (nd 12 [a] p) ⟨t :: r, bad, pos⟩) := Lib.hid (HEQ.out.trans (upL_other HSG.out h2))
            clear h2
            go_wp2
            go_roundw
            case rel => exact ⟨k, nd 12 [a] p, ⟨t :: r, bad, pos⟩, some ⟨kb, 0, none⟩, 1, ⟨by first | omega | (simp only [List.length_cons, List.length_nil] at *; omega), by omega⟩, ⟨HEQ2.out⟩, ⟨HB3M.out⟩, ⟨HB2M.out⟩, ⟨HRM.out⟩, ⟨HSM.out⟩, ⟨HFM.out⟩⟩
            case measure => rw [HTL.out, HSM.out.len]; simp only [List.length_cons]; omega
  · have CS := sign_yes (W0 := W0) (g := g) (ev := ev) hnot
    have hl1 := signAt_len hnot
    have CR := (UC n (Nat.le_refl _)).use (W0 := W0) (g := g) (ev := ev) (st := s1) (by omega)
    have HE : Hid (unaryF ev (n + 1) st = (nd 11 [(unaryF ev n s1).1] p, (unaryF ev n s1).2)) := Lib.hid (unaryF_not hnot)
    clear hnot
    generalize unaryF ev n s1 = q1 at *
    obtain ⟨b, s2⟩ := q1
    go_wp2_with (first | (go_at_call 83; (with_reducible refine (CS _ ?_).mono ?_); exact HRA.out; rintro e w1 ⟨rfl, hS1, hF1⟩; have HS1 := Lib.hid hS1; have HF1 := Lib.hid hF1; have HB21 := Lib.hid (hF1.at_ (Nat.ne_of_gt hgb) HZ.out); clear hS1 hF1) | (go_at_call 121; (with_reducible refine (CR _ ?_).mono ?_); exact HS1.out; rintro e w3 ⟨A3, c3, rfl, hR3, hS3, hF3⟩; have HS3 := Lib.hid hS3; have HF3 := Lib.hid (Frm.trans HF1.out hF3); have HB23 := Lib.hid (HF3.out.at_ (Nat.ne_of_gt hgb) HZ.out); have HR3 := Lib.hid (R_new1 (base := w.heap.size) (b2 := b2) hR3 HSB.out (blk_lt HB21.out)); clear hR3 hS3 hF3; have hb2l := blk_lt HB23.out; have zc0 : w3.cell? ⟨b2, 0, none⟩ = some (.int .i64 0) := (blk_cell HB23.out 0).trans rfl; have zc1 : w3.cell? ⟨b2, 1, none⟩ = some (.string (⟨#[]⟩ : ByteArray)) := (blk_cell HB23.out 1).trans rfl; have zc2 : w3.cell? ⟨b2, 2, none⟩ = some (.int .i64 0) := (blk_cell HB23.out 2).trans rfl; have zc3 : w3.cell? ⟨b2, 3, none⟩ = some (.int .u64 0) := (blk_cell HB23.out 3).trans rfl; have zc4 : w3.cell? ⟨b2, 4, none⟩ = some (.slice none 0 0) := (blk_cell HB23.out 4).trans rfl; have zc5 : w3.cell? ⟨b2, 5, none⟩ = some (.int .i64 0) := (blk_cell HB23.out 5).trans rfl; have zf0 := blk_frozen HB23.out 0; have zf1 := blk_frozen HB23.out 1; have zf2 := blk_frozen HB23.out 2; have zf3 := blk_frozen HB23.out 3; have zf4 := blk_frozen HB23.out 4; have zf5 := blk_frozen HB23.out 5))
    exact bodyPost_ret (v := .agg #[.int .i64 11, .string ⟨#[]⟩, .int .i64 0, .int .u64 0, .slice (some ⟨w3.heap.size, 0, none⟩) 1 1, .int .i64 p]) (results_c Tryd.results121 _ _ b2 44 _ (0, 0) _ rfl (blk_alloc (blk_put6 HB23.out _ _ _ _ _ _) _) Tryd.underlying44 rfl size44) rfl (ndPost_of HE.out ⟨_, rfl, R_true (R_single2 HR3.out HSB.out hb2l _ _ _ _ _ _), (HS3.out.set6 hgb _ _ _ _ _ _).alloc _, ((HFA.out.trans HF3.out).set6 (Nat.le_of_eq HSB.out) _ _ _ _ _ _).alloc _⟩)
set_option maxHeartbeats 4000000 in
set_option maxRecDepth 100000 in
theorem atom_walk (n : Nat) (EC : ∀ m, m ≤ n → FnC 49 exprF 6 m) (CC : ∀ m, m ≤ n → CallC m) : FnC 138 atomF 2 (n + 1) := by
  intro W0 g ev st w hfu hR
  go_enter Tryd.func138, Tryd.ntmps138
  go_upto_region 1 with (fail)
  have HZ := Lib.hid (blk_new w (Obj.cells #[.int .i64 0, .string (⟨#[]⟩ : ByteArray), .int .i64 0, .int .u64 0, .slice none 0 0, .int .i64 0] 44))
  have HRA := Lib.hid (hR.alloc (Obj.cells #[.int .i64 0, .string (⟨#[]⟩ : ByteArray), .int .i64 0, .int .u64 0, .slice none 0 0, .int .i64 0] 44))
  have HFA := Lib.hid ((Frm.refl g w).alloc (Obj.cells #[.int .i64 0, .string (⟨#[]⟩ : ByteArray), .int .i64 0, .int .u64 0, .slice none 0 0, .int .i64 0] 44))
  have hgb : g < w.heap.size := hR.lt
  have HSA : Hid ((w.alloc (Obj.cells #[.int .i64 0, .string (⟨#[]⟩ : ByteArray), .int .i64 0, .int .u64 0, .slice none 0 0, .int .i64 0] 44)).heap.size = w.heap.size + 1) := Lib.hid (Array.size_push _)
  clear hR
  generalize w.alloc (Obj.cells #[.int .i64 0, .string (⟨#[]⟩ : ByteArray), .int .i64 0, .int .u64 0, .slice none 0 0, .int .i64 0] 44) = wA at *
  generalize hb2 : w.heap.size = b2 at *
  have HSB : Hid (w.heap.size = b2) := Lib.hid hb2
  clear hb2
  rcases hop : signAt (str1 40) st with _ | ⟨p, s1⟩
  · have CS := sign_no (W0 := W0) (g := g) (ev := ev) hop
    have HOP := Lib.hid hop
    clear hop
    go_upto_region 8 with (go_at_call 83; (with_reducible refine (CS _ ?_).mono ?_); exact HRA.out; rintro e w1 ⟨rfl, hS1, hF1⟩; have HS1 := Lib.hid hS1; have HF1 := Lib.hid hF1; have HB21 := Lib.hid (hF1.at_ (Nat.ne_of_gt hgb) HZ.out); clear hS1 hF1)
    clear CS HZ HRA
    have HFN := Lib.hid (HFA.out.trans HF1.out)
    clear HFA HF1
    obtain ⟨ts, bad, pos⟩ := st
    cases ts with
    | nil =>
      obtain ⟨AT, ct, hlc, hCC, hbb⟩ := HS1.out.cells
      have hc0 : w1.cell? ⟨g, 0, none⟩ = some (.slice AT 0 ct) := (blk_cell hbb 0).trans rfl
      clear hbb hCC hlc
      have HE := Lib.hid (atomF_nil (ev := ev) (k := n) HOP.out)
      have CF := fail_z (W0 := W0) (g := g) (ev := ev) (st := ⟨[], bad, pos⟩)
      go_wp2_with (go_at_call 50; (with_reducible refine (CF _ ?_).mono ?_); exact HS1.out; rintro e w5 ⟨rfl, hS5, hF5⟩; have HS5 := Lib.hid hS5; have HF5 := Lib.hid hF5; have HB25 := Lib.hid (hF5.at_ (Nat.ne_of_gt hgb) HB21.out); clear hS5 hF5; have zc0 : w5.cell? ⟨b2, 0, none⟩ = some (.int .i64 0) := (blk_cell HB25.out 0).trans rfl; have zc1 : w5.cell? ⟨b2, 1, none⟩ = some (.string (⟨#[]⟩ : ByteArray)) := (blk_cell HB25.out 1).trans rfl; have zc2 : w5.cell? ⟨b2, 2, none⟩ = some (.int .i64 0) := (blk_cell HB25.out 2).trans rfl; have zc3 : w5.cell? ⟨b2, 3, none⟩ = some (.int .u64 0) := (blk_cell HB25.out 3).trans rfl; have zc4 : w5.cell? ⟨b2, 4, none⟩ = some (.slice none 0 0) := (blk_cell HB25.out 4).trans rfl; have zc5 : w5.cell? ⟨b2, 5, none⟩ = some (.int .i64 0) := (blk_cell HB25.out 5).trans rfl; have zf0 := blk_frozen HB25.out 0; have zf1 := blk_frozen HB25.out 1; have zf2 := blk_frozen HB25.out 2; have zf3 := blk_frozen HB25.out 3; have zf4 := blk_frozen HB25.out 4; have zf5 := blk_frozen HB25.out 5)
      exact bodyPost_ret (v := .agg #[.int .i64 0, .string (⟨#[]⟩ : ByteArray), .int .i64 0, .int .u64 0, .slice none 0 0, .int .i64 0]) (results_c Tryd.results138 _ _ b2 44 _ (0, 0) _ rfl (blk_put6 HB25.out _ _ _ _ _ _) Tryd.underlying44 rfl size44) rfl (ndPost_of HE.out ⟨_, rfl, Kd.R_nil _ _ _ _ _, HS5.out.set6 hgb _ _ _ _ _ _, (HFN.out.trans HF5.out).set6 (Nat.le_of_eq HSB.out) _ _ _ _ _ _⟩)
    | cons t r =>
      obtain ⟨AT, ct, hlc, hCC, hbb⟩ := HS1.out.cells
      obtain ⟨ad, e0_, x0, x1, x2, x3, x4⟩ := at_T39 hCC (0 : Int) (by omega) (by simp)
      cases e0_
      have hxb : ad.block < W0.heap.size := by have := World.block_lt_of_cell? W0 _ x0; first | rwa [add_block] at this | exact this
      have HCC := Lib.hid hCC
      clear hCC
      have et : rd_T39 (t :: r) 0 = t := rfl
      rw [et] at x0 x1 x2 x3 x4
      simp only [Int.toNat_zero, Nat.zero_mul, Addr.add, if_true] at x0 x1 x2 x3 x4
      have hlt_ := HS1.out.sz
      replace x0 := (HS1.out.old.cell (by show ad.block < g; omega)).trans x0
      replace x1 := (HS1.out.old.cell (by show ad.block < g; omega)).trans x1
      replace x2 := (HS1.out.old.cell (by show ad.block < g; omega)).trans x2
      replace x3 := (HS1.out.old.cell (by show ad.block < g; omega)).trans x3
      replace x4 := (HS1.out.old.cell (by show ad.block < g; omega)).trans x4
      clear et
      have hne_ : ad.block ≠ g := by omega
      have hc0 : w1.cell? ⟨g, 0, none⟩ = some (.slice (some ad) (t :: r).length ct) := (blk_cell hbb 0).trans rfl
      have hf0 := blk_frozen hbb 0
      simp only [List.length_cons] at hc0 hlc
      clear hbb
      have hl0 : ((r.length : Int) + 1 == 0) = false := beq_eq_false_iff_ne.2 (by omega)
      by_cases h5 : t.f0 = 5
      · have tk : (t.f0 == 5) = true := beq_iff_eq.2 h5
        have HE := Lib.hid (atomF_sign (ev := ev) (k := n) HOP.out h5)
        have CF := fail_z (W0 := W0) (g := g) (ev := ev) (st := ⟨t :: r, bad, pos⟩)
        clear h5
        go_wp2_with (go_at_call 50; (with_reducible refine (CF _ ?_).mono ?_); exact HS1.out; rintro e w5 ⟨rfl, hS5, hF5⟩; have HS5 := Lib.hid hS5; have HF5 := Lib.hid hF5; have HB25 := Lib.hid (hF5.at_ (Nat.ne_of_gt hgb) HB21.out); clear hS5 hF5; have zc0 : w5.cell? ⟨b2, 0, none⟩ = some (.int .i64 0) := (blk_cell HB25.out 0).trans rfl; have zc1 : w5.cell? ⟨b2, 1, none⟩ = some (.string (⟨#[]⟩ : ByteArray)) := (blk_cell HB25.out 1).trans rfl; have zc2 : w5.cell? ⟨b2, 2, none⟩ = some (.int .i64 0) := (blk_cell HB25.out 2).trans rfl; have zc3 : w5.cell? ⟨b2, 3, none⟩ = some (.int .u64 0) := (blk_cell HB25.out 3).trans rfl; have zc4 : w5.cell? ⟨b2, 4, none⟩ = some (.slice none 0 0) := (blk_cell HB25.out 4).trans rfl; have zc5 : w5.cell? ⟨b2, 5, none⟩ = some (.int .i64 0) := (blk_cell HB25.out 5).trans rfl; have zf0 := blk_frozen HB25.out 0; have zf1 := blk_frozen HB25.out 1; have zf2 := blk_frozen HB25.out 2; have zf3 := blk_frozen HB25.out 3; have zf4 := blk_frozen HB25.out 4; have zf5 := blk_frozen HB25.out 5)
        exact bodyPost_ret (v := .agg #[.int .i64 0, .string (⟨#[]⟩ : ByteArray), .int .i64 0, .int .u64 0, .slice none 0 0, .int .i64 0]) (results_c Tryd.results138 _ _ b2 44 _ (0, 0) _ rfl (blk_put6 HB25.out _ _ _ _ _ _) Tryd.underlying44 rfl size44) rfl (ndPost_of HE.out ⟨_, rfl, Kd.R_nil _ _ _ _ _, HS5.out.set6 hgb _ _ _ _ _ _, (HFN.out.trans HF5.out).set6 (Nat.le_of_eq HSB.out) _ _ _ _ _ _⟩)
      · have tk : (t.f0 == 5) = false := beq_eq_false_iff_ne.2 h5
        have H5 := Lib.hid h5
        clear h5
        have hgl := blk_lt HB21.out
        have hgw := HS1.out.lt
        go_upto_block 0 with (fail)
        have HSx : Hid (RdAt W0 g ev ⟨r, bad, pos⟩ (w1.setCell ⟨g, 0, none⟩ (.slice (if ct = 1 then some ad else some ⟨ad.block, ad.off + 5, none⟩) r.length (ct - 1)))) := Lib.hid (HS1.out.set0 (slt_if HCC.out hlc))
        have HSM : Hid (RdAt W0 g ev ⟨r, bad, pos⟩ (((w1.setCell ⟨g, 0, none⟩ (.slice (if ct = 1 then some ad else some ⟨ad.block, ad.off + 5, none⟩) r.length (ct - 1))).alloc (.cells #[.int .i64 t.f0, .string t.f1, .int .i64 t.f2, .int .u64 t.f3, .int .i64 t.f4] 39)).alloc (.cells #[.int .i64 0, .string t.f1, .int .i64 t.f2, .int .u64 t.f3, .slice none 0 0, .int .i64 t.f4] 44))) := Lib.hid ((HSx.out.alloc _).alloc _)
        have HFM : Hid (Frm g w (((w1.setCell ⟨g, 0, none⟩ (.slice (if ct = 1 then some ad else some ⟨ad.block, ad.off + 5, none⟩) r.length (ct - 1))).alloc (.cells #[.int .i64 t.f0, .string t.f1, .int .i64 t.f2, .int .u64 t.f3, .int .i64 t.f4] 39)).alloc (.cells #[.int .i64 0, .string t.f1, .int .i64 t.f2, .int .u64 t.f3, .slice none 0 0, .int .i64 t.f4] 44))) := Lib.hid (((HFN.out.set _ _).alloc _).alloc _)
        have HB2M : Hid ((((w1.setCell ⟨g, 0, none⟩ (.slice (if ct = 1 then some ad else some ⟨ad.block, ad.off + 5, none⟩) r.length (ct - 1))).alloc (.cells #[.int .i64 t.f0, .string t.f1, .int .i64 t.f2, .int .u64 t.f3, .int .i64 t.f4] 39)).alloc (.cells #[.int .i64 0, .string t.f1, .int .i64 t.f2, .int .u64 t.f3, .slice none 0 0, .int .i64 t.f4] 44)).heap[b2]? = some (.cells #[.int .i64 0, .string (⟨#[]⟩ : ByteArray), .int .i64 0, .int .u64 0, .slice none 0 0, .int .i64 0] 44 (0, 0))) := Lib.hid (blk_alloc (blk_alloc (blk_far HB21.out (Nat.ne_of_gt hgb) _ _) _) _)
        have HB9 : Hid ((((w1.setCell ⟨g, 0, none⟩ (.slice (if ct = 1 then some ad else some ⟨ad.block, ad.off + 5, none⟩) r.length (ct - 1))).alloc (.cells #[.int .i64 t.f0, .string t.f1, .int .i64 t.f2, .int .u64 t.f3, .int .i64 t.f4] 39)).alloc (.cells #[.int .i64 0, .string t.f1, .int .i64 t.f2, .int .u64 t.f3, .slice none 0 0, .int .i64 t.f4] 44)).heap[w1.heap.size + 1]? = some (.cells #[.int .i64 0, .string t.f1, .int .i64 t.f2, .int .u64 t.f3, .slice none 0 0, .int .i64 t.f4] 44 (0, 0))) := Lib.hid (blk_new2 _ _ _ _ (by simp [World.setCell]))
        clear HSx HFN HB21 HCC hc0 hf0 x0 x1 x2 x3 x4 HS1
        generalize (((w1.setCell ⟨g, 0, none⟩ (.slice (if ct = 1 then some ad else some ⟨ad.block, ad.off + 5, none⟩) r.length (ct - 1))).alloc (.cells #[.int .i64 t.f0, .string t.f1, .int .i64 t.f2, .int .u64 t.f3, .int .i64 t.f4] 39)).alloc (.cells #[.int .i64 0, .string t.f1, .int .i64 t.f2, .int .u64 t.f3, .slice none 0 0, .int .i64 t.f4] 44)) = wM at *
        generalize (if ct = 1 then some ad else some (⟨ad.block, ad.off + 5, none⟩ : Addr)) = sv at *
        have hg9 : b2 < w1.heap.size + 1 := by omega
        clear hgl hgw
        generalize w1.heap.size + 1 = b9 at *
        have hn9 : b9 ≠ b2 := Nat.ne_of_gt hg9
        have hng : b9 ≠ g := by omega
        have hn2 : b2 ≠ g := by omega
        have hgb9 : g < b9 := by omega
        have hb9w : w.heap.size ≤ b9 := by have := HSB.out; omega
        have yc0 : wM.cell? ⟨b9, 0, none⟩ = some (.int .i64 0) := (blk_cell HB9.out 0).trans rfl
        have yc1 : wM.cell? ⟨b9, 1, none⟩ = some (.string t.f1) := (blk_cell HB9.out 1).trans rfl
        have yc2 : wM.cell? ⟨b9, 2, none⟩ = some (.int .i64 t.f2) := (blk_cell HB9.out 2).trans rfl
        have yc3 : wM.cell? ⟨b9, 3, none⟩ = some (.int .u64 t.f3) := (blk_cell HB9.out 3).trans rfl
        have yc4 : wM.cell? ⟨b9, 4, none⟩ = some (.slice none 0 0) := (blk_cell HB9.out 4).trans rfl
        have yc5 : wM.cell? ⟨b9, 5, none⟩ = some (.int .i64 t.f4) := (blk_cell HB9.out 5).trans rfl
        have yf0 := blk_frozen HB9.out 0
        have yf1 := blk_frozen HB9.out 1
        have yf2 := blk_frozen HB9.out 2
        have yf3 := blk_frozen HB9.out 3
        have yf4 := blk_frozen HB9.out 4
        have yf5 := blk_frozen HB9.out 5
        have zc0 : wM.cell? ⟨b2, 0, none⟩ = some (.int .i64 0) := (blk_cell HB2M.out 0).trans rfl
        have zc1 : wM.cell? ⟨b2, 1, none⟩ = some (.string (⟨#[]⟩ : ByteArray)) := (blk_cell HB2M.out 1).trans rfl
        have zc2 : wM.cell? ⟨b2, 2, none⟩ = some (.int .i64 0) := (blk_cell HB2M.out 2).trans rfl
        have zc3 : wM.cell? ⟨b2, 3, none⟩ = some (.int .u64 0) := (blk_cell HB2M.out 3).trans rfl
        have zc4 : wM.cell? ⟨b2, 4, none⟩ = some (.slice none 0 0) := (blk_cell HB2M.out 4).trans rfl
        have zc5 : wM.cell? ⟨b2, 5, none⟩ = some (.int .i64 0) := (blk_cell HB2M.out 5).trans rfl
        have zf0 := blk_frozen HB2M.out 0
        have zf1 := blk_frozen HB2M.out 1
        have zf2 := blk_frozen HB2M.out 2
        have zf3 := blk_frozen HB2M.out 3
        have zf4 := blk_frozen HB2M.out 4
        have zf5 := blk_frozen HB2M.out 5
        by_cases h4 : t.f0 = 4
        · have a4 : (t.f0 == 4) = true := beq_iff_eq.2 h4
          have HE := Lib.hid ((atomF_leaf (ev := ev) (k := n) HOP.out H5.out (.inl h4)).trans (by rw [leaf_is (k := 2) (by rw [if_pos h4])]))
          clear h4
          go_wp2
          exact bodyPost_ret (v := .agg #[.int .i64 2, .string t.f1, .int .i64 t.f2, .int .u64 t.f3, .slice none 0 0, .int .i64 t.f4]) (results_c Tryd.results138 _ _ b2 44 _ (0, 0) _ rfl (blk_put6 (blk_far HB2M.out (Ne.symm hn9) _ _) _ _ _ _ _ _) Tryd.underlying44 rfl size44) rfl (ndPost_of HE.out ⟨_, rfl, Kd.R_nil _ _ _ _ _, (HSM.out.setFar hgb9 _ _).set6 hgb _ _ _ _ _ _, (HFM.out.setNew hb9w _ _).set6 (Nat.le_of_eq HSB.out) _ _ _ _ _ _⟩)
        · have a4 : (t.f0 == 4) = false := beq_eq_false_iff_ne.2 h4
          by_cases h2 : t.f0 = 2
          · have a2 : (t.f0 == 2) = true := beq_iff_eq.2 h2
            have HE := Lib.hid ((atomF_leaf (ev := ev) (k := n) HOP.out H5.out (.inr (.inl h2))).trans (by rw [leaf_is (k := 3) (by rw [if_neg h4, if_pos h2])]))
            clear h4 h2
            go_wp2
            exact bodyPost_ret (v := .agg #[.int .i64 3, .string t.f1, .int .i64 t.f2, .int .u64 t.f3, .slice none 0 0, .int .i64 t.f4]) (results_c Tryd.results138 _ _ b2 44 _ (0, 0) _ rfl (blk_put6 (blk_far HB2M.out (Ne.symm hn9) _ _) _ _ _ _ _ _) Tryd.underlying44 rfl size44) rfl (ndPost_of HE.out ⟨_, rfl, Kd.R_nil _ _ _ _ _, (HSM.out.setFar hgb9 _ _).set6 hgb _ _ _ _ _ _, (HFM.out.setNew hb9w _ _).set6 (Nat.le_of_eq HSB.out) _ _ _ _ _ _⟩)
          · have a2 : (t.f0 == 2) = false := beq_eq_false_iff_ne.2 h2
            by_cases h3 : t.f0 = 3
            · have a3 : (t.f0 == 3) = true := beq_iff_eq.2 h3
              have HE := Lib.hid ((atomF_leaf (ev := ev) (k := n) HOP.out H5.out (.inr (.inr h3))).trans (by rw [leaf_is (k := 4) (by rw [if_neg h4, if_neg h2, if_pos h3])]))
              clear h4 h2 h3
              go_wp2
              exact bodyPost_ret (v := .agg #[.int .i64 4, .string t.f1, .int .i64 t.f2, .int .u64 t.f3, .slice none 0 0, .int .i64 t.f4]) (results_c Tryd.results138 _ _ b2 44 _ (0, 0) _ rfl (blk_put6 (blk_far HB2M.out (Ne.symm hn9) _ _) _ _ _ _ _ _) Tryd.underlying44 rfl size44) rfl (ndPost_of HE.out ⟨_, rfl, Kd.R_nil _ _ _ _ _, (HSM.out.setFar hgb9 _ _).set6 hgb _ _ _ _ _ _, (HFM.out.setNew hb9w _ _).set6 (Nat.le_of_eq HSB.out) _ _ _ _ _ _⟩)
            · have a3 : (t.f0 == 3) = false := beq_eq_false_iff_ne.2 h3
              have H3 : Hid (¬ (t.f0 = 4 ∨ t.f0 = 2 ∨ t.f0 = 3)) := Lib.hid (fun e => e.elim h4 (fun e => e.elim h2 h3))
              have HL : Hid (leafN t = ⟨1, t.f1, t.f2, t.f3, [], t.f4⟩) := Lib.hid (leaf_is (k := 1) (by rw [if_neg h4, if_neg h2, if_neg h3]))
              clear h4 h2 h3
              have HN9 : Hid ((wM.setCell ⟨b9, 0, none⟩ (.int .i64 1)).heap[b9]? = some (.cells #[.int .i64 1, .string t.f1, .int .i64 t.f2, .int .u64 t.f3, .slice none 0 0, .int .i64 t.f4] 44 (0, 0))) := Lib.hid (blk_put (cs := #[.int .i64 0, .string t.f1, .int .i64 t.f2, .int .u64 t.f3, .slice none 0 0, .int .i64 t.f4]) HB9.out 0 _ rfl)
              have HN2 := Lib.hid (blk_far HB2M.out (Ne.symm hn9) 0 (.int .i64 1))
              have HSN := Lib.hid (HSM.out.setFar hgb9 0 (.int .i64 1))
              have HFN := Lib.hid (HFM.out.setNew hb9w 0 (.int .i64 1))
              rcases hnx : signAt (str1 40) ⟨r, bad, pos⟩ with _ | ⟨p, s1⟩
              · have CS := sign_no (W0 := W0) (g := g) (ev := ev) hnx
                have HE := Lib.hid ((atomF_name (ev := ev) (k := n) HOP.out H5.out H3.out hnx).trans (by rw [HL.out]))
                clear hnx
                go_wp2_with (go_at_call 83; (with_reducible refine (CS _ ?_).mono ?_); exact HSN.out; rintro e w2 ⟨rfl, hS2, hF2⟩; have HS2 := Lib.hid hS2; have HF2 := Lib.hid hF2; have HB92 := Lib.hid (hF2.at_ hng HN9.out); have HB22 := Lib.hid (hF2.at_ hn2 HN2.out); clear hS2 hF2; have uc0 : w2.cell? ⟨b9, 0, none⟩ = some (.int .i64 1) := (blk_cell HB92.out 0).trans rfl; have uc1 : w2.cell? ⟨b9, 1, none⟩ = some (.string t.f1) := (blk_cell HB92.out 1).trans rfl; have uc2 : w2.cell? ⟨b9, 2, none⟩ = some (.int .i64 t.f2) := (blk_cell HB92.out 2).trans rfl; have uc3 : w2.cell? ⟨b9, 3, none⟩ = some (.int .u64 t.f3) := (blk_cell HB92.out 3).trans rfl; have uc4 : w2.cell? ⟨b9, 4, none⟩ = some (.slice none 0 0) := (blk_cell HB92.out 4).trans rfl; have uc5 : w2.cell? ⟨b9, 5, none⟩ = some (.int .i64 t.f4) := (blk_cell HB92.out 5).trans rfl; have uf0 := blk_frozen HB92.out 0; have uf1 := blk_frozen HB92.out 1; have uf2 := blk_frozen HB92.out 2; have uf3 := blk_frozen HB92.out 3; have uf4 := blk_frozen HB92.out 4; have uf5 := blk_frozen HB92.out 5; have vc0 : w2.cell? ⟨b2, 0, none⟩ = some (.int .i64 0) := (blk_cell HB22.out 0).trans rfl; have vc1 : w2.cell? ⟨b2, 1, none⟩ = some (.string (⟨#[]⟩ : ByteArray)) := (blk_cell HB22.out 1).trans rfl; have vc2 : w2.cell? ⟨b2, 2, none⟩ = some (.int .i64 0) := (blk_cell HB22.out 2).trans rfl; have vc3 : w2.cell? ⟨b2, 3, none⟩ = some (.int .u64 0) := (blk_cell HB22.out 3).trans rfl; have vc4 : w2.cell? ⟨b2, 4, none⟩ = some (.slice none 0 0) := (blk_cell HB22.out 4).trans rfl; have vc5 : w2.cell? ⟨b2, 5, none⟩ = some (.int .i64 0) := (blk_cell HB22.out 5).trans rfl; have vf0 := blk_frozen HB22.out 0; have vf1 := blk_frozen HB22.out 1; have vf2 := blk_frozen HB22.out 2; have vf3 := blk_frozen HB22.out 3; have vf4 := blk_frozen HB22.out 4; have vf5 := blk_frozen HB22.out 5)
                exact bodyPost_ret (v := .agg #[.int .i64 1, .string t.f1, .int .i64 t.f2, .int .u64 t.f3, .slice none 0 0, .int .i64 t.f4]) (results_c Tryd.results138 _ _ b2 44 _ (0, 0) _ rfl (blk_put6 HB22.out _ _ _ _ _ _) Tryd.underlying44 rfl size44) rfl (ndPost_of HE.out ⟨_, rfl, Kd.R_nil _ _ _ _ _, HS2.out.set6 hgb _ _ _ _ _ _, (HFN.out.trans HF2.out).set6 (Nat.le_of_eq HSB.out) _ _ _ _ _ _⟩)
              · have CS := sign_yes (W0 := W0) (g := g) (ev := ev) hnx
                have hl1 := signAt_len hnx
                have HE := Lib.hid (atomF_call (ev := ev) (k := n) HOP.out H5.out H3.out hnx)
                have C5 := (CC n (Nat.le_refl _)).use (W0 := W0) (g := g) (ev := ev) (t := t) (op := 1) (st := s1) (by simp only [List.length_cons] at *; omega)
                clear hnx
                generalize callS ev n t s1 = q1 at *
                obtain ⟨b, s2⟩ := q1
                go_wp2_with (first | (go_at_call 83; (with_reducible refine (CS _ ?_).mono ?_); exact HSN.out; rintro e w2 ⟨rfl, hS2, hF2⟩; have HS2 := Lib.hid hS2; have HF2 := Lib.hid hF2; have HB92 := Lib.hid (hF2.at_ hng HN9.out); have HB22 := Lib.hid (hF2.at_ hn2 HN2.out); clear hS2 hF2; have uc0 : w2.cell? ⟨b9, 0, none⟩ = some (.int .i64 1) := (blk_cell HB92.out 0).trans rfl; have uc1 : w2.cell? ⟨b9, 1, none⟩ = some (.string t.f1) := (blk_cell HB92.out 1).trans rfl; have uc2 : w2.cell? ⟨b9, 2, none⟩ = some (.int .i64 t.f2) := (blk_cell HB92.out 2).trans rfl; have uc3 : w2.cell? ⟨b9, 3, none⟩ = some (.int .u64 t.f3) := (blk_cell HB92.out 3).trans rfl; have uc4 : w2.cell? ⟨b9, 4, none⟩ = some (.slice none 0 0) := (blk_cell HB92.out 4).trans rfl; have uc5 : w2.cell? ⟨b9, 5, none⟩ = some (.int .i64 t.f4) := (blk_cell HB92.out 5).trans rfl; have uf0 := blk_frozen HB92.out 0; have uf1 := blk_frozen HB92.out 1; have uf2 := blk_frozen HB92.out 2; have uf3 := blk_frozen HB92.out 3; have uf4 := blk_frozen HB92.out 4; have uf5 := blk_frozen HB92.out 5; have vc0 : w2.cell? ⟨b2, 0, none⟩ = some (.int .i64 0) := (blk_cell HB22.out 0).trans rfl; have vc1 : w2.cell? ⟨b2, 1, none⟩ = some (.string (⟨#[]⟩ : ByteArray)) := (blk_cell HB22.out 1).trans rfl; have vc2 : w2.cell? ⟨b2, 2, none⟩ = some (.int .i64 0) := (blk_cell HB22.out 2).trans rfl; have vc3 : w2.cell? ⟨b2, 3, none⟩ = some (.int .u64 0) := (blk_cell HB22.out 3).trans rfl; have vc4 : w2.cell? ⟨b2, 4, none⟩ = some (.slice none 0 0) := (blk_cell HB22.out 4).trans rfl; have vc5 : w2.cell? ⟨b2, 5, none⟩ = some (.int .i64 0) := (blk_cell HB22.out 5).trans rfl; have vf0 := blk_frozen HB22.out 0; have vf1 := blk_frozen HB22.out 1; have vf2 := blk_frozen HB22.out 2; have vf3 := blk_frozen HB22.out 3; have vf4 := blk_frozen HB22.out 4; have vf5 := blk_frozen HB22.out 5) | (go_at_call 145; (with_reducible refine (C5 _ ?_).mono ?_); exact HS2.out; rintro e w3 ⟨A3, c3, rfl, hR3, hS3, hF3⟩; have HS3 := Lib.hid hS3; have HF3 := Lib.hid (Frm.trans HF2.out hF3); have HB23 := Lib.hid (hF3.at_ hn2 HB22.out); have HR3 := Lib.hid (R_new1' (base := w.heap.size) (b2 := b2) hR3 HSB.out (blk_lt HB22.out)); clear hR3 hS3 hF3; have qc0 : w3.cell? ⟨b2, 0, none⟩ = some (.int .i64 0) := (blk_cell HB23.out 0).trans rfl; have qc1 : w3.cell? ⟨b2, 1, none⟩ = some (.string (⟨#[]⟩ : ByteArray)) := (blk_cell HB23.out 1).trans rfl; have qc2 : w3.cell? ⟨b2, 2, none⟩ = some (.int .i64 0) := (blk_cell HB23.out 2).trans rfl; have qc3 : w3.cell? ⟨b2, 3, none⟩ = some (.int .u64 0) := (blk_cell HB23.out 3).trans rfl; have qc4 : w3.cell? ⟨b2, 4, none⟩ = some (.slice none 0 0) := (blk_cell HB23.out 4).trans rfl; have qc5 : w3.cell? ⟨b2, 5, none⟩ = some (.int .i64 0) := (blk_cell HB23.out 5).trans rfl; have qf0 := blk_frozen HB23.out 0; have qf1 := blk_frozen HB23.out 1; have qf2 := blk_frozen HB23.out 2; have qf3 := blk_frozen HB23.out 3; have qf4 := blk_frozen HB23.out 4; have qf5 := blk_frozen HB23.out 5))
                exact bodyPost_ret (v := .agg #[.int .i64 b.f0, .string b.f1, .int .i64 b.f2, .int .u64 b.f3, .slice A3 b.f4.length c3, .int .i64 b.f5]) (results_c Tryd.results138 _ _ b2 44 _ (0, 0) _ rfl (blk_put6 HB23.out _ _ _ _ _ _) Tryd.underlying44 rfl size44) rfl (ndPost_of HE.out ⟨_, rfl, R_true (R_set6 HR3.out (fun q hq => hq.1) _ _ _ _ _ _), HS3.out.set6 hgb _ _ _ _ _ _, (HFN.out.trans HF3.out).set6 (Nat.le_of_eq HSB.out) _ _ _ _ _ _⟩)
  · have CS := sign_yes (W0 := W0) (g := g) (ev := ev) hop
    have hl1 := signAt_len hop
    have C1 := (EC n (Nat.le_refl _)).use (W0 := W0) (g := g) (ev := ev) (st := s1) (by omega)
    have HBR := fun p2 s2 h2 => atomF_br (ev := ev) (p2 := p2) (k := n) (s2 := s2) hop h2
    have HNO := fun h2 => atomF_br_no (ev := ev) (k := n) hop h2
    clear hop
    generalize exprF ev n s1 = q0 at *
    obtain ⟨a, s0⟩ := q0
    have HBR := Lib.hid HBR
    have HNO := Lib.hid HNO
    go_upto_region 4 with (first | (go_at_call 83; (with_reducible refine (CS _ ?_).mono ?_); exact HRA.out; rintro e w1 ⟨rfl, hS1, hF1⟩; have HS1 := Lib.hid hS1; have HF1 := Lib.hid hF1; have HB21 := Lib.hid (hF1.at_ (Nat.ne_of_gt hgb) HZ.out); clear hS1 hF1) | (go_at_call 49; (with_reducible refine (C1 _ ?_).mono ?_); exact HS1.out; rintro e w4 ⟨A1, c1, rfl, hR1, hS1, hF1⟩; have HR1 := Lib.hid hR1; have HS4 := Lib.hid hS1; have HF4 := Lib.hid (Frm.trans HF1.out hF1); clear hR1 hS1 hF1))
    clear C1 CS
    have HB3 := Lib.hid (blk_new w4 (Obj.cells #[.int .i64 a.f0, .string a.f1, .int .i64 a.f2, .int .u64 a.f3, .slice A1 a.f4.length c1, .int .i64 a.f5] 44))
    have HB2 := Lib.hid (blk_alloc (HF4.out.at_ (Nat.ne_of_gt hgb) HZ.out) (Obj.cells #[.int .i64 a.f0, .string a.f1, .int .i64 a.f2, .int .u64 a.f3, .slice A1 a.f4.length c1, .int .i64 a.f5] 44))
    have HS := Lib.hid (HS4.out.alloc (Obj.cells #[.int .i64 a.f0, .string a.f1, .int .i64 a.f2, .int .u64 a.f3, .slice A1 a.f4.length c1, .int .i64 a.f5] 44))
    have HF := Lib.hid ((HFA.out.trans HF4.out).alloc (Obj.cells #[.int .i64 a.f0, .string a.f1, .int .i64 a.f2, .int .u64 a.f3, .slice A1 a.f4.length c1, .int .i64 a.f5] 44))
    have HR := Lib.hid (Kd.R_alloc (R_between (base := w.heap.size) (b2 := b2) HR1.out (by have := blk_lt HB21.out; have := HSB.out; omega) (blk_lt HB21.out) (Nat.le_refl _)) (Obj.cells #[.int .i64 a.f0, .string a.f1, .int .i64 a.f2, .int .u64 a.f3, .slice A1 a.f4.length c1, .int .i64 a.f5] 44))
    have hg3 : b2 < w4.heap.size := by have := HF4.out.size; rw [HSA.out] at this; omega
    clear HR1 HS1 HF1 HRA HFA HZ HSA HB21 HF4 HS4
    generalize w4.alloc (Obj.cells #[.int .i64 a.f0, .string a.f1, .int .i64 a.f2, .int .u64 a.f3, .slice A1 a.f4.length c1, .int .i64 a.f5] 44) = wL at *
    generalize w4.heap.size = b3 at *
    have hn2 : b2 ≠ g := Nat.ne_of_gt hgb
    have hn3 : b3 ≠ g := by omega
    have hn23 : b3 ≠ b2 := by omega
    have hgb3 : g < b3 := by omega
    have hb3w : w.heap.size ≤ b3 := by have := HSB.out; omega
    have hokg : ∀ q, (q ≠ b2 ∧ q ≠ b3) → w.heap.size ≤ q → q ≠ g := fun q _ hq => by have := HSB.out; omega
    obtain ⟨A, hA⟩ : ∃ A : Option Addr, A = A1 := ⟨_, rfl⟩
    obtain ⟨c, hc⟩ : ∃ c : Nat, c = c1 := ⟨_, rfl⟩
    subst hA
    subst hc
    rcases hcl : signAt (str1 41) s0 with _ | ⟨p2, s2⟩
    · have CS := sign_no (W0 := W0) (g := g) (ev := ev) hcl
      have HE := Lib.hid (HNO.out hcl)
      have CF := fail_z (W0 := W0) (g := g) (ev := ev) (st := s0)
      clear hcl HBR HNO
      go_wp2_with (first | (go_at_call 83; (with_reducible refine (CS _ ?_).mono ?_); exact HS.out; rintro e w2 ⟨rfl, hS2, hF2⟩; have HS2 := Lib.hid hS2; have HF2 := Lib.hid hF2; have HB32 := Lib.hid (hF2.at_ hn3 HB3.out); have HB22 := Lib.hid (hF2.at_ hn2 HB2.out); have HR2 := Lib.hid (R_frm' HR.out hF2 hokg); clear hS2 hF2; have yc0 : w2.cell? ⟨b3, 0, none⟩ = some (.int .i64 a.f0) := (blk_cell HB32.out 0).trans rfl; have yc1 : w2.cell? ⟨b3, 1, none⟩ = some (.string a.f1) := (blk_cell HB32.out 1).trans rfl; have yc2 : w2.cell? ⟨b3, 2, none⟩ = some (.int .i64 a.f2) := (blk_cell HB32.out 2).trans rfl; have yc3 : w2.cell? ⟨b3, 3, none⟩ = some (.int .u64 a.f3) := (blk_cell HB32.out 3).trans rfl; have yc4 : w2.cell? ⟨b3, 4, none⟩ = some (.slice A a.f4.length c) := (blk_cell HB32.out 4).trans rfl; have yc5 : w2.cell? ⟨b3, 5, none⟩ = some (.int .i64 a.f5) := (blk_cell HB32.out 5).trans rfl; have yf0 := blk_frozen HB32.out 0; have yf1 := blk_frozen HB32.out 1; have yf2 := blk_frozen HB32.out 2; have yf3 := blk_frozen HB32.out 3; have yf4 := blk_frozen HB32.out 4; have yf5 := blk_frozen HB32.out 5; have zc0 : w2.cell? ⟨b2, 0, none⟩ = some (.int .i64 0) := (blk_cell HB22.out 0).trans rfl; have zc1 : w2.cell? ⟨b2, 1, none⟩ = some (.string (⟨#[]⟩ : ByteArray)) := (blk_cell HB22.out 1).trans rfl; have zc2 : w2.cell? ⟨b2, 2, none⟩ = some (.int .i64 0) := (blk_cell HB22.out 2).trans rfl; have zc3 : w2.cell? ⟨b2, 3, none⟩ = some (.int .u64 0) := (blk_cell HB22.out 3).trans rfl; have zc4 : w2.cell? ⟨b2, 4, none⟩ = some (.slice none 0 0) := (blk_cell HB22.out 4).trans rfl; have zc5 : w2.cell? ⟨b2, 5, none⟩ = some (.int .i64 0) := (blk_cell HB22.out 5).trans rfl; have zf0 := blk_frozen HB22.out 0; have zf1 := blk_frozen HB22.out 1; have zf2 := blk_frozen HB22.out 2; have zf3 := blk_frozen HB22.out 3; have zf4 := blk_frozen HB22.out 4; have zf5 := blk_frozen HB22.out 5) | (go_at_call 50; (with_reducible refine (CF _ ?_).mono ?_); exact HS2.out; rintro e w5 ⟨rfl, hS5, hF5⟩; have HS5 := Lib.hid hS5; have HF5 := Lib.hid hF5; have HB25 := Lib.hid (hF5.at_ (Nat.ne_of_gt hgb) HB22.out); clear hS5 hF5; have zc0 : w5.cell? ⟨b2, 0, none⟩ = some (.int .i64 0) := (blk_cell HB25.out 0).trans rfl; have zc1 : w5.cell? ⟨b2, 1, none⟩ = some (.string (⟨#[]⟩ : ByteArray)) := (blk_cell HB25.out 1).trans rfl; have zc2 : w5.cell? ⟨b2, 2, none⟩ = some (.int .i64 0) := (blk_cell HB25.out 2).trans rfl; have zc3 : w5.cell? ⟨b2, 3, none⟩ = some (.int .u64 0) := (blk_cell HB25.out 3).trans rfl; have zc4 : w5.cell? ⟨b2, 4, none⟩ = some (.slice none 0 0) := (blk_cell HB25.out 4).trans rfl; have zc5 : w5.cell? ⟨b2, 5, none⟩ = some (.int .i64 0) := (blk_cell HB25.out 5).trans rfl; have zf0 := blk_frozen HB25.out 0; have zf1 := blk_frozen HB25.out 1; have zf2 := blk_frozen HB25.out 2; have zf3 := blk_frozen HB25.out 3; have zf4 := blk_frozen HB25.out 4; have zf5 := blk_frozen HB25.out 5))
      exact bodyPost_ret (v := .agg #[.int .i64 0, .string (⟨#[]⟩ : ByteArray), .int .i64 0, .int .u64 0, .slice none 0 0, .int .i64 0]) (results_c Tryd.results138 _ _ b2 44 _ (0, 0) _ rfl (blk_put6 HB25.out _ _ _ _ _ _) Tryd.underlying44 rfl size44) rfl (ndPost_of HE.out ⟨_, rfl, Kd.R_nil _ _ _ _ _, HS5.out.set6 hgb _ _ _ _ _ _, ((HF.out.trans HF2.out).trans HF5.out).set6 (Nat.le_of_eq HSB.out) _ _ _ _ _ _⟩)
    · have CS := sign_yes (W0 := W0) (g := g) (ev := ev) hcl
      have HE := Lib.hid (HBR.out _ _ hcl)
      clear hcl HBR HNO
      go_wp2_with (go_at_call 83; (with_reducible refine (CS _ ?_).mono ?_); exact HS.out; rintro e w2 ⟨rfl, hS2, hF2⟩; have HS2 := Lib.hid hS2; have HF2 := Lib.hid hF2; have HB32 := Lib.hid (hF2.at_ hn3 HB3.out); have HB22 := Lib.hid (hF2.at_ hn2 HB2.out); have HR2 := Lib.hid (R_frm' HR.out hF2 hokg); clear hS2 hF2; have yc0 : w2.cell? ⟨b3, 0, none⟩ = some (.int .i64 a.f0) := (blk_cell HB32.out 0).trans rfl; have yc1 : w2.cell? ⟨b3, 1, none⟩ = some (.string a.f1) := (blk_cell HB32.out 1).trans rfl; have yc2 : w2.cell? ⟨b3, 2, none⟩ = some (.int .i64 a.f2) := (blk_cell HB32.out 2).trans rfl; have yc3 : w2.cell? ⟨b3, 3, none⟩ = some (.int .u64 a.f3) := (blk_cell HB32.out 3).trans rfl; have yc4 : w2.cell? ⟨b3, 4, none⟩ = some (.slice A a.f4.length c) := (blk_cell HB32.out 4).trans rfl; have yc5 : w2.cell? ⟨b3, 5, none⟩ = some (.int .i64 a.f5) := (blk_cell HB32.out 5).trans rfl; have yf0 := blk_frozen HB32.out 0; have yf1 := blk_frozen HB32.out 1; have yf2 := blk_frozen HB32.out 2; have yf3 := blk_frozen HB32.out 3; have yf4 := blk_frozen HB32.out 4; have yf5 := blk_frozen HB32.out 5; have zc0 : w2.cell? ⟨b2, 0, none⟩ = some (.int .i64 0) := (blk_cell HB22.out 0).trans rfl; have zc1 : w2.cell? ⟨b2, 1, none⟩ = some (.string (⟨#[]⟩ : ByteArray)) := (blk_cell HB22.out 1).trans rfl; have zc2 : w2.cell? ⟨b2, 2, none⟩ = some (.int .i64 0) := (blk_cell HB22.out 2).trans rfl; have zc3 : w2.cell? ⟨b2, 3, none⟩ = some (.int .u64 0) := (blk_cell HB22.out 3).trans rfl; have zc4 : w2.cell? ⟨b2, 4, none⟩ = some (.slice none 0 0) := (blk_cell HB22.out 4).trans rfl; have zc5 : w2.cell? ⟨b2, 5, none⟩ = some (.int .i64 0) := (blk_cell HB22.out 5).trans rfl; have zf0 := blk_frozen HB22.out 0; have zf1 := blk_frozen HB22.out 1; have zf2 := blk_frozen HB22.out 2; have zf3 := blk_frozen HB22.out 3; have zf4 := blk_frozen HB22.out 4; have zf5 := blk_frozen HB22.out 5)
      exact bodyPost_ret (v := .agg #[.int .i64 a.f0, .string a.f1, .int .i64 a.f2, .int .u64 a.f3, .slice A a.f4.length c, .int .i64 a.f5]) (results_c Tryd.results138 _ _ b2 44 _ (0, 0) _ rfl (blk_put6 HB22.out _ _ _ _ _ _) Tryd.underlying44 rfl size44) rfl (ndPost_of HE.out ⟨_, rfl, R_true (R_set6 HR2.out (fun q hq => hq.1) _ _ _ _ _ _), HS2.out.set6 hgb _ _ _ _ _ _, (HF.out.trans HF2.out).set6 (Nat.le_of_eq HSB.out) _ _ _ _ _ _⟩)
set_option maxHeartbeats 4000000 in
set_option maxRecDepth 100000 in
theorem call_walk (n : Nat) (EC : ∀ m, m ≤ n → FnC 49 exprF 6 m) : CallC n := by
  intro W0 g ev t op st w hfu hR
  go_enter Tryd.func145, Tryd.ntmps145
  go_upto_region 2 with (fail)
  have HRA := Lib.hid ((hR.alloc (Obj.cells #[.int .i64 5, .string t.f1, .int .i64 t.f2, .int .u64 t.f3, .slice none 0 0, .int .i64 t.f4] 44)).alloc (Obj.cells #[.int .i64 0, .string (⟨#[]⟩ : ByteArray), .int .i64 0, .int .u64 0, .slice none 0 0, .int .i64 0] 44))
  have HFA := Lib.hid (((Frm.refl g w).alloc (Obj.cells #[.int .i64 5, .string t.f1, .int .i64 t.f2, .int .u64 t.f3, .slice none 0 0, .int .i64 t.f4] 44)).alloc (Obj.cells #[.int .i64 0, .string (⟨#[]⟩ : ByteArray), .int .i64 0, .int .u64 0, .slice none 0 0, .int .i64 0] 44))
  have HZ : Hid (((w.alloc (Obj.cells #[.int .i64 5, .string t.f1, .int .i64 t.f2, .int .u64 t.f3, .slice none 0 0, .int .i64 t.f4] 44)).alloc (Obj.cells #[.int .i64 0, .string (⟨#[]⟩ : ByteArray), .int .i64 0, .int .u64 0, .slice none 0 0, .int .i64 0] 44)).heap[w.heap.size + 1]? = some (.cells #[.int .i64 0, .string (⟨#[]⟩ : ByteArray), .int .i64 0, .int .u64 0, .slice none 0 0, .int .i64 0] 44 (0, 0))) := Lib.hid (blk_new2 _ _ _ _ rfl)
  have HB : Hid (((w.alloc (Obj.cells #[.int .i64 5, .string t.f1, .int .i64 t.f2, .int .u64 t.f3, .slice none 0 0, .int .i64 t.f4] 44)).alloc (Obj.cells #[.int .i64 0, .string (⟨#[]⟩ : ByteArray), .int .i64 0, .int .u64 0, .slice none 0 0, .int .i64 0] 44)).heap[w.heap.size]? = some (.cells #[.int .i64 5, .string t.f1, .int .i64 t.f2, .int .u64 t.f3, .slice none 0 0, .int .i64 t.f4] 44 (0, 0))) := Lib.hid (blk_alloc (blk_new w _) _)
  have HSA : Hid (((w.alloc (Obj.cells #[.int .i64 5, .string t.f1, .int .i64 t.f2, .int .u64 t.f3, .slice none 0 0, .int .i64 t.f4] 44)).alloc (Obj.cells #[.int .i64 0, .string (⟨#[]⟩ : ByteArray), .int .i64 0, .int .u64 0, .slice none 0 0, .int .i64 0] 44)).heap.size = w.heap.size + 2) := Lib.hid (by rw [alloc_size, alloc_size])
  have hgb3 : g < w.heap.size := hR.lt
  clear hR
  generalize ((w.alloc (Obj.cells #[.int .i64 5, .string t.f1, .int .i64 t.f2, .int .u64 t.f3, .slice none 0 0, .int .i64 t.f4] 44)).alloc (Obj.cells #[.int .i64 0, .string (⟨#[]⟩ : ByteArray), .int .i64 0, .int .u64 0, .slice none 0 0, .int .i64 0] 44)) = wA at *
  generalize hb3 : w.heap.size = b3 at *
  have HSB : Hid (w.heap.size = b3) := Lib.hid hb3
  clear hb3
  generalize hb2 : b3 + 1 = b2 at *
  obtain ⟨bb, hbb⟩ : ∃ bb, bb = b2 + 1 := ⟨_, rfl⟩
  have HBB : Hid (wA.heap.size = bb) := Lib.hid (by have := HSA.out; omega)
  have hgb : g < b2 := by omega
  have hgbb : g < bb := by omega
  have h2bb : b2 < bb := by omega
  have h3bb : b3 < bb := by omega
  have hwb2 : w.heap.size ≤ b2 := by have := HSB.out; omega
  have hwb3 : w.heap.size ≤ b3 := by have := HSB.out; omega
  have hwbb : w.heap.size ≤ bb := by have := HSB.out; omega
  have hn2 : b2 ≠ g := by omega
  have hn3 : b3 ≠ g := by omega
  have hn23 : b3 ≠ b2 := by omega
  clear hb2 hbb HSA
  rcases hcl : signAt (str1 41) st with _ | ⟨p, s2⟩
  · have CS := sign_no (W0 := W0) (g := g) (ev := ev) hcl
    have HEQ := Lib.hid (callS_none (ev := ev) (k := n) (t := t) hcl)
    clear hcl
    go_upto_block 0 with (go_at_call 83; (with_reducible refine (CS _ ?_).mono ?_); exact HRA.out; rintro e w1 ⟨rfl, hS1, hF1⟩; have HS1 := Lib.hid hS1; have HF1 := Lib.hid hF1; have HB21 := Lib.hid (hF1.at_ hn2 HZ.out); have HB31 := Lib.hid (hF1.at_ hn3 HB.out); clear hS1 hF1; have yc0 : w1.cell? ⟨b3, 0, none⟩ = some (.int .i64 5) := (blk_cell HB31.out 0).trans rfl; have yc1 : w1.cell? ⟨b3, 1, none⟩ = some (.string t.f1) := (blk_cell HB31.out 1).trans rfl; have yc2 : w1.cell? ⟨b3, 2, none⟩ = some (.int .i64 t.f2) := (blk_cell HB31.out 2).trans rfl; have yc3 : w1.cell? ⟨b3, 3, none⟩ = some (.int .u64 t.f3) := (blk_cell HB31.out 3).trans rfl; have yc4 : w1.cell? ⟨b3, 4, none⟩ = some (.slice none 0 0) := (blk_cell HB31.out 4).trans rfl; have yc5 : w1.cell? ⟨b3, 5, none⟩ = some (.int .i64 t.f4) := (blk_cell HB31.out 5).trans rfl; have yf0 := blk_frozen HB31.out 0; have yf1 := blk_frozen HB31.out 1; have yf2 := blk_frozen HB31.out 2; have yf3 := blk_frozen HB31.out 3; have yf4 := blk_frozen HB31.out 4; have yf5 := blk_frozen HB31.out 5; have zc0 : w1.cell? ⟨b2, 0, none⟩ = some (.int .i64 0) := (blk_cell HB21.out 0).trans rfl; have zc1 : w1.cell? ⟨b2, 1, none⟩ = some (.string (⟨#[]⟩ : ByteArray)) := (blk_cell HB21.out 1).trans rfl; have zc2 : w1.cell? ⟨b2, 2, none⟩ = some (.int .i64 0) := (blk_cell HB21.out 2).trans rfl; have zc3 : w1.cell? ⟨b2, 3, none⟩ = some (.int .u64 0) := (blk_cell HB21.out 3).trans rfl; have zc4 : w1.cell? ⟨b2, 4, none⟩ = some (.slice none 0 0) := (blk_cell HB21.out 4).trans rfl; have zc5 : w1.cell? ⟨b2, 5, none⟩ = some (.int .i64 0) := (blk_cell HB21.out 5).trans rfl; have zf0 := blk_frozen HB21.out 0; have zf1 := blk_frozen HB21.out 1; have zf2 := blk_frozen HB21.out 2; have zf3 := blk_frozen HB21.out 3; have zf4 := blk_frozen HB21.out 4; have zf5 := blk_frozen HB21.out 5)
    have HF := Lib.hid (HFA.out.trans HF1.out)
    have hw1 : bb ≤ w1.heap.size := by have := HF1.out.size; have := HBB.out; omega
    clear HRA HFA HZ HB HF1 CS HBB yc0 yf0 zc0 zf0 yc1 yf1 zc1 zf1 yc2 yf2 zc2 zf2 yc3 yf3 zc3 zf3 yc4 yf4 zc4 zf4 yc5 yf5 zc5 zf5
    go_wp2
    go_loopw [7] (fun v7 wr => ∃ (k : Nat) (ks : List S44) (s : St) (A : Option Addr) (c : Nat), (6 * s.ts.length + 7 ≤ k ∧ ks.length + k = n) ∧ Aside0 (callS ev n t st = callL ev k t ks s) ∧ Aside0 (wr.heap[b3]? = some (.cells #[.int .i64 5, .string t.f1, .int .i64 t.f2, .int .u64 t.f3, .slice A ks.length c, .int .i64 t.f4] 44 (0, 0))) ∧ Aside0 (wr.heap[b2]? = some (.cells #[.int .i64 0, .string (⟨#[]⟩ : ByteArray), .int .i64 0, .int .u64 0, .slice none 0 0, .int .i64 0] 44 (0, 0))) ∧ Aside0 (k44.R 44 wr bb (fun _ => True) (.slice A ks.length c) ks) ∧ Aside0 (RdAt W0 g ev s wr) ∧ Aside0 (Frm g w wr) ∧ bb ≤ wr.heap.size) (fun _ wr => tokLen g wr)
    case atStart => exact ⟨n, [], st, none, 0, ⟨by omega, by simp⟩, ⟨HEQ.out⟩, ⟨HB31.out⟩, ⟨HB21.out⟩, ⟨Kd.R_nil _ _ _ _ _⟩, ⟨HS1.out⟩, ⟨HF.out⟩, hw1⟩
    case round =>
      clear HEQ HB31 HB21 HS1 HF hw1
      obtain ⟨k, ks, s, A, c, ⟨hk, hkn⟩, HEQ, HB3, HB2, HR, HS, HF, hwr⟩ := hrel
      have HTL := Lib.hid HS.out.len
      obtain ⟨k, rfl⟩ : ∃ k1, k = k1 + 1 := ⟨k - 1, by omega⟩
      have CR := (EC k (by omega)).use (W0 := W0) (g := g) (ev := ev) (st := s) (by omega)
      have HCO := Lib.hid (fun p s2 h => callL_comma (ev := ev) (p := p) (k := k) (t := t) (ks := ks) (st := s) (s2 := s2) h)
      have HEN := Lib.hid (fun p s2 h h2 => callL_end (ev := ev) (p := p) (k := k) (t := t) (ks := ks) (st := s) (s2 := s2) h h2)
      have HBA := Lib.hid (fun h h2 => callL_bad (ev := ev) (k := k) (t := t) (ks := ks) (st := s) h h2)
      have hlen : (exprF ev k s).2.ts.length ≤ s.ts.length := (ts_le ev k).1 s
      generalize exprF ev k s = q at *
      obtain ⟨b, s1⟩ := q
      have yc0 : wr.cell? ⟨b3, 0, none⟩ = some (.int .i64 5) := (blk_cell HB3.out 0).trans rfl
      have yc1 : wr.cell? ⟨b3, 1, none⟩ = some (.string t.f1) := (blk_cell HB3.out 1).trans rfl
      have yc2 : wr.cell? ⟨b3, 2, none⟩ = some (.int .i64 t.f2) := (blk_cell HB3.out 2).trans rfl
      have yc3 : wr.cell? ⟨b3, 3, none⟩ = some (.int .u64 t.f3) := (blk_cell HB3.out 3).trans rfl
      have yc4 : wr.cell? ⟨b3, 4, none⟩ = some (.slice A ks.length c) := (blk_cell HB3.out 4).trans rfl
      have yc5 : wr.cell? ⟨b3, 5, none⟩ = some (.int .i64 t.f4) := (blk_cell HB3.out 5).trans rfl
      have yf0 := blk_frozen HB3.out 0
      have yf1 := blk_frozen HB3.out 1
      have yf2 := blk_frozen HB3.out 2
      have yf3 := blk_frozen HB3.out 3
      have yf4 := blk_frozen HB3.out 4
      have yf5 := blk_frozen HB3.out 5
      have hb3l := blk_lt HB3.out
      go_upto_region 5 with (fail)
      go_region_law (first | (refine Kd.R_append_step k44 (w0 := w3) bb (by rfl) (.tmp 20) (.tmp 23) 42 44 (.agg #[.int .i64 0, .string (⟨#[]⟩ : ByteArray), .int .i64 0, .int .u64 0, .slice none 0 0, .int .i64 0]) 72 rfl Tryd.underlying42 info44 rfl (by decide) (by decide) (.slice A ks.length c) ks b [.int .i64 b.f0, .string b.f1, .int .i64 b.f2, .int .u64 b.f3, .slice A3 b.f4.length c3, .int .i64 b.f5] (fun _ => True) _ (by first | (go_simp; done) | (go_simp; rfl)) (by first | (go_simp; done) | (go_simp; rfl)) HM3.out (fun _ hk => hk) (fun _ _ => trivial) HR3.out (Below.refl _ _) (by omega) (by omega) ?_; intro v1 w5 ho5 hb5 hg5 hat5; clear hg5 hat5; have HS5 := Lib.hid (HS3.out.below hb5 hgbb); have HF5 := Lib.hid ((HF.out.trans HF3.out).below hb5 hwbb); have HB35 := Lib.hid (blk_belowB HB33.out hb5 h3bb); have HB25 := Lib.hid (blk_belowB HB23.out hb5 h2bb); obtain ⟨A5, c5, rfl⟩ := R_sliceN ho5 (n := ks.length + 1) (by simp); have hw5 : bb ≤ w5.heap.size := Nat.le_trans hw3 hb5.size; have HR5 := Lib.hid ho5; clear ho5 hb5; have pc0 : w5.cell? ⟨b3, 0, none⟩ = some (.int .i64 5) := (blk_cell HB35.out 0).trans rfl; have pc1 : w5.cell? ⟨b3, 1, none⟩ = some (.string t.f1) := (blk_cell HB35.out 1).trans rfl; have pc2 : w5.cell? ⟨b3, 2, none⟩ = some (.int .i64 t.f2) := (blk_cell HB35.out 2).trans rfl; have pc3 : w5.cell? ⟨b3, 3, none⟩ = some (.int .u64 t.f3) := (blk_cell HB35.out 3).trans rfl; have pc4 : w5.cell? ⟨b3, 4, none⟩ = some (.slice A ks.length c) := (blk_cell HB35.out 4).trans rfl; have pc5 : w5.cell? ⟨b3, 5, none⟩ = some (.int .i64 t.f4) := (blk_cell HB35.out 5).trans rfl; have pf0 := blk_frozen HB35.out 0; have pf1 := blk_frozen HB35.out 1; have pf2 := blk_frozen HB35.out 2; have pf3 := blk_frozen HB35.out 3; have pf4 := blk_frozen HB35.out 4; have pf5 := blk_frozen HB35.out 5) | (go_simp; go_at_call 49; (with_reducible refine (CR _ ?_).mono ?_); (first | exact HS.out | exact HS.out.drew | exact HS.out.drewN _); rintro e w3 ⟨A3, c3, rfl, hR3, hS3, hF3⟩; have HS3 := Lib.hid hS3; have HF3 := Lib.hid (Frm.trans (by first | exact (Frm.refl g wr) | exact (Frm.refl g wr).drew | exact (Frm.refl g wr).drewN _) hF3); have HB33 := Lib.hid (HF3.out.at_ hn3 HB3.out); have HB23 := Lib.hid (HF3.out.at_ hn2 HB2.out); have HM3 := Lib.hid (M_apart hR3 hwr (Kd.R_drew HR.out)); have HR3 := Lib.hid (R_frm2 HR.out HF3.out hgbb); clear hR3 hS3 hF3; have hb3l := blk_lt HB33.out; have hb2l := blk_lt HB23.out; have hw3 : bb ≤ w3.heap.size := Nat.le_trans hwr HF3.out.size; have xc0 : w3.cell? ⟨b3, 0, none⟩ = some (.int .i64 5) := (blk_cell HB33.out 0).trans rfl; have xc1 : w3.cell? ⟨b3, 1, none⟩ = some (.string t.f1) := (blk_cell HB33.out 1).trans rfl; have xc2 : w3.cell? ⟨b3, 2, none⟩ = some (.int .i64 t.f2) := (blk_cell HB33.out 2).trans rfl; have xc3 : w3.cell? ⟨b3, 3, none⟩ = some (.int .u64 t.f3) := (blk_cell HB33.out 3).trans rfl; have xc4 : w3.cell? ⟨b3, 4, none⟩ = some (.slice A ks.length c) := (blk_cell HB33.out 4).trans rfl; have xc5 : w3.cell? ⟨b3, 5, none⟩ = some (.int .i64 t.f4) := (blk_cell HB33.out 5).trans rfl; have xf0 := blk_frozen HB33.out 0; have xf1 := blk_frozen HB33.out 1; have xf2 := blk_frozen HB33.out 2; have xf3 := blk_frozen HB33.out 3; have xf4 := blk_frozen HB33.out 4; have xf5 := blk_frozen HB33.out 5))
      all_goals
        clear CR HB3 HB2 HR HS HF HB33 HB23 HM3 HR3 HS3 HF3 yc0 yf0 xc0 xf0 pc0 pf0 yc1 yf1 xc1 xf1 pc1 pf1 yc2 yf2 xc2 xf2 pc2 pf2 yc3 yf3 xc3 xf3 pc3 pf3 yc4 yf4 xc4 xf4 pc4 pf4 yc5 yf5 xc5 xf5 pc5 pf5
        have HN3 : Hid ((w5.setCell ⟨b3, 4, none⟩ (.slice A5 (ks.length + 1) c5)).heap[b3]? = some (.cells #[.int .i64 5, .string t.f1, .int .i64 t.f2, .int .u64 t.f3, .slice A5 (ks.length + 1) c5, .int .i64 t.f4] 44 (0, 0))) := Lib.hid (blk_put (cs := #[.int .i64 5, .string t.f1, .int .i64 t.f2, .int .u64 t.f3, .slice A ks.length c, .int .i64 t.f4]) HB35.out 4 _ rfl)
        have HN2 := Lib.hid (blk_far HB25.out (Ne.symm hn23) 4 (.slice A5 (ks.length + 1) c5))
        have HNS := Lib.hid (HS5.out.setFar hgb3 4 (.slice A5 (ks.length + 1) c5))
        have HNF := Lib.hid (HF5.out.setNew hwb3 4 (.slice A5 (ks.length + 1) c5))
        have HNR := Lib.hid (R_true (Kd.R_far (p := ⟨b3, 4, none⟩) (Kd.R_mono (Kd.R_bound HR5.out) (fun q hq => (show q ≠ b3 by have := hq.2.1; omega))) (fun q hq => hq) (.slice A5 (ks.length + 1) c5)))
        have hw6 : bb ≤ (w5.setCell ⟨b3, 4, none⟩ (.slice A5 (ks.length + 1) c5)).heap.size := by rw [show (w5.setCell ⟨b3, 4, none⟩ (.slice A5 (ks.length + 1) c5)).heap.size = w5.heap.size by simp [World.setCell]]; exact hw5
        clear HB35 HB25 HS5 HF5 HR5
        generalize w5.setCell ⟨b3, 4, none⟩ (.slice A5 (ks.length + 1) c5) = wN at *
        rcases hcm : signAt (str1 44) s1 with _ | ⟨p, s2⟩
        · have CS1 := sign_no (W0 := W0) (g := g) (ev := ev) hcm
          rcases hen : signAt (str1 41) s1 with _ | ⟨p, s2⟩
          · have CS2 := sign_no (W0 := W0) (g := g) (ev := ev) hen
            have CF := fail_z (W0 := W0) (g := g) (ev := ev) (st := s1)
            have HE := Lib.hid (HEQ.out.trans (HBA.out hcm hen))
            clear hcm hen
            go_wp2_with (first | (go_at_call 83; (with_reducible refine (CS1 _ ?_).mono ?_); exact HNS.out; rintro e w6 ⟨rfl, hS_, hF_⟩; have HS6 := Lib.hid hS_; have HF6 := Lib.hid hF_; have HB36 := Lib.hid (hF_.at_ hn3 HN3.out); have HB26 := Lib.hid (hF_.at_ hn2 HN2.out); have HR6 := Lib.hid (R_frm2 HNR.out hF_ hgbb); clear hS_ hF_; have m6c0 : w6.cell? ⟨b3, 0, none⟩ = some (.int .i64 5) := (blk_cell HB36.out 0).trans rfl; have m6c1 : w6.cell? ⟨b3, 1, none⟩ = some (.string t.f1) := (blk_cell HB36.out 1).trans rfl; have m6c2 : w6.cell? ⟨b3, 2, none⟩ = some (.int .i64 t.f2) := (blk_cell HB36.out 2).trans rfl; have m6c3 : w6.cell? ⟨b3, 3, none⟩ = some (.int .u64 t.f3) := (blk_cell HB36.out 3).trans rfl; have m6c4 : w6.cell? ⟨b3, 4, none⟩ = some (.slice A5 (ks.length + 1) c5) := (blk_cell HB36.out 4).trans rfl; have m6c5 : w6.cell? ⟨b3, 5, none⟩ = some (.int .i64 t.f4) := (blk_cell HB36.out 5).trans rfl; have m6f0 := blk_frozen HB36.out 0; have m6f1 := blk_frozen HB36.out 1; have m6f2 := blk_frozen HB36.out 2; have m6f3 := blk_frozen HB36.out 3; have m6f4 := blk_frozen HB36.out 4; have m6f5 := blk_frozen HB36.out 5; have n6c0 : w6.cell? ⟨b2, 0, none⟩ = some (.int .i64 0) := (blk_cell HB26.out 0).trans rfl; have n6c1 : w6.cell? ⟨b2, 1, none⟩ = some (.string (⟨#[]⟩ : ByteArray)) := (blk_cell HB26.out 1).trans rfl; have n6c2 : w6.cell? ⟨b2, 2, none⟩ = some (.int .i64 0) := (blk_cell HB26.out 2).trans rfl; have n6c3 : w6.cell? ⟨b2, 3, none⟩ = some (.int .u64 0) := (blk_cell HB26.out 3).trans rfl; have n6c4 : w6.cell? ⟨b2, 4, none⟩ = some (.slice none 0 0) := (blk_cell HB26.out 4).trans rfl; have n6c5 : w6.cell? ⟨b2, 5, none⟩ = some (.int .i64 0) := (blk_cell HB26.out 5).trans rfl; have n6f0 := blk_frozen HB26.out 0; have n6f1 := blk_frozen HB26.out 1; have n6f2 := blk_frozen HB26.out 2; have n6f3 := blk_frozen HB26.out 3; have n6f4 := blk_frozen HB26.out 4; have n6f5 := blk_frozen HB26.out 5) | (go_at_call 83; (with_reducible refine (CS2 _ ?_).mono ?_); exact HS6.out; rintro e w7 ⟨rfl, hS_, hF_⟩; have HS7 := Lib.hid hS_; have HF7 := Lib.hid hF_; have HB37 := Lib.hid (hF_.at_ hn3 HB36.out); have HB27 := Lib.hid (hF_.at_ hn2 HB26.out); have HR7 := Lib.hid (R_frm2 HR6.out hF_ hgbb); clear hS_ hF_; have m7c0 : w7.cell? ⟨b3, 0, none⟩ = some (.int .i64 5) := (blk_cell HB37.out 0).trans rfl; have m7c1 : w7.cell? ⟨b3, 1, none⟩ = some (.string t.f1) := (blk_cell HB37.out 1).trans rfl; have m7c2 : w7.cell? ⟨b3, 2, none⟩ = some (.int .i64 t.f2) := (blk_cell HB37.out 2).trans rfl; have m7c3 : w7.cell? ⟨b3, 3, none⟩ = some (.int .u64 t.f3) := (blk_cell HB37.out 3).trans rfl; have m7c4 : w7.cell? ⟨b3, 4, none⟩ = some (.slice A5 (ks.length + 1) c5) := (blk_cell HB37.out 4).trans rfl; have m7c5 : w7.cell? ⟨b3, 5, none⟩ = some (.int .i64 t.f4) := (blk_cell HB37.out 5).trans rfl; have m7f0 := blk_frozen HB37.out 0; have m7f1 := blk_frozen HB37.out 1; have m7f2 := blk_frozen HB37.out 2; have m7f3 := blk_frozen HB37.out 3; have m7f4 := blk_frozen HB37.out 4; have m7f5 := blk_frozen HB37.out 5; have n7c0 : w7.cell? ⟨b2, 0, none⟩ = some (.int .i64 0) := (blk_cell HB27.out 0).trans rfl; have n7c1 : w7.cell? ⟨b2, 1, none⟩ = some (.string (⟨#[]⟩ : ByteArray)) := (blk_cell HB27.out 1).trans rfl; have n7c2 : w7.cell? ⟨b2, 2, none⟩ = some (.int .i64 0) := (blk_cell HB27.out 2).trans rfl; have n7c3 : w7.cell? ⟨b2, 3, none⟩ = some (.int .u64 0) := (blk_cell HB27.out 3).trans rfl; have n7c4 : w7.cell? ⟨b2, 4, none⟩ = some (.slice none 0 0) := (blk_cell HB27.out 4).trans rfl; have n7c5 : w7.cell? ⟨b2, 5, none⟩ = some (.int .i64 0) := (blk_cell HB27.out 5).trans rfl; have n7f0 := blk_frozen HB27.out 0; have n7f1 := blk_frozen HB27.out 1; have n7f2 := blk_frozen HB27.out 2; have n7f3 := blk_frozen HB27.out 3; have n7f4 := blk_frozen HB27.out 4; have n7f5 := blk_frozen HB27.out 5) | (go_at_call 50; (with_reducible refine (CF _ ?_).mono ?_); exact HS7.out; rintro e w8 ⟨rfl, hS_, hF_⟩; have HS8 := Lib.hid hS_; have HF8 := Lib.hid hF_; have HB28 := Lib.hid (hF_.at_ hn2 HB27.out); clear hS_ hF_; have oc0 : w8.cell? ⟨b2, 0, none⟩ = some (.int .i64 0) := (blk_cell HB28.out 0).trans rfl; have oc1 : w8.cell? ⟨b2, 1, none⟩ = some (.string (⟨#[]⟩ : ByteArray)) := (blk_cell HB28.out 1).trans rfl; have oc2 : w8.cell? ⟨b2, 2, none⟩ = some (.int .i64 0) := (blk_cell HB28.out 2).trans rfl; have oc3 : w8.cell? ⟨b2, 3, none⟩ = some (.int .u64 0) := (blk_cell HB28.out 3).trans rfl; have oc4 : w8.cell? ⟨b2, 4, none⟩ = some (.slice none 0 0) := (blk_cell HB28.out 4).trans rfl; have oc5 : w8.cell? ⟨b2, 5, none⟩ = some (.int .i64 0) := (blk_cell HB28.out 5).trans rfl; have of0 := blk_frozen HB28.out 0; have of1 := blk_frozen HB28.out 1; have of2 := blk_frozen HB28.out 2; have of3 := blk_frozen HB28.out 3; have of4 := blk_frozen HB28.out 4; have of5 := blk_frozen HB28.out 5))
            exact bodyPost_ret (v := .agg #[.int .i64 0, .string (⟨#[]⟩ : ByteArray), .int .i64 0, .int .u64 0, .slice none 0 0, .int .i64 0]) (results_c Tryd.results145 _ _ b2 44 _ (0, 0) _ rfl (blk_put6 HB28.out _ _ _ _ _ _) Tryd.underlying44 rfl size44) rfl (ndPost_of HE.out ⟨_, rfl, Kd.R_nil _ _ _ _ _, HS8.out.set6 hgb _ _ _ _ _ _, (((HNF.out.trans HF6.out).trans HF7.out).trans HF8.out).set6 hwb2 _ _ _ _ _ _⟩)
          · have CS2 := sign_yes (W0 := W0) (g := g) (ev := ev) hen
            have HE := Lib.hid (HEQ.out.trans (HEN.out _ _ hcm hen))
            clear hcm hen
            go_wp2_with (first | (go_at_call 83; (with_reducible refine (CS1 _ ?_).mono ?_); exact HNS.out; rintro e w6 ⟨rfl, hS_, hF_⟩; have HS6 := Lib.hid hS_; have HF6 := Lib.hid hF_; have HB36 := Lib.hid (hF_.at_ hn3 HN3.out); have HB26 := Lib.hid (hF_.at_ hn2 HN2.out); have HR6 := Lib.hid (R_frm2 HNR.out hF_ hgbb); clear hS_ hF_; have m6c0 : w6.cell? ⟨b3, 0, none⟩ = some (.int .i64 5) := (blk_cell HB36.out 0).trans rfl; have m6c1 : w6.cell? ⟨b3, 1, none⟩ = some (.string t.f1) := (blk_cell HB36.out 1).trans rfl; have m6c2 : w6.cell? ⟨b3, 2, none⟩ = some (.int .i64 t.f2) := (blk_cell HB36.out 2).trans rfl; have m6c3 : w6.cell? ⟨b3, 3, none⟩ = some (.int .u64 t.f3) := (blk_cell HB36.out 3).trans rfl; have m6c4 : w6.cell? ⟨b3, 4, none⟩ = some (.slice A5 (ks.length + 1) c5) := (blk_cell HB36.out 4).trans rfl; have m6c5 : w6.cell? ⟨b3, 5, none⟩ = some (.int .i64 t.f4) := (blk_cell HB36.out 5).trans rfl; have m6f0 := blk_frozen HB36.out 0; have m6f1 := blk_frozen HB36.out 1; have m6f2 := blk_frozen HB36.out 2; have m6f3 := blk_frozen HB36.out 3; have m6f4 := blk_frozen HB36.out 4; have m6f5 := blk_frozen HB36.out 5; have n6c0 : w6.cell? ⟨b2, 0, none⟩ = some (.int .i64 0) := (blk_cell HB26.out 0).trans rfl; have n6c1 : w6.cell? ⟨b2, 1, none⟩ = some (.string (⟨#[]⟩ : ByteArray)) := (blk_cell HB26.out 1).trans rfl; have n6c2 : w6.cell? ⟨b2, 2, none⟩ = some (.int .i64 0) := (blk_cell HB26.out 2).trans rfl; have n6c3 : w6.cell? ⟨b2, 3, none⟩ = some (.int .u64 0) := (blk_cell HB26.out 3).trans rfl; have n6c4 : w6.cell? ⟨b2, 4, none⟩ = some (.slice none 0 0) := (blk_cell HB26.out 4).trans rfl; have n6c5 : w6.cell? ⟨b2, 5, none⟩ = some (.int .i64 0) := (blk_cell HB26.out 5).trans rfl; have n6f0 := blk_frozen HB26.out 0; have n6f1 := blk_frozen HB26.out 1; have n6f2 := blk_frozen HB26.out 2; have n6f3 := blk_frozen HB26.out 3; have n6f4 := blk_frozen HB26.out 4; have n6f5 := blk_frozen HB26.out 5) | (go_at_call 83; (with_reducible refine (CS2 _ ?_).mono ?_); exact HS6.out; rintro e w7 ⟨rfl, hS_, hF_⟩; have HS7 := Lib.hid hS_; have HF7 := Lib.hid hF_; have HB37 := Lib.hid (hF_.at_ hn3 HB36.out); have HB27 := Lib.hid (hF_.at_ hn2 HB26.out); have HR7 := Lib.hid (R_frm2 HR6.out hF_ hgbb); clear hS_ hF_; have m7c0 : w7.cell? ⟨b3, 0, none⟩ = some (.int .i64 5) := (blk_cell HB37.out 0).trans rfl; have m7c1 : w7.cell? ⟨b3, 1, none⟩ = some (.string t.f1) := (blk_cell HB37.out 1).trans rfl; have m7c2 : w7.cell? ⟨b3, 2, none⟩ = some (.int .i64 t.f2) := (blk_cell HB37.out 2).trans rfl; have m7c3 : w7.cell? ⟨b3, 3, none⟩ = some (.int .u64 t.f3) := (blk_cell HB37.out 3).trans rfl; have m7c4 : w7.cell? ⟨b3, 4, none⟩ = some (.slice A5 (ks.length + 1) c5) := (blk_cell HB37.out 4).trans rfl; have m7c5 : w7.cell? ⟨b3, 5, none⟩ = some (.int .i64 t.f4) := (blk_cell HB37.out 5).trans rfl; have m7f0 := blk_frozen HB37.out 0; have m7f1 := blk_frozen HB37.out 1; have m7f2 := blk_frozen HB37.out 2; have m7f3 := blk_frozen HB37.out 3; have m7f4 := blk_frozen HB37.out 4; have m7f5 := blk_frozen HB37.out 5; have n7c0 : w7.cell? ⟨b2, 0, none⟩ = some (.int .i64 0) := (blk_cell HB27.out 0).trans rfl; have n7c1 : w7.cell? ⟨b2, 1, none⟩ = some (.string (⟨#[]⟩ : ByteArray)) := (blk_cell HB27.out 1).trans rfl; have n7c2 : w7.cell? ⟨b2, 2, none⟩ = some (.int .i64 0) := (blk_cell HB27.out 2).trans rfl; have n7c3 : w7.cell? ⟨b2, 3, none⟩ = some (.int .u64 0) := (blk_cell HB27.out 3).trans rfl; have n7c4 : w7.cell? ⟨b2, 4, none⟩ = some (.slice none 0 0) := (blk_cell HB27.out 4).trans rfl; have n7c5 : w7.cell? ⟨b2, 5, none⟩ = some (.int .i64 0) := (blk_cell HB27.out 5).trans rfl; have n7f0 := blk_frozen HB27.out 0; have n7f1 := blk_frozen HB27.out 1; have n7f2 := blk_frozen HB27.out 2; have n7f3 := blk_frozen HB27.out 3; have n7f4 := blk_frozen HB27.out 4; have n7f5 := blk_frozen HB27.out 5))
            exact bodyPost_ret (v := .agg #[.int .i64 5, .string t.f1, .int .i64 t.f2, .int .u64 t.f3, .slice A5 (ks.length + 1) c5, .int .i64 t.f4]) (results_c Tryd.results145 _ _ b2 44 _ (0, 0) _ rfl (blk_put6 HB27.out _ _ _ _ _ _) Tryd.underlying44 rfl size44) rfl (ndPost_of HE.out ⟨_, rfl, R_true (R_set6 (Kd.R_lower (Kd.R_mono (Kd.R_bound HR7.out) (fun q hq => (show q ≠ b2 by have := hq.2.1; omega))) hwbb) (fun q hq => hq) _ _ _ _ _ _), HS7.out.set6 hgb _ _ _ _ _ _, ((HNF.out.trans HF6.out).trans HF7.out).set6 hwb2 _ _ _ _ _ _⟩)
        · have CS1 := sign_yes (W0 := W0) (g := g) (ev := ev) hcm
          have hl2 := signAt_len hcm
          have hlk : (ks ++ [b]).length = ks.length + 1 := by simp
          have HEQ2 := Lib.hid (HEQ.out.trans (HCO.out _ _ hcm))
          clear hcm
          go_wp2_with (go_at_call 83; (with_reducible refine (CS1 _ ?_).mono ?_); exact HNS.out; rintro e w6 ⟨rfl, hS_, hF_⟩; have HS6 := Lib.hid hS_; have HF6 := Lib.hid hF_; have HB36 := Lib.hid (hF_.at_ hn3 HN3.out); have HB26 := Lib.hid (hF_.at_ hn2 HN2.out); have HR6 := Lib.hid (R_frm2 HNR.out hF_ hgbb); clear hS_ hF_; have m6c0 : w6.cell? ⟨b3, 0, none⟩ = some (.int .i64 5) := (blk_cell HB36.out 0).trans rfl; have m6c1 : w6.cell? ⟨b3, 1, none⟩ = some (.string t.f1) := (blk_cell HB36.out 1).trans rfl; have m6c2 : w6.cell? ⟨b3, 2, none⟩ = some (.int .i64 t.f2) := (blk_cell HB36.out 2).trans rfl; have m6c3 : w6.cell? ⟨b3, 3, none⟩ = some (.int .u64 t.f3) := (blk_cell HB36.out 3).trans rfl; have m6c4 : w6.cell? ⟨b3, 4, none⟩ = some (.slice A5 (ks.length + 1) c5) := (blk_cell HB36.out 4).trans rfl; have m6c5 : w6.cell? ⟨b3, 5, none⟩ = some (.int .i64 t.f4) := (blk_cell HB36.out 5).trans rfl; have m6f0 := blk_frozen HB36.out 0; have m6f1 := blk_frozen HB36.out 1; have m6f2 := blk_frozen HB36.out 2; have m6f3 := blk_frozen HB36.out 3; have m6f4 := blk_frozen HB36.out 4; have m6f5 := blk_frozen HB36.out 5; have n6c0 : w6.cell? ⟨b2, 0, none⟩ = some (.int .i64 0) := (blk_cell HB26.out 0).trans rfl; have n6c1 : w6.cell? ⟨b2, 1, none⟩ = some (.string (⟨#[]⟩ : ByteArray)) := (blk_cell HB26.out 1).trans rfl; have n6c2 : w6.cell? ⟨b2, 2, none⟩ = some (.int .i64 0) := (blk_cell HB26.out 2).trans rfl; have n6c3 : w6.cell? ⟨b2, 3, none⟩ = some (.int .u64 0) := (blk_cell HB26.out 3).trans rfl; have n6c4 : w6.cell? ⟨b2, 4, none⟩ = some (.slice none 0 0) := (blk_cell HB26.out 4).trans rfl; have n6c5 : w6.cell? ⟨b2, 5, none⟩ = some (.int .i64 0) := (blk_cell HB26.out 5).trans rfl; have n6f0 := blk_frozen HB26.out 0; have n6f1 := blk_frozen HB26.out 1; have n6f2 := blk_frozen HB26.out 2; have n6f3 := blk_frozen HB26.out 3; have n6f4 := blk_frozen HB26.out 4; have n6f5 := blk_frozen HB26.out 5)
          go_roundw
          case rel => exact ⟨k, ks ++ [b], s2, A5, c5, ⟨by omega, by simp; omega⟩, ⟨HEQ2.out⟩, ⟨by rw [hlk]; exact HB36.out⟩, ⟨HB26.out⟩, ⟨by rw [hlk]; exact HR6.out⟩, ⟨HS6.out⟩, ⟨HNF.out.trans HF6.out⟩, by have := HF6.out.size; omega⟩
          case measure => rw [HTL.out, HS6.out.len]; omega
  · have CS := sign_yes (W0 := W0) (g := g) (ev := ev) hcl
    have HE := Lib.hid (callS_some (ev := ev) (k := n) (t := t) hcl)
    clear hcl
    go_wp2_with (go_at_call 83; (with_reducible refine (CS _ ?_).mono ?_); exact HRA.out; rintro e w1 ⟨rfl, hS1, hF1⟩; have HS1 := Lib.hid hS1; have HF1 := Lib.hid hF1; have HB21 := Lib.hid (hF1.at_ hn2 HZ.out); have HB31 := Lib.hid (hF1.at_ hn3 HB.out); clear hS1 hF1; have yc0 : w1.cell? ⟨b3, 0, none⟩ = some (.int .i64 5) := (blk_cell HB31.out 0).trans rfl; have yc1 : w1.cell? ⟨b3, 1, none⟩ = some (.string t.f1) := (blk_cell HB31.out 1).trans rfl; have yc2 : w1.cell? ⟨b3, 2, none⟩ = some (.int .i64 t.f2) := (blk_cell HB31.out 2).trans rfl; have yc3 : w1.cell? ⟨b3, 3, none⟩ = some (.int .u64 t.f3) := (blk_cell HB31.out 3).trans rfl; have yc4 : w1.cell? ⟨b3, 4, none⟩ = some (.slice none 0 0) := (blk_cell HB31.out 4).trans rfl; have yc5 : w1.cell? ⟨b3, 5, none⟩ = some (.int .i64 t.f4) := (blk_cell HB31.out 5).trans rfl; have yf0 := blk_frozen HB31.out 0; have yf1 := blk_frozen HB31.out 1; have yf2 := blk_frozen HB31.out 2; have yf3 := blk_frozen HB31.out 3; have yf4 := blk_frozen HB31.out 4; have yf5 := blk_frozen HB31.out 5; have zc0 : w1.cell? ⟨b2, 0, none⟩ = some (.int .i64 0) := (blk_cell HB21.out 0).trans rfl; have zc1 : w1.cell? ⟨b2, 1, none⟩ = some (.string (⟨#[]⟩ : ByteArray)) := (blk_cell HB21.out 1).trans rfl; have zc2 : w1.cell? ⟨b2, 2, none⟩ = some (.int .i64 0) := (blk_cell HB21.out 2).trans rfl; have zc3 : w1.cell? ⟨b2, 3, none⟩ = some (.int .u64 0) := (blk_cell HB21.out 3).trans rfl; have zc4 : w1.cell? ⟨b2, 4, none⟩ = some (.slice none 0 0) := (blk_cell HB21.out 4).trans rfl; have zc5 : w1.cell? ⟨b2, 5, none⟩ = some (.int .i64 0) := (blk_cell HB21.out 5).trans rfl; have zf0 := blk_frozen HB21.out 0; have zf1 := blk_frozen HB21.out 1; have zf2 := blk_frozen HB21.out 2; have zf3 := blk_frozen HB21.out 3; have zf4 := blk_frozen HB21.out 4; have zf5 := blk_frozen HB21.out 5)
    exact bodyPost_ret (v := .agg #[.int .i64 5, .string t.f1, .int .i64 t.f2, .int .u64 t.f3, .slice none 0 0, .int .i64 t.f4]) (results_c Tryd.results145 _ _ b2 44 _ (0, 0) _ rfl (blk_put6 HB21.out _ _ _ _ _ _) Tryd.underlying44 rfl size44) rfl (ndPost_of HE.out ⟨_, rfl, Kd.R_nil _ _ _ _ _, HS1.out.set6 hgb _ _ _ _ _ _, (HFA.out.trans HF1.out).set6 hwb2 _ _ _ _ _ _⟩)
/-- All of the reader's functions, whatever is left. -/
theorem par_all : ∀ n : Nat, FnC 49 exprF 6 n ∧ FnC 82 interF 5 n ∧ FnC 96 rangedF 4 n ∧ FnC 121 unaryF 3 n ∧ FnC 138 atomF 2 n ∧ CallC n := by
  intro n
  induction n using Nat.strongRecOn with
  | ind n ih =>
    cases n with
    | zero => exact ⟨fun _ _ _ _ _ h => absurd h.1 (by omega), fun _ _ _ _ _ h => absurd h.1 (by omega), fun _ _ _ _ _ h => absurd h.1 (by omega), fun _ _ _ _ _ h => absurd h.1 (by omega), fun _ _ _ _ _ h => absurd h.1 (by omega), fun _ _ _ _ _ _ _ h => absurd h.1 (by omega)⟩
    | succ n =>
      have E : FnC 49 exprF 6 (n + 1) := expr_walk n (fun m hm => (ih m (by omega)).2.1)
      refine ⟨E, inter_walk n (fun m hm => (ih m (by omega)).2.2.1), ranged_walk n (fun m hm => (ih m (by omega)).2.2.2.1), unary_walk n (fun m hm => (ih m (by omega)).2.2.2.1) (fun m hm => (ih m (by omega)).2.2.2.2.1), atom_walk n (fun m hm => (ih m (by omega)).1) (fun m hm => (ih m (by omega)).2.2.2.2.2), call_walk (n + 1) (fun m hm => ?_)⟩
      rcases Nat.lt_or_ge m (n + 1) with h | h
      · exact (ih m h).1
      · obtain rfl : m = n + 1 := by omega
        exact E
end Go.Proofs.YtfgfoofojofnmaaDoor.Q
