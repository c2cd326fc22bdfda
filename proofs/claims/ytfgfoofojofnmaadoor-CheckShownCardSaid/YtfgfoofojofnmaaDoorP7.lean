/- check.Check, walked: what it answers is checkT. -/
import Derived.Test.YtfgfoofojofnmaaDoorP4
import Derived.Test.YtfgfoofojofnmaaDoorP6
import Derived.Test.YtfgfoofojofnmaaDoorQF53
import Derived.Outline
import Derived.Deep.DeepCutAuto
import Derived.Deep.CutBlock
namespace Go.Proofs.YtfgfoofojofnmaaDoor.Q
open Go.RowKit Go.Proofs.YtfgfoofojofnmaaDoorW.PrintWords Go.Proofs.YtfgfoofojofnmaaDoorW.PrintLast Go.Proofs.YtfgfoofojofnmaaDoorW.PrintMore
set_option linter.unusedVariables false
set_option linter.unusedSimpArgs false
open Go.Proofs.YtfgfoofojofnmaaDoor.Hand
/-- The type that an argument wants. -/
def atT (tk : List Int) (i : Nat) : Int := tk.getD (min i (tk.length - 1)) 0
mutual
/-- What a tree comes to: the type, the place, the code. -/
def checkT : S44 → Int × Int × Int
 | ⟨op, s, _, _, ks, p⟩ =>
  if op = 1 ∨ op = 2 then (1, 0, 0) else if op = 3 then (2, 0, 0) else if op = 4 then (3, 0, 0)
  else if op = 5 then
   if (faceC (nameC s.toList)).2.2.2.2 = true then
    if (ks.length : Int) < (faceC (nameC s.toList)).1 then (0, p, 34) else if (faceC (nameC s.toList)).2.1 < (ks.length : Int) then (0, p, 34)
    else checkM (faceC (nameC s.toList)).2.2.1 (faceC (nameC s.toList)).2.2.2.1 0 ks
   else (0, p, 33)
  else checkM [1] 1 0 ks
def checkM (tk : List Int) (is : Int) : Nat → List S44 → Int × Int × Int
 | _, [] => (is, 0, 0)
 | i, k :: ks => if (checkT k).2.2 = 0 then (if (checkT k).1 = atT tk i then checkM tk is (i + 1) ks else (0, k.f5, 35)) else (0, (checkT k).2.1, (checkT k).2.2)
end
theorem checkT_is (x : S44) : checkT x = if x.f0 = 1 ∨ x.f0 = 2 then (1, 0, 0) else if x.f0 = 3 then (2, 0, 0) else if x.f0 = 4 then (3, 0, 0)
  else if x.f0 = 5 then
   if (faceC (nameC x.f1.toList)).2.2.2.2 = true then
    if (x.f4.length : Int) < (faceC (nameC x.f1.toList)).1 then (0, x.f5, 34) else if (faceC (nameC x.f1.toList)).2.1 < (x.f4.length : Int) then (0, x.f5, 34)
    else checkM (faceC (nameC x.f1.toList)).2.2.1 (faceC (nameC x.f1.toList)).2.2.2.1 0 x.f4
   else (0, x.f5, 33)
  else checkM [1] 1 0 x.f4 := by
 obtain ⟨a, b, c, d, ks, e⟩ := x
 rw [checkT]
theorem checkM_nil (tk : List Int) (is : Int) (i : Nat) : checkM tk is i [] = (is, 0, 0) := by rw [checkM]
theorem checkM_cons (tk : List Int) (is : Int) (i : Nat) (k : S44) (ks : List S44) : checkM tk is i (k :: ks) = if (checkT k).2.2 = 0 then (if (checkT k).1 = atT tk i then checkM tk is (i + 1) ks else (0, k.f5, 35)) else (0, (checkT k).2.1, (checkT k).2.2) := by rw [checkM]
theorem wtM_drop (l : List S44) : ∀ j : Nat, wtM (l.drop j) ≤ wtM l := by
 induction l with
 | nil => intro j; simp
 | cons a l ih =>
  intro j
  cases j with
  | zero => simp
  | succ j => rw [List.drop_succ_cons, wtM_cons]; have := ih j; omega
theorem rd44 (l : List S44) (i : Nat) (h : i < l.length) : rd_T44 l (i : Int) = l[i] := by simp [rd_T44, List.getD_eq_getElem?_getD, List.getElem?_eq_getElem h]
theorem at_f (lo hi is : Int) (tk : List Int) (i : Nat) (h : 0 < tk.length) (hb : tk.length ≤ 1000000) (hi2 : i ≤ 1000000) : check_face_at.f lo hi tk is (i : Int) = some (atT tk i) := by
 have hm : mn (i : Int) ((tk.length : Int) - 1) = ((min i (tk.length - 1) : Nat) : Int) := by
  unfold mn
  split <;> omega
 have hw := Lib.hid (show wrap64 ((tk.length : Int) - 1) = (tk.length : Int) - 1 by unfold wrap64; omega)
 unfold check_face_at.f
 rw [hw.out, hm, if_pos (by omega), if_pos (by omega)]
 simp [rd, atT]
theorem blk_belowV {W w' : World} {g : Nat} {o : Obj} (h : Below W.heap.size W w') (hb : W.heap[g]? = some o) : w'.heap[g]? = some o := (h.block g (blk_lt hb)).trans hb
theorem below_allocW (w : World) (o : Obj) : Below w.heap.size w (w.alloc o) := below_alloc (Below.refl _ _) o
theorem blk_newX (w : World) (o : Obj) (n : Nat) (h : n = w.heap.size) : (w.alloc o).heap[n]? = some o := by rw [h]; exact blk_new w o
theorem C_one (w : World) (o1 o2 : Obj) : Kd.C (Kd.int .i64) (((w.alloc o1).alloc (.cells #[.int .i64 1] 47)).alloc o2) (some ⟨w.heap.size + 1, 0, none⟩) 1 [1] := by
 obtain ⟨A, c, he, hl, hC⟩ := Kd.R_reads (R_ints2 w o1 [1] (by decide))
 injection he with e1 e2 e3
 subst e1
 exact Kd.C_below hC (below_allocW _ _)
theorem face_ok (c : Nat) : (faceC c).2.2.1.length ≤ 2 ∧ (-1 : Int) ≤ (faceC c).1 ∧ (faceC c).2.1 ≤ 1073741824 ∧ (0 < (faceC c).2.2.1.length ∨ (faceC c).2.1 = 0) := by
 unfold faceC
 repeat' (first | (split; simp) | simp)
theorem fitw (x : S44) (i : Nat) (h : i < x.f4.length) : wt (x.f4[i]) + 1 ≤ wt x := by
 have h1 := wtM_drop x.f4 i
 rw [List.drop_eq_getElem_cons h, wtM_cons] at h1
 have := wt_is x
 omega
theorem blk_put4 {w : World} {b : Nat} {a0 a1 a2 a3 : Value} (h : w.heap[b]? = some (.cells #[a0, a1, a2, a3] 93 (0, 0))) (v0 v1 v2 v3 : Value) :
  ((((w.setCell ⟨b, 0, none⟩ v0).setCell ⟨b, 1, none⟩ v1).setCell ⟨b, 2, none⟩ v2).setCell ⟨b, 3, none⟩ v3).heap[b]? = some (.cells #[v0, v1, v2, v3] 93 (0, 0)) :=
 blk_put (cs := #[v0, v1, v2, a3]) (blk_put (cs := #[v0, v1, a2, a3]) (blk_put (cs := #[v0, a1, a2, a3]) (blk_put (cs := #[a0, a1, a2, a3]) h 0 _ rfl) 1 _ rfl) 2 _ rfl) 3 _ rfl
theorem blk_far4 {w3 : World} {b b3 : Nat} {o : Obj} (h : w3.heap[b]? = some o) (hne : b ≠ b3) (v0 v1 v2 v3 : Value) : ((((w3.setCell ⟨b3, 0, none⟩ v0).setCell ⟨b3, 1, none⟩ v1).setCell ⟨b3, 2, none⟩ v2).setCell ⟨b3, 3, none⟩ v3).heap[b]? = some o := blk_far (blk_far (blk_far (blk_far h hne _ _) hne _ _) hne _ _) hne _ _
theorem C_set4 {w6 W : World} {b5 c2 : Nat} {A2 : Option Addr} {tk : List Int} (h : (Kd.int .i64).R 47 w6 W.heap.size (fun _ => True) (.slice A2 tk.length c2) tk) (hb : b5 < W.heap.size) (v0 v1 v2 v3 : Value) : Kd.C (Kd.int .i64) ((((w6.setCell ⟨b5, 0, none⟩ v0).setCell ⟨b5, 1, none⟩ v1).setCell ⟨b5, 2, none⟩ v2).setCell ⟨b5, 3, none⟩ v3) A2 tk.length tk := by
 have h1 : (Kd.int .i64).R 47 w6 W.heap.size (fun k => k ≠ b5) (.slice A2 tk.length c2) tk := Kd.R_mono (Kd.R_bound h) (fun k hk => by have := hk.2.1; omega)
 have h2 := Kd.R_far (p := ⟨b5, 3, none⟩) (Kd.R_far (p := ⟨b5, 2, none⟩) (Kd.R_far (p := ⟨b5, 1, none⟩) (Kd.R_far (p := ⟨b5, 0, none⟩) h1 (fun _ hk => hk) v0) (fun _ hk => hk) v1) (fun _ hk => hk) v2) (fun _ hk => hk) v3
 obtain ⟨A, c, he, hl, hC⟩ := Kd.R_reads h2
 injection he with e1 e2 e3
 rw [e1]
 exact hC
theorem below_set4 {w w1 : World} {B b : Nat} (h : Below B w w1) (hb : B ≤ b) (v0 v1 v2 v3 : Value) : Below B w ((((w1.setCell ⟨b, 0, none⟩ v0).setCell ⟨b, 1, none⟩ v1).setCell ⟨b, 2, none⟩ v2).setCell ⟨b, 3, none⟩ v3) := (((h.setCell hb v0).setCell hb v1).setCell hb v2).setCell hb v3
set_option maxHeartbeats 4000000 in
set_option maxRecDepth 100000 in
theorem check_walk (n : Nat) : ∀ (x : S44) (A : Option Addr) (c : Nat) (w : World), wt x ≤ n → wt x ≤ 1000000 → Kd.C k44 w A x.f4.length x.f4 → x.f4.length ≤ c →
  Calls Tryd.prog 23 #[.agg #[.int .i64 x.f0, .string x.f1, .int .i64 x.f2, .int .u64 x.f3, .slice A x.f4.length c, .int .i64 x.f5]] w fun e w' => e = .returned (.tuple #[.int .i64 (checkT x).1, .int .i64 (checkT x).2.1, .int .i64 (checkT x).2.2]) ∧ Below w.heap.size w w' := by
 induction n with
 | zero => exact fun x A c w h => absurd (wt_pos x) (by omega)
 | succ n ih =>
  intro x A c w hx hb hC hc
  have e := wt_is x
  have eM := wtM_len x.f4
  have HX := Lib.hid hC
  have HC0 := Lib.hid hc
  clear hC hc
  go_enter Tryd.func23, Tryd.ntmps23
  go_upto_region 2 with (fail)
  have HB1 : Hid ((((w.alloc (.cells #[.int .i64 x.f0, .string x.f1, .int .i64 x.f2, .int .u64 x.f3, .slice A x.f4.length c, .int .i64 x.f5] 44)).alloc (.cells #[.int .i64 1] 47)).alloc (.cells #[.int .i64 0, .int .i64 0, .slice (some ⟨w.heap.size + 1, 0, none⟩) 1 1, .int .i64 1] 93)).heap[w.heap.size]? = some (.cells #[.int .i64 x.f0, .string x.f1, .int .i64 x.f2, .int .u64 x.f3, .slice A x.f4.length c, .int .i64 x.f5] 44 (0, 0))) := Lib.hid (blk_alloc (blk_alloc (blk_new w _) _) _)
  have HB5 : Hid ((((w.alloc (.cells #[.int .i64 x.f0, .string x.f1, .int .i64 x.f2, .int .u64 x.f3, .slice A x.f4.length c, .int .i64 x.f5] 44)).alloc (.cells #[.int .i64 1] 47)).alloc (.cells #[.int .i64 0, .int .i64 0, .slice (some ⟨w.heap.size + 1, 0, none⟩) 1 1, .int .i64 1] 93)).heap[w.heap.size + 1 + 1]? = some (.cells #[.int .i64 0, .int .i64 0, .slice (some ⟨w.heap.size + 1, 0, none⟩) 1 1, .int .i64 1] 93 (0, 0))) := Lib.hid (blk_newX _ _ _ (by rw [alloc_size, alloc_size]))
  have HK : Hid (Kd.C (Kd.int .i64) (((w.alloc (.cells #[.int .i64 x.f0, .string x.f1, .int .i64 x.f2, .int .u64 x.f3, .slice A x.f4.length c, .int .i64 x.f5] 44)).alloc (.cells #[.int .i64 1] 47)).alloc (.cells #[.int .i64 0, .int .i64 0, .slice (some ⟨w.heap.size + 1, 0, none⟩) 1 1, .int .i64 1] 93)) (some ⟨w.heap.size + 1, 0, none⟩) 1 [1]) := Lib.hid (C_one w _ _)
  have HBA : Hid (Below w.heap.size w (((w.alloc (.cells #[.int .i64 x.f0, .string x.f1, .int .i64 x.f2, .int .u64 x.f3, .slice A x.f4.length c, .int .i64 x.f5] 44)).alloc (.cells #[.int .i64 1] 47)).alloc (.cells #[.int .i64 0, .int .i64 0, .slice (some ⟨w.heap.size + 1, 0, none⟩) 1 1, .int .i64 1] 93))) := Lib.hid (below_alloc (below_alloc (below_alloc (Below.refl _ _) _) _) _)
  generalize (((w.alloc (.cells #[.int .i64 x.f0, .string x.f1, .int .i64 x.f2, .int .u64 x.f3, .slice A x.f4.length c, .int .i64 x.f5] 44)).alloc (.cells #[.int .i64 1] 47)).alloc (.cells #[.int .i64 0, .int .i64 0, .slice (some ⟨w.heap.size + 1, 0, none⟩) 1 1, .int .i64 1] 93)) = wA at *
  generalize hk : w.heap.size + 1 = kb at *
  generalize h5 : kb + 1 = b5 at *
  generalize h1 : w.heap.size = b1 at *
  have HH1 : Hid (w.heap.size = b1) := Lib.hid h1
  have HBA : Hid (Below w.heap.size w wA) := Lib.hid (by rw [HH1.out]; exact HBA.out)
  have h15 : b1 < b5 := by omega
  clear hk h5 h1
  have xc0 : wA.cell? ⟨b1, 0, none⟩ = some (.int .i64 x.f0) := (blk_cell HB1.out 0).trans rfl
  have xc1 : wA.cell? ⟨b1, 1, none⟩ = some (.string x.f1) := (blk_cell HB1.out 1).trans rfl
  have xc2 : wA.cell? ⟨b1, 2, none⟩ = some (.int .i64 x.f2) := (blk_cell HB1.out 2).trans rfl
  have xc3 : wA.cell? ⟨b1, 3, none⟩ = some (.int .u64 x.f3) := (blk_cell HB1.out 3).trans rfl
  have xc4 : wA.cell? ⟨b1, 4, none⟩ = some (.slice A x.f4.length c) := (blk_cell HB1.out 4).trans rfl
  have xc5 : wA.cell? ⟨b1, 5, none⟩ = some (.int .i64 x.f5) := (blk_cell HB1.out 5).trans rfl
  have yc0 : wA.cell? ⟨b5, 0, none⟩ = some (.int .i64 0) := (blk_cell HB5.out 0).trans rfl
  have yc1 : wA.cell? ⟨b5, 1, none⟩ = some (.int .i64 0) := (blk_cell HB5.out 1).trans rfl
  have yc2 : wA.cell? ⟨b5, 2, none⟩ = some (.slice (some ⟨kb, 0, none⟩) 1 1) := (blk_cell HB5.out 2).trans rfl
  have yc3 : wA.cell? ⟨b5, 3, none⟩ = some (.int .i64 1) := (blk_cell HB5.out 3).trans rfl
  have yf0 := blk_frozen HB5.out 0
  have yf1 := blk_frozen HB5.out 1
  have yf2 := blk_frozen HB5.out 2
  have yf3 := blk_frozen HB5.out 3
  have HT := Lib.hid (checkT_is x)
  go_upto_block 0 with (fail)
  go_cut [7] (fun v7 wc => ∃ (lo hi is : Int) (tk : List Int) (A2 : Option Addr) (c2 : Nat), (tk.length ≤ 1000000 ∧ (0 < tk.length ∨ x.f4.length = 0)) ∧ Aside0 (wc.heap[b5]? = some (.cells #[.int .i64 lo, .int .i64 hi, .slice A2 tk.length c2, .int .i64 is] 93 (0, 0))) ∧ Aside0 (Kd.C (Kd.int .i64) wc A2 tk.length tk ∧ tk.length ≤ c2) ∧ Aside0 (checkT x = checkM tk is 0 x.f4) ∧ Aside0 (wc.heap[b1]? = some (.cells #[.int .i64 x.f0, .string x.f1, .int .i64 x.f2, .int .u64 x.f3, .slice A x.f4.length c, .int .i64 x.f5] 44 (0, 0))) ∧ Aside0 (Below w.heap.size w wc))
  case first =>
   by_cases h12 : x.f0 = 1 ∨ x.f0 = 2
   ·have HE : Hid (checkT x = (1, 0, 0)) := Lib.hid (by rw [HT.out, if_pos h12])
    rcases h12 with h1 | h1
    ·have t1 : (x.f0 == 1) = true := beq_iff_eq.2 h1
     clear h1
     go_wp2
     go_ret3
     exact ⟨by rw [HE.out] <;> rfl, HBA.out⟩
    ·have t1 : (x.f0 == 1) = false := by rw [h1]; rfl
     have t2 : (x.f0 == 2) = true := beq_iff_eq.2 h1
     clear h1
     go_wp2
     go_ret3
     exact ⟨by rw [HE.out] <;> rfl, HBA.out⟩
   ·have t1 : (x.f0 == 1) = false := beq_eq_false_iff_ne.2 (fun e => h12 (.inl e))
    have t2 : (x.f0 == 2) = false := beq_eq_false_iff_ne.2 (fun e => h12 (.inr e))
    by_cases h3 : x.f0 = 3
    ·have HE : Hid (checkT x = (2, 0, 0)) := Lib.hid (by rw [HT.out, if_neg h12, if_pos h3])
     have t3 : (x.f0 == 3) = true := beq_iff_eq.2 h3
     clear h3 h12
     go_wp2
     go_ret3
     exact ⟨by rw [HE.out] <;> rfl, HBA.out⟩
    ·have t3 : (x.f0 == 3) = false := beq_eq_false_iff_ne.2 h3
     by_cases h4 : x.f0 = 4
     ·have HE : Hid (checkT x = (3, 0, 0)) := Lib.hid (by rw [HT.out, if_neg h12, if_neg h3, if_pos h4])
      have t4 : (x.f0 == 4) = true := beq_iff_eq.2 h4
      clear h3 h12 h4
      go_wp2
      go_ret3
      exact ⟨by rw [HE.out] <;> rfl, HBA.out⟩
     ·have t4 : (x.f0 == 4) = false := beq_eq_false_iff_ne.2 h4
      by_cases h5 : x.f0 = 5
      ·have t5 : (x.f0 == 5) = true := beq_iff_eq.2 h5
       have CF := fun W => face_any x.f1 W
       unfold FaceP at CF
       have HF := Lib.hid (face_ok (nameC x.f1.toList))
       have HT2 := Lib.hid (HT.out.trans (by rw [if_neg h12, if_neg h3, if_neg h4, if_pos h5]))
       clear h12 h3 h4 h5 HT
       generalize faceC (nameC x.f1.toList) = f at *
       obtain ⟨lo, hi, tk, is, ok⟩ := f
       have hlo := HF.out.2.1
       have hhi := HF.out.2.2.1
       go_upto_region 12 with (go_at_call 52; (with_reducible refine (CF _).mono ?_); rintro e w2 ⟨v2, rfl, hR2, hB2⟩; obtain ⟨A2, c2, rfl, hl2, hC2⟩ := Kd.R_reads hR2; have HR2 := Lib.hid hR2; have HL2 := Lib.hid hl2; have HB2 := Lib.hid hB2; have HB12 := Lib.hid (blk_belowV hB2 HB1.out); have HB52 := Lib.hid (blk_belowV hB2 HB5.out); clear hR2 hC2 hl2 hB2; have xc0 : w2.cell? ⟨b1, 0, none⟩ = some (.int .i64 x.f0) := (blk_cell HB12.out 0).trans rfl; have xc1 : w2.cell? ⟨b1, 1, none⟩ = some (.string x.f1) := (blk_cell HB12.out 1).trans rfl; have xc2 : w2.cell? ⟨b1, 2, none⟩ = some (.int .i64 x.f2) := (blk_cell HB12.out 2).trans rfl; have xc3 : w2.cell? ⟨b1, 3, none⟩ = some (.int .u64 x.f3) := (blk_cell HB12.out 3).trans rfl; have xc4 : w2.cell? ⟨b1, 4, none⟩ = some (.slice A x.f4.length c) := (blk_cell HB12.out 4).trans rfl; have xc5 : w2.cell? ⟨b1, 5, none⟩ = some (.int .i64 x.f5) := (blk_cell HB12.out 5).trans rfl; have yc0 : w2.cell? ⟨b5, 0, none⟩ = some (.int .i64 0) := (blk_cell HB52.out 0).trans rfl; have yc1 : w2.cell? ⟨b5, 1, none⟩ = some (.int .i64 0) := (blk_cell HB52.out 1).trans rfl; have yc2 : w2.cell? ⟨b5, 2, none⟩ = some (.slice (some ⟨kb, 0, none⟩) 1 1) := (blk_cell HB52.out 2).trans rfl; have yc3 : w2.cell? ⟨b5, 3, none⟩ = some (.int .i64 1) := (blk_cell HB52.out 3).trans rfl; have yf0 := blk_frozen HB52.out 0; have yf1 := blk_frozen HB52.out 1; have yf2 := blk_frozen HB52.out 2; have yf3 := blk_frozen HB52.out 3)
       have HB6 := Lib.hid (blk_new w2 (Obj.cells #[.int .i64 lo, .int .i64 hi, .slice A2 tk.length c2, .int .i64 is] 93))
       clear CF xc0 xc1 xc2 xc3 xc4 xc5 yc0 yf0 yc1 yf1 yc2 yf2 yc3 yf3
       have HB16 := Lib.hid (blk_alloc HB12.out (Obj.cells #[.int .i64 lo, .int .i64 hi, .slice A2 tk.length c2, .int .i64 is] 93))
       have HB56 := Lib.hid (blk_alloc HB52.out (Obj.cells #[.int .i64 lo, .int .i64 hi, .slice A2 tk.length c2, .int .i64 is] 93))
       have HR26 := Lib.hid (Kd.R_alloc HR2.out (Obj.cells #[.int .i64 lo, .int .i64 hi, .slice A2 tk.length c2, .int .i64 is] 93))
       have HBW := Lib.hid (below_alloc (below_step HBA.out HB2.out) (Obj.cells #[.int .i64 lo, .int .i64 hi, .slice A2 tk.length c2, .int .i64 is] 93))
       have h56 : b5 < w2.heap.size := blk_lt HB52.out
       generalize w2.alloc (Obj.cells #[.int .i64 lo, .int .i64 hi, .slice A2 tk.length c2, .int .i64 is] 93) = w6 at *
       generalize w2.heap.size = b6 at *
       have xc0 : w6.cell? ⟨b1, 0, none⟩ = some (.int .i64 x.f0) := (blk_cell HB16.out 0).trans rfl
       have xc1 : w6.cell? ⟨b1, 1, none⟩ = some (.string x.f1) := (blk_cell HB16.out 1).trans rfl
       have xc2 : w6.cell? ⟨b1, 2, none⟩ = some (.int .i64 x.f2) := (blk_cell HB16.out 2).trans rfl
       have xc3 : w6.cell? ⟨b1, 3, none⟩ = some (.int .u64 x.f3) := (blk_cell HB16.out 3).trans rfl
       have xc4 : w6.cell? ⟨b1, 4, none⟩ = some (.slice A x.f4.length c) := (blk_cell HB16.out 4).trans rfl
       have xc5 : w6.cell? ⟨b1, 5, none⟩ = some (.int .i64 x.f5) := (blk_cell HB16.out 5).trans rfl
       have yc0 : w6.cell? ⟨b5, 0, none⟩ = some (.int .i64 0) := (blk_cell HB56.out 0).trans rfl
       have yc1 : w6.cell? ⟨b5, 1, none⟩ = some (.int .i64 0) := (blk_cell HB56.out 1).trans rfl
       have yc2 : w6.cell? ⟨b5, 2, none⟩ = some (.slice (some ⟨kb, 0, none⟩) 1 1) := (blk_cell HB56.out 2).trans rfl
       have yc3 : w6.cell? ⟨b5, 3, none⟩ = some (.int .i64 1) := (blk_cell HB56.out 3).trans rfl
       have yf0 := blk_frozen HB56.out 0
       have yf1 := blk_frozen HB56.out 1
       have yf2 := blk_frozen HB56.out 2
       have yf3 := blk_frozen HB56.out 3
       have zc0 : w6.cell? ⟨b6, 0, none⟩ = some (.int .i64 lo) := (blk_cell HB6.out 0).trans rfl
       have zc1 : w6.cell? ⟨b6, 1, none⟩ = some (.int .i64 hi) := (blk_cell HB6.out 1).trans rfl
       have zc2 : w6.cell? ⟨b6, 2, none⟩ = some (.slice A2 tk.length c2) := (blk_cell HB6.out 2).trans rfl
       have zc3 : w6.cell? ⟨b6, 3, none⟩ = some (.int .i64 is) := (blk_cell HB6.out 3).trans rfl
       cases ok with
       | false =>
        have HE : Hid (checkT x = (0, x.f5, 33)) := Lib.hid (by rw [HT2.out]; rfl)
        go_upto_region 13 with (fail)
        go_region
        all_goals go_wp2
        all_goals go_ret3
        all_goals exact ⟨by rw [HE.out] <;> rfl, below_drew1 HBW.out⟩
       | true =>
        by_cases hl : (x.f4.length : Int) < lo
        ·have HE : Hid (checkT x = (0, x.f5, 34)) := Lib.hid (by rw [HT2.out]; show (if true = true then (if _ then _ else _) else _) = _; rw [if_pos rfl, if_pos hl])
         go_upto_region 15 with (fail)
         go_region
         all_goals go_wp2
         all_goals go_ret3
         all_goals exact ⟨by rw [HE.out] <;> rfl, below_drew1 HBW.out⟩
        ·by_cases hh : hi < (x.f4.length : Int)
         ·have HE : Hid (checkT x = (0, x.f5, 34)) := Lib.hid (by rw [HT2.out]; show (if true = true then (if _ then _ else if _ then _ else _) else _) = _; rw [if_pos rfl, if_neg hl, if_pos hh])
          go_upto_region 15 with (fail)
          go_region
          all_goals go_wp2
          all_goals go_ret3
          all_goals exact ⟨by rw [HE.out] <;> rfl, below_drew1 HBW.out⟩
         ·have HE : Hid (checkT x = checkM tk is 0 x.f4) := Lib.hid (by rw [HT2.out]; show (if true = true then (if _ then _ else if _ then _ else _) else _) = _; rw [if_pos rfl, if_neg hl, if_neg hh])
          have hl3 : (x.f4.length : Int) ≤ hi := by omega
          have HTK : Hid (tk.length ≤ 1000000 ∧ (0 < tk.length ∨ x.f4.length = 0)) := Lib.hid ⟨by have := HF.out.1; omega, HF.out.2.2.2.imp id (fun e => by omega)⟩
          go_wp2
          go_meet
          case rel => exact ⟨lo, hi, is, tk, A2, c2, HTK.out, ⟨blk_put4 HB56.out _ _ _ _⟩, ⟨C_set4 HR26.out (blk_lt HB5.out) _ _ _ _, HL2.out⟩, ⟨HE.out⟩, ⟨blk_far4 HB16.out (by omega) _ _ _ _⟩, ⟨below_set4 HBW.out (by have := HH1.out; omega) _ _ _ _⟩⟩
      ·have t5 : (x.f0 == 5) = false := beq_eq_false_iff_ne.2 h5
       have HE : Hid (checkT x = checkM [1] 1 0 x.f4) := Lib.hid (by rw [HT.out, if_neg h12, if_neg h3, if_neg h4, if_neg h5])
       clear h12 h3 h4 h5
       go_wp2
       go_meet
       case rel => exact ⟨0, 0, 1, [1], some ⟨kb, 0, none⟩, 1, ⟨by decide, .inl (by decide)⟩, ⟨HB5.out⟩, ⟨HK.out, by decide⟩, ⟨HE.out⟩, ⟨HB1.out⟩, ⟨HBA.out⟩⟩
  case rest =>
   obtain ⟨lo, hi, is, tk, A2, c2, ⟨htk1, htk2⟩, HB5c, HC2c, HEc, HB1c, HBc⟩ := hcut
   clear HB1 HB5 HK HBA HT xc0 xc1 xc2 xc3 xc4 xc5 yc0 yf0 yc1 yf1 yc2 yf2 yc3 yf3
   have xc0 : wc.cell? ⟨b1, 0, none⟩ = some (.int .i64 x.f0) := (blk_cell HB1c.out 0).trans rfl
   have xc1 : wc.cell? ⟨b1, 1, none⟩ = some (.string x.f1) := (blk_cell HB1c.out 1).trans rfl
   have xc2 : wc.cell? ⟨b1, 2, none⟩ = some (.int .i64 x.f2) := (blk_cell HB1c.out 2).trans rfl
   have xc3 : wc.cell? ⟨b1, 3, none⟩ = some (.int .u64 x.f3) := (blk_cell HB1c.out 3).trans rfl
   have xc4 : wc.cell? ⟨b1, 4, none⟩ = some (.slice A x.f4.length c) := (blk_cell HB1c.out 4).trans rfl
   have xc5 : wc.cell? ⟨b1, 5, none⟩ = some (.int .i64 x.f5) := (blk_cell HB1c.out 5).trans rfl
   have HL : Hid (tk.length ≤ c2) := Lib.hid HC2c.out.2
   have hxl : x.f4.length ≤ 1000000 := by omega
   go_wp2
   go_loopw [56] (fun v56 wr => ∃ i : Nat, i ≤ x.f4.length ∧ v56 = .int .i64 (i : Int) ∧ Aside0 (checkT x = checkM tk is i (x.f4.drop i)) ∧ Aside0 (Below wc.heap.size wc wr)) (fun v56 _ => x.f4.length - (intOf v56).toNat)
   case atStart => exact ⟨0, Nat.zero_le _, rfl, ⟨by rw [List.drop_zero]; exact HEc.out⟩, ⟨Below.refl _ _⟩⟩
   case round =>
    obtain ⟨i, hi2, rfl, HEi, HBi⟩ := hrel
    have HBr := Lib.hid (below_step HBc.out HBi.out)
    have HB5r := Lib.hid (blk_belowV HBi.out HB5c.out)
    have HC2r := Lib.hid (Kd.C_below HC2c.out.1 HBi.out)
    clear xc0 xc1 xc2 xc3 xc4 xc5
    by_cases hlt : i < x.f4.length
    ·have hdr := List.drop_eq_getElem_cons hlt
     have HXr := Lib.hid (Kd.C_below HX.out HBr.out)
     obtain ⟨ad, A4, c4, eA, x0, x1, x2, x3, x4, x5, hl4, hC4⟩ := at_T44 HXr.out (i : Int) (by omega) (by omega)
     subst eA
     have hw4 := fitw x i hlt
     rw [rd44 x.f4 i hlt] at x0 x1 x2 x3 x4 x5 hl4 hC4
     have HAT := Lib.hid (at_f lo hi is tk i (htk2.resolve_right (by omega)) htk1 (by omega))
     have HE2 := Lib.hid (HEi.out.trans (by rw [hdr, checkM_cons]))
     clear hdr
     have CK := fun W (hW : Kd.C k44 W A4 x.f4[i].f4.length x.f4[i].f4) => ih x.f4[i] A4 c4 W (by omega) (by omega) hW hl4
     generalize x.f4[i] = y at *
     have HC4 := Lib.hid hC4
     clear hC4
     simp only [Int.toNat_natCast] at x0 x1 x2 x3 x4 x5
     have hlt2 : wr.heap.size < wr.heap.size + 1 := by omega
     by_cases hcode : (checkT y).2.2 = 0
     ·have tcd : ((checkT y).2.2 != 0) = false := by rw [hcode]; rfl
      by_cases hty : (checkT y).1 = atT tk i
      ·have tty : ((checkT y).1 != atT tk i) = false := by rw [hty]; exact bne_self_eq_false _
       have HE3 := Lib.hid (HE2.out.trans (by rw [if_pos hcode, if_pos hty]))
       clear hcode hty
       go_wp2_with (first | (go_at_call 23; (with_reducible refine (CK _ ?_).mono ?_); exact Kd.C_below HC4.out (by repeat (first | exact Below.refl _ _ | refine pw_below_drewN ?_ _ | refine below_alloc ?_ _)); rintro e w3 ⟨rfl, hB3⟩; have HB53 := Lib.hid (blk_belowV hB3 (blk_alloc HB5r.out _)); have HB93 := Lib.hid (blk_belowV hB3 (blk_new wr _)); have HC23 := Lib.hid (Kd.C_below HC2r.out ((below_allocW wr _).trans (hB3.mono (Nat.le_of_lt (by rw [alloc_size]; omega))))); have HB3 := Lib.hid (Below.trans (below_alloc HBr.out _) (hB3.mono (by rw [alloc_size]; have := HBr.out.size; omega))); have hB34 := Lib.hid (hB3.mono (show wr.heap.size ≤ _ by rw [alloc_size]; omega)); clear hB3; have pc0 : w3.cell? ⟨b5, 0, none⟩ = some (.int .i64 lo) := (blk_cell HB53.out 0).trans rfl; have pc1 : w3.cell? ⟨b5, 1, none⟩ = some (.int .i64 hi) := (blk_cell HB53.out 1).trans rfl; have pc2 : w3.cell? ⟨b5, 2, none⟩ = some (.slice A2 tk.length c2) := (blk_cell HB53.out 2).trans rfl; have pc3 : w3.cell? ⟨b5, 3, none⟩ = some (.int .i64 is) := (blk_cell HB53.out 3).trans rfl; have qc0 : w3.cell? ⟨wr.heap.size, 0, none⟩ = some (.int .i64 y.f0) := (blk_cell HB93.out 0).trans rfl; have qc1 : w3.cell? ⟨wr.heap.size, 1, none⟩ = some (.string y.f1) := (blk_cell HB93.out 1).trans rfl; have qc2 : w3.cell? ⟨wr.heap.size, 2, none⟩ = some (.int .i64 y.f2) := (blk_cell HB93.out 2).trans rfl; have qc3 : w3.cell? ⟨wr.heap.size, 3, none⟩ = some (.int .u64 y.f3) := (blk_cell HB93.out 3).trans rfl; have qc4 : w3.cell? ⟨wr.heap.size, 4, none⟩ = some (.slice A4 y.f4.length c4) := (blk_cell HB93.out 4).trans rfl; have qc5 : w3.cell? ⟨wr.heap.size, 5, none⟩ = some (.int .i64 y.f5) := (blk_cell HB93.out 5).trans rfl) | (go_at_call 53; (with_reducible refine (check_face_at.calls lo hi A2 c2 tk is (i : Int) (atT tk i) _ ?_ ?_ ?_).mono ?_); exact HC23.out; exact HL.out; exact HAT.out; rintro e w4 ⟨rfl, hB4⟩; have HB94 := Lib.hid (blk_belowV hB4 HB93.out); have HB4 := Lib.hid (below_step HB3.out hB4); have hB44 := Lib.hid (hB4.mono (show wr.heap.size ≤ _ by have := hB34.out.size; rw [alloc_size] at this; omega)); clear hB4; have rc0 : w4.cell? ⟨wr.heap.size, 0, none⟩ = some (.int .i64 y.f0) := (blk_cell HB94.out 0).trans rfl; have rc1 : w4.cell? ⟨wr.heap.size, 1, none⟩ = some (.string y.f1) := (blk_cell HB94.out 1).trans rfl; have rc2 : w4.cell? ⟨wr.heap.size, 2, none⟩ = some (.int .i64 y.f2) := (blk_cell HB94.out 2).trans rfl; have rc3 : w4.cell? ⟨wr.heap.size, 3, none⟩ = some (.int .u64 y.f3) := (blk_cell HB94.out 3).trans rfl; have rc4 : w4.cell? ⟨wr.heap.size, 4, none⟩ = some (.slice A4 y.f4.length c4) := (blk_cell HB94.out 4).trans rfl; have rc5 : w4.cell? ⟨wr.heap.size, 5, none⟩ = some (.int .i64 y.f5) := (blk_cell HB94.out 5).trans rfl))
       go_roundw
       case rel => exact ⟨i + 1, by omega, by go_num, ⟨HE3.out⟩, ⟨below_step HBi.out (Below.trans (below_allocW wr _) (hB34.out.trans hB44.out))⟩⟩
       case measure => simp [intOf]; omega
      ·have tty : ((checkT y).1 != atT tk i) = true := bne_iff_ne.2 hty
       have HE3 : Hid (checkT x = (0, y.f5, 35)) := Lib.hid (HE2.out.trans (by rw [if_pos hcode, if_neg hty]))
       clear hcode hty
       go_upto_region 24 with (first | (go_at_call 23; (with_reducible refine (CK _ ?_).mono ?_); exact Kd.C_below HC4.out (by repeat (first | exact Below.refl _ _ | refine pw_below_drewN ?_ _ | refine below_alloc ?_ _)); rintro e w3 ⟨rfl, hB3⟩; have HB53 := Lib.hid (blk_belowV hB3 (blk_alloc HB5r.out _)); have HB93 := Lib.hid (blk_belowV hB3 (blk_new wr _)); have HC23 := Lib.hid (Kd.C_below HC2r.out ((below_allocW wr _).trans (hB3.mono (Nat.le_of_lt (by rw [alloc_size]; omega))))); have HB3 := Lib.hid (Below.trans (below_alloc HBr.out _) (hB3.mono (by rw [alloc_size]; have := HBr.out.size; omega))); have hB34 := Lib.hid (hB3.mono (show wr.heap.size ≤ _ by rw [alloc_size]; omega)); clear hB3; have pc0 : w3.cell? ⟨b5, 0, none⟩ = some (.int .i64 lo) := (blk_cell HB53.out 0).trans rfl; have pc1 : w3.cell? ⟨b5, 1, none⟩ = some (.int .i64 hi) := (blk_cell HB53.out 1).trans rfl; have pc2 : w3.cell? ⟨b5, 2, none⟩ = some (.slice A2 tk.length c2) := (blk_cell HB53.out 2).trans rfl; have pc3 : w3.cell? ⟨b5, 3, none⟩ = some (.int .i64 is) := (blk_cell HB53.out 3).trans rfl; have qc0 : w3.cell? ⟨wr.heap.size, 0, none⟩ = some (.int .i64 y.f0) := (blk_cell HB93.out 0).trans rfl; have qc1 : w3.cell? ⟨wr.heap.size, 1, none⟩ = some (.string y.f1) := (blk_cell HB93.out 1).trans rfl; have qc2 : w3.cell? ⟨wr.heap.size, 2, none⟩ = some (.int .i64 y.f2) := (blk_cell HB93.out 2).trans rfl; have qc3 : w3.cell? ⟨wr.heap.size, 3, none⟩ = some (.int .u64 y.f3) := (blk_cell HB93.out 3).trans rfl; have qc4 : w3.cell? ⟨wr.heap.size, 4, none⟩ = some (.slice A4 y.f4.length c4) := (blk_cell HB93.out 4).trans rfl; have qc5 : w3.cell? ⟨wr.heap.size, 5, none⟩ = some (.int .i64 y.f5) := (blk_cell HB93.out 5).trans rfl) | (go_at_call 53; (with_reducible refine (check_face_at.calls lo hi A2 c2 tk is (i : Int) (atT tk i) _ ?_ ?_ ?_).mono ?_); exact HC23.out; exact HL.out; exact HAT.out; rintro e w4 ⟨rfl, hB4⟩; have HB94 := Lib.hid (blk_belowV hB4 HB93.out); have HB4 := Lib.hid (below_step HB3.out hB4); have hB44 := Lib.hid (hB4.mono (show wr.heap.size ≤ _ by have := hB34.out.size; rw [alloc_size] at this; omega)); clear hB4; have rc0 : w4.cell? ⟨wr.heap.size, 0, none⟩ = some (.int .i64 y.f0) := (blk_cell HB94.out 0).trans rfl; have rc1 : w4.cell? ⟨wr.heap.size, 1, none⟩ = some (.string y.f1) := (blk_cell HB94.out 1).trans rfl; have rc2 : w4.cell? ⟨wr.heap.size, 2, none⟩ = some (.int .i64 y.f2) := (blk_cell HB94.out 2).trans rfl; have rc3 : w4.cell? ⟨wr.heap.size, 3, none⟩ = some (.int .u64 y.f3) := (blk_cell HB94.out 3).trans rfl; have rc4 : w4.cell? ⟨wr.heap.size, 4, none⟩ = some (.slice A4 y.f4.length c4) := (blk_cell HB94.out 4).trans rfl; have rc5 : w4.cell? ⟨wr.heap.size, 5, none⟩ = some (.int .i64 y.f5) := (blk_cell HB94.out 5).trans rfl))
       go_region
       all_goals go_wp2
       all_goals go_ret3
       all_goals exact ⟨by rw [HE3.out] <;> rfl, below_drew1 HB4.out⟩
     ·have tcd : ((checkT y).2.2 != 0) = true := bne_iff_ne.2 hcode
      have HE3 : Hid (checkT x = (0, (checkT y).2.1, (checkT y).2.2)) := Lib.hid (HE2.out.trans (by rw [if_neg hcode]))
      clear hcode
      go_wp2_with (go_at_call 23; (with_reducible refine (CK _ ?_).mono ?_); exact Kd.C_below HC4.out (by repeat (first | exact Below.refl _ _ | refine pw_below_drewN ?_ _ | refine below_alloc ?_ _)); rintro e w3 ⟨rfl, hB3⟩; have HB53 := Lib.hid (blk_belowV hB3 (blk_alloc HB5r.out _)); have HB93 := Lib.hid (blk_belowV hB3 (blk_new wr _)); have HC23 := Lib.hid (Kd.C_below HC2r.out ((below_allocW wr _).trans (hB3.mono (Nat.le_of_lt (by rw [alloc_size]; omega))))); have HB3 := Lib.hid (Below.trans (below_alloc HBr.out _) (hB3.mono (by rw [alloc_size]; have := HBr.out.size; omega))); have hB34 := Lib.hid (hB3.mono (show wr.heap.size ≤ _ by rw [alloc_size]; omega)); clear hB3; have pc0 : w3.cell? ⟨b5, 0, none⟩ = some (.int .i64 lo) := (blk_cell HB53.out 0).trans rfl; have pc1 : w3.cell? ⟨b5, 1, none⟩ = some (.int .i64 hi) := (blk_cell HB53.out 1).trans rfl; have pc2 : w3.cell? ⟨b5, 2, none⟩ = some (.slice A2 tk.length c2) := (blk_cell HB53.out 2).trans rfl; have pc3 : w3.cell? ⟨b5, 3, none⟩ = some (.int .i64 is) := (blk_cell HB53.out 3).trans rfl; have qc0 : w3.cell? ⟨wr.heap.size, 0, none⟩ = some (.int .i64 y.f0) := (blk_cell HB93.out 0).trans rfl; have qc1 : w3.cell? ⟨wr.heap.size, 1, none⟩ = some (.string y.f1) := (blk_cell HB93.out 1).trans rfl; have qc2 : w3.cell? ⟨wr.heap.size, 2, none⟩ = some (.int .i64 y.f2) := (blk_cell HB93.out 2).trans rfl; have qc3 : w3.cell? ⟨wr.heap.size, 3, none⟩ = some (.int .u64 y.f3) := (blk_cell HB93.out 3).trans rfl; have qc4 : w3.cell? ⟨wr.heap.size, 4, none⟩ = some (.slice A4 y.f4.length c4) := (blk_cell HB93.out 4).trans rfl; have qc5 : w3.cell? ⟨wr.heap.size, 5, none⟩ = some (.int .i64 y.f5) := (blk_cell HB93.out 5).trans rfl)
      go_ret3
      exact ⟨by rw [HE3.out] <;> rfl, HB3.out⟩
    ·obtain rfl : i = x.f4.length := by omega
     have HE3 : Hid (checkT x = (is, 0, 0)) := Lib.hid (HEi.out.trans (by rw [List.drop_length, checkM_nil]))
     have pc0 : wr.cell? ⟨b5, 0, none⟩ = some (.int .i64 lo) := (blk_cell HB5r.out 0).trans rfl
     have pc1 : wr.cell? ⟨b5, 1, none⟩ = some (.int .i64 hi) := (blk_cell HB5r.out 1).trans rfl
     have pc2 : wr.cell? ⟨b5, 2, none⟩ = some (.slice A2 tk.length c2) := (blk_cell HB5r.out 2).trans rfl
     have pc3 : wr.cell? ⟨b5, 3, none⟩ = some (.int .i64 is) := (blk_cell HB5r.out 3).trans rfl
     go_wp2
     go_ret3
     exact ⟨by rw [HE3.out] <;> rfl, HBr.out⟩
end Go.Proofs.YtfgfoofojofnmaaDoor.Q
