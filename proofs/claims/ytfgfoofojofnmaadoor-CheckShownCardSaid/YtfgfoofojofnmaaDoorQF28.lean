-- Written by a program of this session's (wip/tools/hprint.py, over the kit's print.py). Not trusted: Lean checks it.
import Derived.Test.YtfgfoofojofnmaaDoorQ0
namespace Go.Proofs.YtfgfoofojofnmaaDoor.Q
open Go.RowKit Go.Proofs.YtfgfoofojofnmaaDoorW.PrintWords Go.Proofs.YtfgfoofojofnmaaDoorW.PrintLast Go.Proofs.YtfgfoofojofnmaaDoorW.PrintMore
attribute [local go_sem] Go.Proofs.YtfgfoofojofnmaaDoor.Hand.w64_mod256 Go.Proofs.YtfgfoofojofnmaaDoor.Hand.w64_mod32 max2_int min2_int max_two min_two max_three min_three max_four min_four   -- for this text's walks alone
set_option linter.unusedVariables false
set_option linter.unusedSimpArgs false

/-! ### forebearref23_Same: function 28 -/
mutual
def forebearref23_Same.j0 : Nat → Bool → Bool → Int → ByteArray → Int → Int → List (S54) → Int → Int → ByteArray → Int → Int → List (S54) → Int → Option (Bool)
 | 0, _, _, _, _, _, _, _, _, _, _, _, _, _, _ => none
 | k + 1, x2, x52, x516000, x516001, x516002, x516003, x516004, x516005, x517000, x517001, x517002, x517003, x517004, x517005 => if x52 = true then (some false) else (forebearref23_Same.l0 k x2 0 x516000 x516001 x516002 x516003 x516004 x516005 x517000 x517001 x517002 x517003 x517004 x517005)
def forebearref23_Same.l0 : Nat → Bool → Int → Int → ByteArray → Int → Int → List (S54) → Int → Int → ByteArray → Int → Int → List (S54) → Int → Option (Bool)
 | 0, _, _, _, _, _, _, _, _, _, _, _, _, _, _ => none
 | k + 1, x2, x7, x516000, x516001, x516002, x516003, x516004, x516005, x517000, x517001, x517002, x517003, x517004, x517005 => if x7 < (x516004.length : Int) then (if 0 ≤ x7 then (if x7 < (x517004.length : Int) then ((forebearref23_Same.f k ((rd_T54 x516004 x7).f0) ((rd_T54 x516004 x7).f1) ((rd_T54 x516004 x7).f2) ((rd_T54 x516004 x7).f3) ((rd_T54 x516004 x7).f4) ((rd_T54 x516004 x7).f5) ((rd_T54 x517004 x7).f0) ((rd_T54 x517004 x7).f1) ((rd_T54 x517004 x7).f2) ((rd_T54 x517004 x7).f3) ((rd_T54 x517004 x7).f4) ((rd_T54 x517004 x7).f5) x2).bind fun t519 => (if t519 = true then (forebearref23_Same.l0 k x2 (wrap64 (x7 + 1)) x516000 x516001 x516002 x516003 x516004 x516005 x517000 x517001 x517002 x517003 x517004 x517005) else (some false))) else (none)) else (none)) else (some true)
def forebearref23_Same.f : Nat → Int → ByteArray → Int → Int → List (S54) → Int → Int → ByteArray → Int → Int → List (S54) → Int → Bool → Option (Bool)
 | 0, _, _, _, _, _, _, _, _, _, _, _, _, _ => none
 | k + 1, a0_0, a0_1, a0_2, a0_3, l0_4, a0_5, a1_0, a1_1, a1_2, a1_3, l1_4, a1_5, a2 => if a0_0 = a1_0 then (if a0_1.toList = a1_1.toList then (if a0_2 = a1_2 then (if a0_3 = a1_3 then (if a2 = true then (if a0_5 = a1_5 then (forebearref23_Same.j0 k a2 ((l0_4.length : Int) != (l1_4.length : Int)) a0_0 a0_1 a0_2 a0_3 l0_4 a0_5 a1_0 a1_1 a1_2 a1_3 l1_4 a1_5) else (forebearref23_Same.j0 k a2 true a0_0 a0_1 a0_2 a0_3 l0_4 a0_5 a1_0 a1_1 a1_2 a1_3 l1_4 a1_5)) else (forebearref23_Same.j0 k a2 ((l0_4.length : Int) != (l1_4.length : Int)) a0_0 a0_1 a0_2 a0_3 l0_4 a0_5 a1_0 a1_1 a1_2 a1_3 l1_4 a1_5)) else (forebearref23_Same.j0 k a2 true a0_0 a0_1 a0_2 a0_3 l0_4 a0_5 a1_0 a1_1 a1_2 a1_3 l1_4 a1_5)) else (forebearref23_Same.j0 k a2 true a0_0 a0_1 a0_2 a0_3 l0_4 a0_5 a1_0 a1_1 a1_2 a1_3 l1_4 a1_5)) else (forebearref23_Same.j0 k a2 true a0_0 a0_1 a0_2 a0_3 l0_4 a0_5 a1_0 a1_1 a1_2 a1_3 l1_4 a1_5)) else (forebearref23_Same.j0 k a2 true a0_0 a0_1 a0_2 a0_3 l0_4 a0_5 a1_0 a1_1 a1_2 a1_3 l1_4 a1_5)
end
theorem forebearref23_Same.mono_l : ∀ k, (∀ y0 y1 y2 y3 y4 y5 y6 y7 y8 y9 y10 y11 y12, LeO (forebearref23_Same.f k y0 y1 y2 y3 y4 y5 y6 y7 y8 y9 y10 y11 y12) (forebearref23_Same.f (k + 1) y0 y1 y2 y3 y4 y5 y6 y7 y8 y9 y10 y11 y12)) ∧ (∀ y0 y1 y2 y3 y4 y5 y6 y7 y8 y9 y10 y11 y12 y13, LeO (forebearref23_Same.j0 k y0 y1 y2 y3 y4 y5 y6 y7 y8 y9 y10 y11 y12 y13) (forebearref23_Same.j0 (k + 1) y0 y1 y2 y3 y4 y5 y6 y7 y8 y9 y10 y11 y12 y13)) ∧ (∀ y0 y1 y2 y3 y4 y5 y6 y7 y8 y9 y10 y11 y12 y13, LeO (forebearref23_Same.l0 k y0 y1 y2 y3 y4 y5 y6 y7 y8 y9 y10 y11 y12 y13) (forebearref23_Same.l0 (k + 1) y0 y1 y2 y3 y4 y5 y6 y7 y8 y9 y10 y11 y12 y13))
 | 0 => ⟨fun _ _ _ _ _ _ _ _ _ _ _ _ _ r h => by simp [forebearref23_Same.f] at h, fun _ _ _ _ _ _ _ _ _ _ _ _ _ _ r h => by simp [forebearref23_Same.j0] at h, fun _ _ _ _ _ _ _ _ _ _ _ _ _ _ r h => by simp [forebearref23_Same.l0] at h⟩
 | k + 1 => by
  obtain ⟨ih0, ih1, ih2⟩ := forebearref23_Same.mono_l k
  refine ⟨?_, ?_, ?_⟩
  ·intro y0 y1 y2 y3 y4 y5 y6 y7 y8 y9 y10 y11 y12
   unfold forebearref23_Same.f
   repeat' first
   | (with_reducible exact ih0 _ _ _ _ _ _ _ _ _ _ _ _ _)
   | (with_reducible exact ih1 _ _ _ _ _ _ _ _ _ _ _ _ _ _)
   | (with_reducible exact ih2 _ _ _ _ _ _ _ _ _ _ _ _ _ _)
   | (with_reducible exact LeO.refl _)
   | (with_reducible exact LeO.none _)
   | (with_reducible refine LeO.ite ?_ ?_)
   | (with_reducible refine LeO.bind ?_ (fun _ => ?_))
   | exact ih0 _ _ _ _ _ _ _ _ _ _ _ _ _
   | exact ih1 _ _ _ _ _ _ _ _ _ _ _ _ _ _
   | exact ih2 _ _ _ _ _ _ _ _ _ _ _ _ _ _
   | exact LeO.none _
   | refine LeO.ite ?_ ?_
   | refine LeO.bind ?_ (fun _ => ?_)
  ·intro y0 y1 y2 y3 y4 y5 y6 y7 y8 y9 y10 y11 y12 y13
   unfold forebearref23_Same.j0
   repeat' first
   | (with_reducible exact ih0 _ _ _ _ _ _ _ _ _ _ _ _ _)
   | (with_reducible exact ih1 _ _ _ _ _ _ _ _ _ _ _ _ _ _)
   | (with_reducible exact ih2 _ _ _ _ _ _ _ _ _ _ _ _ _ _)
   | (with_reducible exact LeO.refl _)
   | (with_reducible exact LeO.none _)
   | (with_reducible refine LeO.ite ?_ ?_)
   | (with_reducible refine LeO.bind ?_ (fun _ => ?_))
   | exact ih0 _ _ _ _ _ _ _ _ _ _ _ _ _
   | exact ih1 _ _ _ _ _ _ _ _ _ _ _ _ _ _
   | exact ih2 _ _ _ _ _ _ _ _ _ _ _ _ _ _
   | exact LeO.none _
   | refine LeO.ite ?_ ?_
   | refine LeO.bind ?_ (fun _ => ?_)
  ·intro y0 y1 y2 y3 y4 y5 y6 y7 y8 y9 y10 y11 y12 y13
   unfold forebearref23_Same.l0
   repeat' first
   | (with_reducible exact ih0 _ _ _ _ _ _ _ _ _ _ _ _ _)
   | (with_reducible exact ih1 _ _ _ _ _ _ _ _ _ _ _ _ _ _)
   | (with_reducible exact ih2 _ _ _ _ _ _ _ _ _ _ _ _ _ _)
   | (with_reducible exact LeO.refl _)
   | (with_reducible exact LeO.none _)
   | (with_reducible refine LeO.ite ?_ ?_)
   | (with_reducible refine LeO.bind ?_ (fun _ => ?_))
   | exact ih0 _ _ _ _ _ _ _ _ _ _ _ _ _
   | exact ih1 _ _ _ _ _ _ _ _ _ _ _ _ _ _
   | exact ih2 _ _ _ _ _ _ _ _ _ _ _ _ _ _
   | exact LeO.none _
   | refine LeO.ite ?_ ?_
   | refine LeO.bind ?_ (fun _ => ?_)
theorem forebearref23_Same.mono : ∀ a0 a1 a2 a3 a4 a5 a6 a7 a8 a9 a10 a11 a12 k, LeO (forebearref23_Same.f k a0 a1 a2 a3 a4 a5 a6 a7 a8 a9 a10 a11 a12) (forebearref23_Same.f (k + 1) a0 a1 a2 a3 a4 a5 a6 a7 a8 a9 a10 a11 a12) := by
 intro a0 a1 a2 a3 a4 a5 a6 a7 a8 a9 a10 a11 a12 k
 obtain ⟨ih0, ih1, ih2⟩ := forebearref23_Same.mono_l k
 exact ih0 a0 a1 a2 a3 a4 a5 a6 a7 a8 a9 a10 a11 a12
def forebearref23_Same.T6 : Bool × List (List Nat × List Nat) := (true, [([], []), ([0], [0]), ([], []), ([1, 2], [1, 2]), ([3], [3]), ([], []), ([5], [5]), ([], []), ([6, 7], [6, 7]), ([8], [8]), ([], []), ([4, 9, 10], [4, 9, 10]), ([11], [11])])
def forebearref23_Same.B6 : List Nat := [0, 1, 0, 7, 15, 0, 32, 0, 224, 480, 0, 2047, 4095]
theorem forebearref23_Same.tab6 : rtab .any (opsOf Tryd.f28 6) = forebearref23_Same.T6 := by kernel_rfl
theorem forebearref23_Same.bits6 : waitsOk forebearref23_Same.T6.2 forebearref23_Same.B6 = true := by kernel_rfl
set_option maxHeartbeats 8000000 in
set_option maxRecDepth 100000 in
theorem forebearref23_Same.calls (k : Nat) : ∀ (a0_0 : Int) (a0_1 : ByteArray) (a0_2 : Int) (a0_3 : Int) (A0_4 : Option Addr) (c0_4 : Nat) (l0_4 : List (S54)) (a0_5 : Int) (a1_0 : Int) (a1_1 : ByteArray) (a1_2 : Int) (a1_3 : Int) (A1_4 : Option Addr) (c1_4 : Nat) (l1_4 : List (S54)) (a1_5 : Int) (a2 : Bool) (r : Bool) (w : World) (hr0_4 : Kd.C k54 w A0_4 l0_4.length l0_4) (hc0_4 : l0_4.length ≤ c0_4) (hr1_4 : Kd.C k54 w A1_4 l1_4.length l1_4) (hc1_4 : l1_4.length ≤ c1_4) (h : forebearref23_Same.f k a0_0 a0_1 a0_2 a0_3 l0_4 a0_5 a1_0 a1_1 a1_2 a1_3 l1_4 a1_5 a2 = some r),
  Calls Tryd.prog 28 #[.agg #[.int .i64 a0_0, .string a0_1, .int .i64 a0_2, .int .u64 a0_3, .slice A0_4 l0_4.length c0_4, .int .i64 a0_5], .agg #[.int .i64 a1_0, .string a1_1, .int .i64 a1_2, .int .u64 a1_3, .slice A1_4 l1_4.length c1_4, .int .i64 a1_5], .bool a2] w fun e w' => e = .returned (.bool r) ∧ Below w.heap.size w w' := by
 induction k using Nat.strongRecOn with
 | _ k ih =>
 intro a0_0 a0_1 a0_2 a0_3 A0_4 c0_4 l0_4 a0_5 a1_0 a1_1 a1_2 a1_3 A1_4 c1_4 l1_4 a1_5 a2 r w hr0_4 hc0_4 hr1_4 hc1_4 h
 cases k with
 | zero => exact absurd h (by simp [forebearref23_Same.f])
 | succ k =>
 simp only [forebearref23_Same.f] at h
 have hu54 := Tryd.underlying54
 have HR0_4 := Aside0.mk hr0_4
 have HC0_4 := Aside0.mk hc0_4
 clear hr0_4 hc0_4
 have HR1_4 := Aside0.mk hr1_4
 have HC1_4 := Aside0.mk hc1_4
 clear hr1_4 hc1_4
 have HB := Aside0.mk (Below.refl w.heap.size w)
 have H : (if a0_0 = a1_0 then (if a0_1.toList = a1_1.toList then (if a0_2 = a1_2 then (if a0_3 = a1_3 then (if a2 = true then (if a0_5 = a1_5 then (forebearref23_Same.j0 k a2 ((l0_4.length : Int) != (l1_4.length : Int)) a0_0 a0_1 a0_2 a0_3 l0_4 a0_5 a1_0 a1_1 a1_2 a1_3 l1_4 a1_5) else (forebearref23_Same.j0 k a2 true a0_0 a0_1 a0_2 a0_3 l0_4 a0_5 a1_0 a1_1 a1_2 a1_3 l1_4 a1_5)) else (forebearref23_Same.j0 k a2 ((l0_4.length : Int) != (l1_4.length : Int)) a0_0 a0_1 a0_2 a0_3 l0_4 a0_5 a1_0 a1_1 a1_2 a1_3 l1_4 a1_5)) else (forebearref23_Same.j0 k a2 true a0_0 a0_1 a0_2 a0_3 l0_4 a0_5 a1_0 a1_1 a1_2 a1_3 l1_4 a1_5)) else (forebearref23_Same.j0 k a2 true a0_0 a0_1 a0_2 a0_3 l0_4 a0_5 a1_0 a1_1 a1_2 a1_3 l1_4 a1_5)) else (forebearref23_Same.j0 k a2 true a0_0 a0_1 a0_2 a0_3 l0_4 a0_5 a1_0 a1_1 a1_2 a1_3 l1_4 a1_5)) else (forebearref23_Same.j0 k a2 true a0_0 a0_1 a0_2 a0_3 l0_4 a0_5 a1_0 a1_1 a1_2 a1_3 l1_4 a1_5)) = some r := h
 clear h
 have HC4 := Aside0.mk H
 clear H
 go_enter Tryd.func28, Tryd.ntmps28
 go_upto_region 1 with (first | ((with_reducible refine gate_dst (N := 3) rfl ?_); (try (refine gate_guard (by rfl) ?_; dsimp only)); refine box_event ?hg (N := 3) ?hd (cs := #[.int .i64 a0_0, .string a0_1, .int .i64 a0_2, .int .u64 a0_3, .slice A0_4 l0_4.length c0_4, .int .i64 a0_5]) (t := 54) ?hr ?_; (case hd => rfl); (case hg => rfl); (case hr => first | (go_simp; done) | (go_simp; rfl)); intro gb515 hg w5 hbox hb; have n0_ := Aside0.mk (below_step (by repeat (first | (with_reducible first | exact HB.out | apply below_alloc | apply pw_below_drewN | apply below_drew1) | exact HB.out)) hb); have n1_ := Aside0.mk (hbox); have n2_ := Aside0.mk ((by rw [hg]; exact (below_size (by repeat (first | (with_reducible first | exact HB.out | apply below_alloc | apply pw_below_drewN | apply below_drew1) | exact HB.out))) : w.heap.size ≤ gb515)); have n3_ := Aside0.mk ((by rw [hg]; exact (below_size (by repeat (first | (with_reducible first | exact HB.out | apply below_alloc | apply pw_below_drewN | apply below_drew1) | exact HB.out))) : w.heap.size ≤ gb515)); clear HB; have HB := n0_; have BK515 := n1_; have GW515 := n2_; have GE515 := n3_; clear n0_ n1_ n2_ n3_; clear hb hbox hg) | ((with_reducible refine gate_dst (N := 4) rfl ?_); (try (refine gate_guard (by rfl) ?_; dsimp only)); refine box_event ?hg (N := 4) ?hd (cs := #[.int .i64 a1_0, .string a1_1, .int .i64 a1_2, .int .u64 a1_3, .slice A1_4 l1_4.length c1_4, .int .i64 a1_5]) (t := 54) ?hr ?_; (case hd => rfl); (case hg => rfl); (case hr => first | (go_simp; done) | (go_simp; rfl)); intro gb516 hg w6 hbox hb; have n0_ := Aside0.mk (blk_below (g := gb515) (o := .cells #[.int .i64 a0_0, .string a0_1, .int .i64 a0_2, .int .u64 a0_3, .slice A0_4 l0_4.length c0_4, .int .i64 a0_5] 54 (0, 0)) (by (with_reducible repeat (first | refine blk_drewN ?_ _ | refine blk_drew ?_ | refine blk_alloc ?_ _)); exact BK515.out) hb); have n1_ := Aside0.mk (below_step (by repeat (first | (with_reducible first | exact HB.out | apply below_alloc | apply pw_below_drewN | apply below_drew1 | refine below_set ?_ GE515.out) | exact HB.out)) hb); have n2_ := Aside0.mk (hbox); have n3_ := Aside0.mk ((by rw [hg]; exact (below_size (by repeat (first | (with_reducible first | exact HB.out | apply below_alloc | apply pw_below_drewN | apply below_drew1 | refine below_set ?_ GE515.out) | exact HB.out))) : w.heap.size ≤ gb516)); have n4_ := Aside0.mk ((by rw [hg]; exact (below_size (by repeat (first | (with_reducible first | exact HB.out | apply below_alloc | apply pw_below_drewN | apply below_drew1 | refine below_set ?_ GE515.out) | exact HB.out))) : w.heap.size ≤ gb516)); have n5_ := Aside0.mk ((by rw [hg]; exact Nat.ne_of_lt (blk_lt (g := gb515) (o := .cells #[.int .i64 a0_0, .string a0_1, .int .i64 a0_2, .int .u64 a0_3, .slice A0_4 l0_4.length c0_4, .int .i64 a0_5] 54 (0, 0)) (by (with_reducible repeat (first | refine blk_drewN ?_ _ | refine blk_drew ?_ | refine blk_alloc ?_ _)); exact BK515.out)) : gb515 ≠ gb516)); have n6_ := Aside0.mk ((by rw [hg]; exact Nat.ne_of_gt (blk_lt (g := gb515) (o := .cells #[.int .i64 a0_0, .string a0_1, .int .i64 a0_2, .int .u64 a0_3, .slice A0_4 l0_4.length c0_4, .int .i64 a0_5] 54 (0, 0)) (by (with_reducible repeat (first | refine blk_drewN ?_ _ | refine blk_drew ?_ | refine blk_alloc ?_ _)); exact BK515.out)) : gb516 ≠ gb515)); clear BK515; clear HB; have BK515 := n0_; have HB := n1_; have BK516 := n2_; have GW516 := n3_; have GE516 := n4_; have NB515_516 := n5_; have NB516_515 := n6_; clear n0_ n1_ n2_ n3_ n4_ n5_ n6_; clear hb hbox hg))
 (try simp only [Act.put, List.setIfInBounds_toArray, List.set_cons_zero, List.set_cons_succ])
 go_cut [52] (fun v52 wc => ∃ (kq : Nat) (x52_3 : Bool), v52 = .bool x52_3 ∧ Aside0 (forebearref23_Same.j0 kq a2 x52_3 a0_0 a0_1 a0_2 a0_3 l0_4 a0_5 a1_0 a1_1 a1_2 a1_3 l1_4 a1_5 = some r) ∧ Aside0 (kq ≤ k) ∧ Aside0 (wc.heap[gb515]? = some (.cells #[.int .i64 a0_0, .string a0_1, .int .i64 a0_2, .int .u64 a0_3, (.slice A0_4 l0_4.length c0_4), .int .i64 a0_5] 54 (0, 0))) ∧ Aside0 (wc.heap[gb516]? = some (.cells #[.int .i64 a1_0, .string a1_1, .int .i64 a1_2, .int .u64 a1_3, (.slice A1_4 l1_4.length c1_4), .int .i64 a1_5] 54 (0, 0))) ∧ Aside0 (Below w.heap.size w wc))
 case first =>
  have H := HC4.out
  clear HC4
  by_cases c7 : a0_0 = a1_0
  ·rw [if_pos c7] at H
   have c7b0 : (a0_0 == a1_0) = true := beq_iff_eq.mpr c7
   have c7b1 : (a0_0 != a1_0) = false := bne_eq_false_iff_eq.mpr c7
   clear c7
   (first | rw [c7b0] | (simp only [i64_w, i32_w]; rw [c7b0]) | skip)
   by_cases c8 : a0_1.toList = a1_1.toList
   ·rw [if_pos c8] at H
    have c8b0 : (a0_1.toList == a1_1.toList) = true := beq_iff_eq.mpr c8
    have c8b1 : (a0_1.toList != a1_1.toList) = false := bne_eq_false_iff_eq.mpr c8
    clear c8
    by_cases c9 : a0_2 = a1_2
    ·rw [if_pos c9] at H
     have c9b0 : (a0_2 == a1_2) = true := beq_iff_eq.mpr c9
     have c9b1 : (a0_2 != a1_2) = false := bne_eq_false_iff_eq.mpr c9
     clear c9
     by_cases c10 : a0_3 = a1_3
     ·rw [if_pos c10] at H
      have c10b0 : (a0_3 == a1_3) = true := beq_iff_eq.mpr c10
      have c10b1 : (a0_3 != a1_3) = false := bne_eq_false_iff_eq.mpr c10
      clear c10
      by_cases c11 : a2 = true
      ·subst c11
       have H1 : (if a0_5 = a1_5 then (forebearref23_Same.j0 k true ((l0_4.length : Int) != (l1_4.length : Int)) a0_0 a0_1 a0_2 a0_3 l0_4 a0_5 a1_0 a1_1 a1_2 a1_3 l1_4 a1_5) else (forebearref23_Same.j0 k true true a0_0 a0_1 a0_2 a0_3 l0_4 a0_5 a1_0 a1_1 a1_2 a1_3 l1_4 a1_5)) = some r := by rw [if_pos rfl] at H; exact H
       clear H
       have H := H1
       clear H1
       by_cases c12 : a0_5 = a1_5
       ·rw [if_pos c12] at H
        have c12b0 : (a0_5 == a1_5) = true := beq_iff_eq.mpr c12
        have c12b1 : (a0_5 != a1_5) = false := bne_eq_false_iff_eq.mpr c12
        clear c12
        have H' := Aside0.mk H
        clear H
        have hnb13 := NB515_516.out
        have hnc13 := NB516_515.out
        have hcz14_0 : w6.cell? ⟨gb515, 0, none⟩ = some (.int .i64 a0_0) := (blk_cell BK515.out 0).trans rfl
        have hcz14_1 : w6.cell? ⟨gb515, 1, none⟩ = some (.string a0_1) := (blk_cell BK515.out 1).trans rfl
        have hcz14_2 : w6.cell? ⟨gb515, 2, none⟩ = some (.int .i64 a0_2) := (blk_cell BK515.out 2).trans rfl
        have hcz14_3 : w6.cell? ⟨gb515, 3, none⟩ = some (.int .u64 a0_3) := (blk_cell BK515.out 3).trans rfl
        have hcz14_4 : w6.cell? ⟨gb515, 4, none⟩ = some (.slice A0_4 l0_4.length c0_4) := (blk_cell BK515.out 4).trans rfl
        have hcz14_5 : w6.cell? ⟨gb515, 5, none⟩ = some (.int .i64 a0_5) := (blk_cell BK515.out 5).trans rfl
        have hfz14_0 := blk_frozen BK515.out 0
        have hfz14_1 := blk_frozen BK515.out 1
        have hfz14_2 := blk_frozen BK515.out 2
        have hfz14_3 := blk_frozen BK515.out 3
        have hfz14_4 := blk_frozen BK515.out 4
        have hfz14_5 := blk_frozen BK515.out 5
        have hcz15_0 : w6.cell? ⟨gb516, 0, none⟩ = some (.int .i64 a1_0) := (blk_cell BK516.out 0).trans rfl
        have hcz15_1 : w6.cell? ⟨gb516, 1, none⟩ = some (.string a1_1) := (blk_cell BK516.out 1).trans rfl
        have hcz15_2 : w6.cell? ⟨gb516, 2, none⟩ = some (.int .i64 a1_2) := (blk_cell BK516.out 2).trans rfl
        have hcz15_3 : w6.cell? ⟨gb516, 3, none⟩ = some (.int .u64 a1_3) := (blk_cell BK516.out 3).trans rfl
        have hcz15_4 : w6.cell? ⟨gb516, 4, none⟩ = some (.slice A1_4 l1_4.length c1_4) := (blk_cell BK516.out 4).trans rfl
        have hcz15_5 : w6.cell? ⟨gb516, 5, none⟩ = some (.int .i64 a1_5) := (blk_cell BK516.out 5).trans rfl
        have hfz15_0 := blk_frozen BK516.out 0
        have hfz15_1 := blk_frozen BK516.out 1
        have hfz15_2 := blk_frozen BK516.out 2
        have hfz15_3 := blk_frozen BK516.out 3
        have hfz15_4 := blk_frozen BK516.out 4
        have hfz15_5 := blk_frozen BK516.out 5
        go_wp2
        go_meet
        case rel => exact ⟨_, (((l0_4.length : Int) != (l1_4.length : Int))), (by first | rfl | (simp; done) | (simp [*]; done)), H', ⟨by first | omega | exact Nat.le_refl _⟩, ⟨by (with_reducible repeat (first | refine blk_drewN ?_ _ | refine blk_drew ?_ | refine blk_alloc ?_ _)); exact BK515.out⟩, ⟨by (with_reducible repeat (first | refine blk_drewN ?_ _ | refine blk_drew ?_ | refine blk_alloc ?_ _)); exact BK516.out⟩, ⟨by repeat (first | (with_reducible first | exact HB.out | apply below_alloc | apply pw_below_drewN | apply below_drew1 | refine below_set ?_ GE515.out | refine below_set ?_ GE516.out) | exact HB.out)⟩⟩
       ·rw [if_neg c12] at H
        have c12b0 : (a0_5 == a1_5) = false := beq_eq_false_iff_ne.mpr c12
        have c12b1 : (a0_5 != a1_5) = true := bne_iff_ne.mpr c12
        have H' := Aside0.mk H
        clear H
        have hnb16 := NB515_516.out
        have hnc16 := NB516_515.out
        have hcz17_0 : w6.cell? ⟨gb515, 0, none⟩ = some (.int .i64 a0_0) := (blk_cell BK515.out 0).trans rfl
        have hcz17_1 : w6.cell? ⟨gb515, 1, none⟩ = some (.string a0_1) := (blk_cell BK515.out 1).trans rfl
        have hcz17_2 : w6.cell? ⟨gb515, 2, none⟩ = some (.int .i64 a0_2) := (blk_cell BK515.out 2).trans rfl
        have hcz17_3 : w6.cell? ⟨gb515, 3, none⟩ = some (.int .u64 a0_3) := (blk_cell BK515.out 3).trans rfl
        have hcz17_4 : w6.cell? ⟨gb515, 4, none⟩ = some (.slice A0_4 l0_4.length c0_4) := (blk_cell BK515.out 4).trans rfl
        have hcz17_5 : w6.cell? ⟨gb515, 5, none⟩ = some (.int .i64 a0_5) := (blk_cell BK515.out 5).trans rfl
        have hfz17_0 := blk_frozen BK515.out 0
        have hfz17_1 := blk_frozen BK515.out 1
        have hfz17_2 := blk_frozen BK515.out 2
        have hfz17_3 := blk_frozen BK515.out 3
        have hfz17_4 := blk_frozen BK515.out 4
        have hfz17_5 := blk_frozen BK515.out 5
        have hcz18_0 : w6.cell? ⟨gb516, 0, none⟩ = some (.int .i64 a1_0) := (blk_cell BK516.out 0).trans rfl
        have hcz18_1 : w6.cell? ⟨gb516, 1, none⟩ = some (.string a1_1) := (blk_cell BK516.out 1).trans rfl
        have hcz18_2 : w6.cell? ⟨gb516, 2, none⟩ = some (.int .i64 a1_2) := (blk_cell BK516.out 2).trans rfl
        have hcz18_3 : w6.cell? ⟨gb516, 3, none⟩ = some (.int .u64 a1_3) := (blk_cell BK516.out 3).trans rfl
        have hcz18_4 : w6.cell? ⟨gb516, 4, none⟩ = some (.slice A1_4 l1_4.length c1_4) := (blk_cell BK516.out 4).trans rfl
        have hcz18_5 : w6.cell? ⟨gb516, 5, none⟩ = some (.int .i64 a1_5) := (blk_cell BK516.out 5).trans rfl
        have hfz18_0 := blk_frozen BK516.out 0
        have hfz18_1 := blk_frozen BK516.out 1
        have hfz18_2 := blk_frozen BK516.out 2
        have hfz18_3 := blk_frozen BK516.out 3
        have hfz18_4 := blk_frozen BK516.out 4
        have hfz18_5 := blk_frozen BK516.out 5
        go_wp2
        go_meet
        case rel => exact ⟨_, (true), (by first | rfl | (simp; done) | (simp [*]; done)), H', ⟨by first | omega | exact Nat.le_refl _⟩, ⟨by (with_reducible repeat (first | refine blk_drewN ?_ _ | refine blk_drew ?_ | refine blk_alloc ?_ _)); exact BK515.out⟩, ⟨by (with_reducible repeat (first | refine blk_drewN ?_ _ | refine blk_drew ?_ | refine blk_alloc ?_ _)); exact BK516.out⟩, ⟨by repeat (first | (with_reducible first | exact HB.out | apply below_alloc | apply pw_below_drewN | apply below_drew1 | refine below_set ?_ GE515.out | refine below_set ?_ GE516.out) | exact HB.out)⟩⟩
      ·replace c11 := Bool.eq_false_iff.mpr c11
       subst c11
       have H1 : (forebearref23_Same.j0 k false ((l0_4.length : Int) != (l1_4.length : Int)) a0_0 a0_1 a0_2 a0_3 l0_4 a0_5 a1_0 a1_1 a1_2 a1_3 l1_4 a1_5) = some r := by rw [if_neg (show ¬ (false = true) by decide)] at H; exact H
       clear H
       have H := H1
       clear H1
       have H' := Aside0.mk H
       clear H
       have hnb19 := NB515_516.out
       have hnc19 := NB516_515.out
       have hcz20_0 : w6.cell? ⟨gb515, 0, none⟩ = some (.int .i64 a0_0) := (blk_cell BK515.out 0).trans rfl
       have hcz20_1 : w6.cell? ⟨gb515, 1, none⟩ = some (.string a0_1) := (blk_cell BK515.out 1).trans rfl
       have hcz20_2 : w6.cell? ⟨gb515, 2, none⟩ = some (.int .i64 a0_2) := (blk_cell BK515.out 2).trans rfl
       have hcz20_3 : w6.cell? ⟨gb515, 3, none⟩ = some (.int .u64 a0_3) := (blk_cell BK515.out 3).trans rfl
       have hcz20_4 : w6.cell? ⟨gb515, 4, none⟩ = some (.slice A0_4 l0_4.length c0_4) := (blk_cell BK515.out 4).trans rfl
       have hcz20_5 : w6.cell? ⟨gb515, 5, none⟩ = some (.int .i64 a0_5) := (blk_cell BK515.out 5).trans rfl
       have hfz20_0 := blk_frozen BK515.out 0
       have hfz20_1 := blk_frozen BK515.out 1
       have hfz20_2 := blk_frozen BK515.out 2
       have hfz20_3 := blk_frozen BK515.out 3
       have hfz20_4 := blk_frozen BK515.out 4
       have hfz20_5 := blk_frozen BK515.out 5
       have hcz21_0 : w6.cell? ⟨gb516, 0, none⟩ = some (.int .i64 a1_0) := (blk_cell BK516.out 0).trans rfl
       have hcz21_1 : w6.cell? ⟨gb516, 1, none⟩ = some (.string a1_1) := (blk_cell BK516.out 1).trans rfl
       have hcz21_2 : w6.cell? ⟨gb516, 2, none⟩ = some (.int .i64 a1_2) := (blk_cell BK516.out 2).trans rfl
       have hcz21_3 : w6.cell? ⟨gb516, 3, none⟩ = some (.int .u64 a1_3) := (blk_cell BK516.out 3).trans rfl
       have hcz21_4 : w6.cell? ⟨gb516, 4, none⟩ = some (.slice A1_4 l1_4.length c1_4) := (blk_cell BK516.out 4).trans rfl
       have hcz21_5 : w6.cell? ⟨gb516, 5, none⟩ = some (.int .i64 a1_5) := (blk_cell BK516.out 5).trans rfl
       have hfz21_0 := blk_frozen BK516.out 0
       have hfz21_1 := blk_frozen BK516.out 1
       have hfz21_2 := blk_frozen BK516.out 2
       have hfz21_3 := blk_frozen BK516.out 3
       have hfz21_4 := blk_frozen BK516.out 4
       have hfz21_5 := blk_frozen BK516.out 5
       go_wp2
       go_meet
       case rel => exact ⟨_, (((l0_4.length : Int) != (l1_4.length : Int))), (by first | rfl | (simp; done) | (simp [*]; done)), H', ⟨by first | omega | exact Nat.le_refl _⟩, ⟨by (with_reducible repeat (first | refine blk_drewN ?_ _ | refine blk_drew ?_ | refine blk_alloc ?_ _)); exact BK515.out⟩, ⟨by (with_reducible repeat (first | refine blk_drewN ?_ _ | refine blk_drew ?_ | refine blk_alloc ?_ _)); exact BK516.out⟩, ⟨by repeat (first | (with_reducible first | exact HB.out | apply below_alloc | apply pw_below_drewN | apply below_drew1 | refine below_set ?_ GE515.out | refine below_set ?_ GE516.out) | exact HB.out)⟩⟩
     ·rw [if_neg c10] at H
      have c10b0 : (a0_3 == a1_3) = false := beq_eq_false_iff_ne.mpr c10
      have c10b1 : (a0_3 != a1_3) = true := bne_iff_ne.mpr c10
      have H' := Aside0.mk H
      clear H
      have hnb22 := NB515_516.out
      have hnc22 := NB516_515.out
      have hcz23_0 : w6.cell? ⟨gb515, 0, none⟩ = some (.int .i64 a0_0) := (blk_cell BK515.out 0).trans rfl
      have hcz23_1 : w6.cell? ⟨gb515, 1, none⟩ = some (.string a0_1) := (blk_cell BK515.out 1).trans rfl
      have hcz23_2 : w6.cell? ⟨gb515, 2, none⟩ = some (.int .i64 a0_2) := (blk_cell BK515.out 2).trans rfl
      have hcz23_3 : w6.cell? ⟨gb515, 3, none⟩ = some (.int .u64 a0_3) := (blk_cell BK515.out 3).trans rfl
      have hcz23_4 : w6.cell? ⟨gb515, 4, none⟩ = some (.slice A0_4 l0_4.length c0_4) := (blk_cell BK515.out 4).trans rfl
      have hcz23_5 : w6.cell? ⟨gb515, 5, none⟩ = some (.int .i64 a0_5) := (blk_cell BK515.out 5).trans rfl
      have hfz23_0 := blk_frozen BK515.out 0
      have hfz23_1 := blk_frozen BK515.out 1
      have hfz23_2 := blk_frozen BK515.out 2
      have hfz23_3 := blk_frozen BK515.out 3
      have hfz23_4 := blk_frozen BK515.out 4
      have hfz23_5 := blk_frozen BK515.out 5
      have hcz24_0 : w6.cell? ⟨gb516, 0, none⟩ = some (.int .i64 a1_0) := (blk_cell BK516.out 0).trans rfl
      have hcz24_1 : w6.cell? ⟨gb516, 1, none⟩ = some (.string a1_1) := (blk_cell BK516.out 1).trans rfl
      have hcz24_2 : w6.cell? ⟨gb516, 2, none⟩ = some (.int .i64 a1_2) := (blk_cell BK516.out 2).trans rfl
      have hcz24_3 : w6.cell? ⟨gb516, 3, none⟩ = some (.int .u64 a1_3) := (blk_cell BK516.out 3).trans rfl
      have hcz24_4 : w6.cell? ⟨gb516, 4, none⟩ = some (.slice A1_4 l1_4.length c1_4) := (blk_cell BK516.out 4).trans rfl
      have hcz24_5 : w6.cell? ⟨gb516, 5, none⟩ = some (.int .i64 a1_5) := (blk_cell BK516.out 5).trans rfl
      have hfz24_0 := blk_frozen BK516.out 0
      have hfz24_1 := blk_frozen BK516.out 1
      have hfz24_2 := blk_frozen BK516.out 2
      have hfz24_3 := blk_frozen BK516.out 3
      have hfz24_4 := blk_frozen BK516.out 4
      have hfz24_5 := blk_frozen BK516.out 5
      go_wp2
      go_meet
      case rel => exact ⟨_, (true), (by first | rfl | (simp; done) | (simp [*]; done)), H', ⟨by first | omega | exact Nat.le_refl _⟩, ⟨by (with_reducible repeat (first | refine blk_drewN ?_ _ | refine blk_drew ?_ | refine blk_alloc ?_ _)); exact BK515.out⟩, ⟨by (with_reducible repeat (first | refine blk_drewN ?_ _ | refine blk_drew ?_ | refine blk_alloc ?_ _)); exact BK516.out⟩, ⟨by repeat (first | (with_reducible first | exact HB.out | apply below_alloc | apply pw_below_drewN | apply below_drew1 | refine below_set ?_ GE515.out | refine below_set ?_ GE516.out) | exact HB.out)⟩⟩
    ·rw [if_neg c9] at H
     have c9b0 : (a0_2 == a1_2) = false := beq_eq_false_iff_ne.mpr c9
     have c9b1 : (a0_2 != a1_2) = true := bne_iff_ne.mpr c9
     have H' := Aside0.mk H
     clear H
     have hnb25 := NB515_516.out
     have hnc25 := NB516_515.out
     have hcz26_0 : w6.cell? ⟨gb515, 0, none⟩ = some (.int .i64 a0_0) := (blk_cell BK515.out 0).trans rfl
     have hcz26_1 : w6.cell? ⟨gb515, 1, none⟩ = some (.string a0_1) := (blk_cell BK515.out 1).trans rfl
     have hcz26_2 : w6.cell? ⟨gb515, 2, none⟩ = some (.int .i64 a0_2) := (blk_cell BK515.out 2).trans rfl
     have hcz26_3 : w6.cell? ⟨gb515, 3, none⟩ = some (.int .u64 a0_3) := (blk_cell BK515.out 3).trans rfl
     have hcz26_4 : w6.cell? ⟨gb515, 4, none⟩ = some (.slice A0_4 l0_4.length c0_4) := (blk_cell BK515.out 4).trans rfl
     have hcz26_5 : w6.cell? ⟨gb515, 5, none⟩ = some (.int .i64 a0_5) := (blk_cell BK515.out 5).trans rfl
     have hfz26_0 := blk_frozen BK515.out 0
     have hfz26_1 := blk_frozen BK515.out 1
     have hfz26_2 := blk_frozen BK515.out 2
     have hfz26_3 := blk_frozen BK515.out 3
     have hfz26_4 := blk_frozen BK515.out 4
     have hfz26_5 := blk_frozen BK515.out 5
     have hcz27_0 : w6.cell? ⟨gb516, 0, none⟩ = some (.int .i64 a1_0) := (blk_cell BK516.out 0).trans rfl
     have hcz27_1 : w6.cell? ⟨gb516, 1, none⟩ = some (.string a1_1) := (blk_cell BK516.out 1).trans rfl
     have hcz27_2 : w6.cell? ⟨gb516, 2, none⟩ = some (.int .i64 a1_2) := (blk_cell BK516.out 2).trans rfl
     have hcz27_3 : w6.cell? ⟨gb516, 3, none⟩ = some (.int .u64 a1_3) := (blk_cell BK516.out 3).trans rfl
     have hcz27_4 : w6.cell? ⟨gb516, 4, none⟩ = some (.slice A1_4 l1_4.length c1_4) := (blk_cell BK516.out 4).trans rfl
     have hcz27_5 : w6.cell? ⟨gb516, 5, none⟩ = some (.int .i64 a1_5) := (blk_cell BK516.out 5).trans rfl
     have hfz27_0 := blk_frozen BK516.out 0
     have hfz27_1 := blk_frozen BK516.out 1
     have hfz27_2 := blk_frozen BK516.out 2
     have hfz27_3 := blk_frozen BK516.out 3
     have hfz27_4 := blk_frozen BK516.out 4
     have hfz27_5 := blk_frozen BK516.out 5
     go_wp2
     go_meet
     case rel => exact ⟨_, (true), (by first | rfl | (simp; done) | (simp [*]; done)), H', ⟨by first | omega | exact Nat.le_refl _⟩, ⟨by (with_reducible repeat (first | refine blk_drewN ?_ _ | refine blk_drew ?_ | refine blk_alloc ?_ _)); exact BK515.out⟩, ⟨by (with_reducible repeat (first | refine blk_drewN ?_ _ | refine blk_drew ?_ | refine blk_alloc ?_ _)); exact BK516.out⟩, ⟨by repeat (first | (with_reducible first | exact HB.out | apply below_alloc | apply pw_below_drewN | apply below_drew1 | refine below_set ?_ GE515.out | refine below_set ?_ GE516.out) | exact HB.out)⟩⟩
   ·rw [if_neg c8] at H
    have c8b0 : (a0_1.toList == a1_1.toList) = false := beq_eq_false_iff_ne.mpr c8
    have c8b1 : (a0_1.toList != a1_1.toList) = true := bne_iff_ne.mpr c8
    have H' := Aside0.mk H
    clear H
    have hnb28 := NB515_516.out
    have hnc28 := NB516_515.out
    have hcz29_0 : w6.cell? ⟨gb515, 0, none⟩ = some (.int .i64 a0_0) := (blk_cell BK515.out 0).trans rfl
    have hcz29_1 : w6.cell? ⟨gb515, 1, none⟩ = some (.string a0_1) := (blk_cell BK515.out 1).trans rfl
    have hcz29_2 : w6.cell? ⟨gb515, 2, none⟩ = some (.int .i64 a0_2) := (blk_cell BK515.out 2).trans rfl
    have hcz29_3 : w6.cell? ⟨gb515, 3, none⟩ = some (.int .u64 a0_3) := (blk_cell BK515.out 3).trans rfl
    have hcz29_4 : w6.cell? ⟨gb515, 4, none⟩ = some (.slice A0_4 l0_4.length c0_4) := (blk_cell BK515.out 4).trans rfl
    have hcz29_5 : w6.cell? ⟨gb515, 5, none⟩ = some (.int .i64 a0_5) := (blk_cell BK515.out 5).trans rfl
    have hfz29_0 := blk_frozen BK515.out 0
    have hfz29_1 := blk_frozen BK515.out 1
    have hfz29_2 := blk_frozen BK515.out 2
    have hfz29_3 := blk_frozen BK515.out 3
    have hfz29_4 := blk_frozen BK515.out 4
    have hfz29_5 := blk_frozen BK515.out 5
    have hcz30_0 : w6.cell? ⟨gb516, 0, none⟩ = some (.int .i64 a1_0) := (blk_cell BK516.out 0).trans rfl
    have hcz30_1 : w6.cell? ⟨gb516, 1, none⟩ = some (.string a1_1) := (blk_cell BK516.out 1).trans rfl
    have hcz30_2 : w6.cell? ⟨gb516, 2, none⟩ = some (.int .i64 a1_2) := (blk_cell BK516.out 2).trans rfl
    have hcz30_3 : w6.cell? ⟨gb516, 3, none⟩ = some (.int .u64 a1_3) := (blk_cell BK516.out 3).trans rfl
    have hcz30_4 : w6.cell? ⟨gb516, 4, none⟩ = some (.slice A1_4 l1_4.length c1_4) := (blk_cell BK516.out 4).trans rfl
    have hcz30_5 : w6.cell? ⟨gb516, 5, none⟩ = some (.int .i64 a1_5) := (blk_cell BK516.out 5).trans rfl
    have hfz30_0 := blk_frozen BK516.out 0
    have hfz30_1 := blk_frozen BK516.out 1
    have hfz30_2 := blk_frozen BK516.out 2
    have hfz30_3 := blk_frozen BK516.out 3
    have hfz30_4 := blk_frozen BK516.out 4
    have hfz30_5 := blk_frozen BK516.out 5
    go_wp2
    go_meet
    case rel => exact ⟨_, (true), (by first | rfl | (simp; done) | (simp [*]; done)), H', ⟨by first | omega | exact Nat.le_refl _⟩, ⟨by (with_reducible repeat (first | refine blk_drewN ?_ _ | refine blk_drew ?_ | refine blk_alloc ?_ _)); exact BK515.out⟩, ⟨by (with_reducible repeat (first | refine blk_drewN ?_ _ | refine blk_drew ?_ | refine blk_alloc ?_ _)); exact BK516.out⟩, ⟨by repeat (first | (with_reducible first | exact HB.out | apply below_alloc | apply pw_below_drewN | apply below_drew1 | refine below_set ?_ GE515.out | refine below_set ?_ GE516.out) | exact HB.out)⟩⟩
  ·rw [if_neg c7] at H
   have c7b0 : (a0_0 == a1_0) = false := beq_eq_false_iff_ne.mpr c7
   have c7b1 : (a0_0 != a1_0) = true := bne_iff_ne.mpr c7
   (first | rw [c7b0] | (simp only [i64_w, i32_w]; rw [c7b0]) | skip)
   have H' := Aside0.mk H
   clear H
   have hnb31 := NB515_516.out
   have hnc31 := NB516_515.out
   have hcz32_0 : w6.cell? ⟨gb515, 0, none⟩ = some (.int .i64 a0_0) := (blk_cell BK515.out 0).trans rfl
   have hcz32_1 : w6.cell? ⟨gb515, 1, none⟩ = some (.string a0_1) := (blk_cell BK515.out 1).trans rfl
   have hcz32_2 : w6.cell? ⟨gb515, 2, none⟩ = some (.int .i64 a0_2) := (blk_cell BK515.out 2).trans rfl
   have hcz32_3 : w6.cell? ⟨gb515, 3, none⟩ = some (.int .u64 a0_3) := (blk_cell BK515.out 3).trans rfl
   have hcz32_4 : w6.cell? ⟨gb515, 4, none⟩ = some (.slice A0_4 l0_4.length c0_4) := (blk_cell BK515.out 4).trans rfl
   have hcz32_5 : w6.cell? ⟨gb515, 5, none⟩ = some (.int .i64 a0_5) := (blk_cell BK515.out 5).trans rfl
   have hfz32_0 := blk_frozen BK515.out 0
   have hfz32_1 := blk_frozen BK515.out 1
   have hfz32_2 := blk_frozen BK515.out 2
   have hfz32_3 := blk_frozen BK515.out 3
   have hfz32_4 := blk_frozen BK515.out 4
   have hfz32_5 := blk_frozen BK515.out 5
   have hcz33_0 : w6.cell? ⟨gb516, 0, none⟩ = some (.int .i64 a1_0) := (blk_cell BK516.out 0).trans rfl
   have hcz33_1 : w6.cell? ⟨gb516, 1, none⟩ = some (.string a1_1) := (blk_cell BK516.out 1).trans rfl
   have hcz33_2 : w6.cell? ⟨gb516, 2, none⟩ = some (.int .i64 a1_2) := (blk_cell BK516.out 2).trans rfl
   have hcz33_3 : w6.cell? ⟨gb516, 3, none⟩ = some (.int .u64 a1_3) := (blk_cell BK516.out 3).trans rfl
   have hcz33_4 : w6.cell? ⟨gb516, 4, none⟩ = some (.slice A1_4 l1_4.length c1_4) := (blk_cell BK516.out 4).trans rfl
   have hcz33_5 : w6.cell? ⟨gb516, 5, none⟩ = some (.int .i64 a1_5) := (blk_cell BK516.out 5).trans rfl
   have hfz33_0 := blk_frozen BK516.out 0
   have hfz33_1 := blk_frozen BK516.out 1
   have hfz33_2 := blk_frozen BK516.out 2
   have hfz33_3 := blk_frozen BK516.out 3
   have hfz33_4 := blk_frozen BK516.out 4
   have hfz33_5 := blk_frozen BK516.out 5
   go_wp2
   go_meet
   case rel => exact ⟨_, (true), (by first | rfl | (simp; done) | (simp [*]; done)), H', ⟨by first | omega | exact Nat.le_refl _⟩, ⟨by (with_reducible repeat (first | refine blk_drewN ?_ _ | refine blk_drew ?_ | refine blk_alloc ?_ _)); exact BK515.out⟩, ⟨by (with_reducible repeat (first | refine blk_drewN ?_ _ | refine blk_drew ?_ | refine blk_alloc ?_ _)); exact BK516.out⟩, ⟨by repeat (first | (with_reducible first | exact HB.out | apply below_alloc | apply pw_below_drewN | apply below_drew1 | refine below_set ?_ GE515.out | refine below_set ?_ GE516.out) | exact HB.out)⟩⟩
 case rest =>
  clear HC4
  obtain ⟨kq, x52_3, rfl, HA, HJ3, BK515, BK516, HB⟩ := hcut
  cases kq with
  | zero => exact absurd HA.out (by simp [forebearref23_Same.j0])
  | succ kj3 =>
   have H := HA.out
   clear HA
   simp only [forebearref23_Same.j0] at H
   by_cases c34 : x52_3 = true
   ·subst c34
    have H1 : (some false) = some r := by rw [if_pos rfl] at H; exact H
    clear H
    have H := H1
    clear H1
    obtain rfl := Option.some.inj H
    go_wp2
    go_ret
    exact ⟨by first | rfl | (simp [errW_none, errW_some] <;> rfl) | (simp [*, errW_none, errW_some] <;> rfl), by repeat (first | (with_reducible first | exact HB.out | apply below_alloc | apply pw_below_drewN | apply below_drew1 | refine below_set ?_ GE515.out | refine below_set ?_ GE516.out) | exact HB.out)⟩
   ·replace c34 := Bool.eq_false_iff.mpr c34
    subst c34
    have H1 : (forebearref23_Same.l0 kj3 a2 0 a0_0 a0_1 a0_2 a0_3 l0_4 a0_5 a1_0 a1_1 a1_2 a1_3 l1_4 a1_5) = some r := by rw [if_neg (show ¬ (false = true) by decide)] at H; exact H
    clear H
    have H := H1
    clear H1
    have H' := Aside0.mk H
    clear H
    go_wp2
    go_loopg [7] kj3 (fun kq v7 w' => ∃ (x7_2 : Int), v7 = .int .i64 x7_2 ∧ Aside0 (forebearref23_Same.l0 kq a2 x7_2 a0_0 a0_1 a0_2 a0_3 l0_4 a0_5 a1_0 a1_1 a1_2 a1_3 l1_4 a1_5 = some r) ∧ Aside0 (kq ≤ kj3) ∧ Aside0 (w'.heap[gb515]? = some (.cells #[.int .i64 a0_0, .string a0_1, .int .i64 a0_2, .int .u64 a0_3, (.slice A0_4 l0_4.length c0_4), .int .i64 a0_5] 54 (0, 0))) ∧ Aside0 (w'.heap[gb516]? = some (.cells #[.int .i64 a1_0, .string a1_1, .int .i64 a1_2, .int .u64 a1_3, (.slice A1_4 l1_4.length c1_4), .int .i64 a1_5] 54 (0, 0))) ∧ Aside0 (Below w.heap.size w w'))
    case atStart => exact ⟨(0), (by first | rfl | (simp; done) | (simp [*]; done)), H', ⟨Nat.le_refl _⟩, ⟨by (with_reducible repeat (first | refine blk_drewN ?_ _ | refine blk_drew ?_ | refine blk_alloc ?_ _)); exact BK515.out⟩, ⟨by (with_reducible repeat (first | refine blk_drewN ?_ _ | refine blk_drew ?_ | refine blk_alloc ?_ _)); exact BK516.out⟩, ⟨by repeat (first | (with_reducible first | exact HB.out | apply below_alloc | apply pw_below_drewN | apply below_drew1 | refine below_set ?_ GE515.out | refine below_set ?_ GE516.out) | exact HB.out)⟩⟩
    case round =>
     clear H'
     obtain ⟨x7_2, rfl, HA, HK2, BK515, BK516, HB⟩ := hrel
     cases gk with
     | zero => exact absurd HA.out (by simp [forebearref23_Same.l0])
     | succ k2 =>
      have H := HA.out
      clear HA
      simp only [forebearref23_Same.l0] at H
      by_cases c35 : x7_2 < (l0_4.length : Int)
      ·rw [if_pos c35] at H
       have c35b0 : decide (x7_2 < (l0_4.length : Int)) = true := decide_eq_true c35
       clear c35
       by_cases c36 : 0 ≤ x7_2
       ·rw [if_pos c36] at H
        have c36b0 : decide (0 ≤ x7_2) = true := decide_eq_true c36
        clear c36
        by_cases c37 : x7_2 < (l1_4.length : Int)
        ·rw [if_pos c37] at H
         have c37b0 : decide (x7_2 < (l1_4.length : Int)) = true := decide_eq_true c37
         clear c37
         replace H := Option.bind_eq_some_iff.mp H
         obtain ⟨t519, A380, H⟩ := H
         replace H : (if t519 = true then (forebearref23_Same.l0 k2 a2 (wrap64 (x7_2 + 1)) a0_0 a0_1 a0_2 a0_3 l0_4 a0_5 a1_0 a1_1 a1_2 a1_3 l1_4 a1_5) else (some false)) = some r := H
         have A38 := Aside0.mk A380
         clear A380
         by_cases c39 : t519 = true
         ·subst c39
          have H1 : (forebearref23_Same.l0 k2 a2 (wrap64 (x7_2 + 1)) a0_0 a0_1 a0_2 a0_3 l0_4 a0_5 a1_0 a1_1 a1_2 a1_3 l1_4 a1_5) = some r := by rw [if_pos rfl] at H; exact H
          clear H
          have H := H1
          clear H1
          have H' := Aside0.mk H
          clear H
          have hnb40 := NB515_516.out
          have hnc40 := NB516_515.out
          have hcz41_0 : wr.cell? ⟨gb515, 0, none⟩ = some (.int .i64 a0_0) := (blk_cell BK515.out 0).trans rfl
          have hcz41_1 : wr.cell? ⟨gb515, 1, none⟩ = some (.string a0_1) := (blk_cell BK515.out 1).trans rfl
          have hcz41_2 : wr.cell? ⟨gb515, 2, none⟩ = some (.int .i64 a0_2) := (blk_cell BK515.out 2).trans rfl
          have hcz41_3 : wr.cell? ⟨gb515, 3, none⟩ = some (.int .u64 a0_3) := (blk_cell BK515.out 3).trans rfl
          have hcz41_4 : wr.cell? ⟨gb515, 4, none⟩ = some (.slice A0_4 l0_4.length c0_4) := (blk_cell BK515.out 4).trans rfl
          have hcz41_5 : wr.cell? ⟨gb515, 5, none⟩ = some (.int .i64 a0_5) := (blk_cell BK515.out 5).trans rfl
          have hfz41_0 := blk_frozen BK515.out 0
          have hfz41_1 := blk_frozen BK515.out 1
          have hfz41_2 := blk_frozen BK515.out 2
          have hfz41_3 := blk_frozen BK515.out 3
          have hfz41_4 := blk_frozen BK515.out 4
          have hfz41_5 := blk_frozen BK515.out 5
          try go_wp2
          have n0_ := Aside0.mk (blk_drew BK515.out)
          have n1_ := Aside0.mk (blk_drew BK516.out)
          have n2_ := Aside0.mk (below_drew1 HB.out)
          clear BK515
          clear BK516
          clear HB
          have BK515 := n0_
          have BK516 := n1_
          have HB := n2_
          clear n0_ n1_ n2_
          have p517 : 0 ≤ (x7_2 : Int) := of_decide_eq_true (by first | (with_reducible assumption) | assumption)
          have q517 : x7_2 < (l0_4.length : Int) := of_decide_eq_true (by first | (with_reducible assumption) | assumption)
          obtain ⟨ad517, A517_4, c517_4, e517, hx517_0, hx517_1, hx517_2, hx517_3, hx517_4, hx517_5, hl517_4, hi517_4⟩ := at_T54 HR0_4.out x7_2 p517 q517
          have hw517_5 := hx517_5
          have hw517_4 := hx517_4
          have hw517_3 := hx517_3
          have hw517_2 := hx517_2
          have hw517_1 := hx517_1
          have hw517_0 := hx517_0
          cases e517
          replace hx517_0 := (HB.out.cell (World.block_lt_of_cell? w _ hx517_0)).trans hx517_0
          replace hx517_1 := (HB.out.cell (World.block_lt_of_cell? w _ hx517_1)).trans hx517_1
          replace hx517_2 := (HB.out.cell (World.block_lt_of_cell? w _ hx517_2)).trans hx517_2
          replace hx517_3 := (HB.out.cell (World.block_lt_of_cell? w _ hx517_3)).trans hx517_3
          replace hx517_4 := (HB.out.cell (World.block_lt_of_cell? w _ hx517_4)).trans hx517_4
          replace hx517_5 := (HB.out.cell (World.block_lt_of_cell? w _ hx517_5)).trans hx517_5
          have HR517_4 := Aside0.mk hi517_4
          have HC517_4 := Aside0.mk hl517_4
          clear hi517_4 hl517_4
          replace p517 := eq_true p517
          replace q517 := eq_true q517
          have p518 : 0 ≤ (x7_2 : Int) := of_decide_eq_true (by first | (with_reducible assumption) | assumption)
          have q518 : x7_2 < (l1_4.length : Int) := of_decide_eq_true (by first | (with_reducible assumption) | assumption)
          obtain ⟨ad518, A518_4, c518_4, e518, hx518_0, hx518_1, hx518_2, hx518_3, hx518_4, hx518_5, hl518_4, hi518_4⟩ := at_T54 HR1_4.out x7_2 p518 q518
          have hw518_5 := hx518_5
          have hw518_4 := hx518_4
          have hw518_3 := hx518_3
          have hw518_2 := hx518_2
          have hw518_1 := hx518_1
          have hw518_0 := hx518_0
          cases e518
          replace hx518_0 := (HB.out.cell (World.block_lt_of_cell? w _ hx518_0)).trans hx518_0
          replace hx518_1 := (HB.out.cell (World.block_lt_of_cell? w _ hx518_1)).trans hx518_1
          replace hx518_2 := (HB.out.cell (World.block_lt_of_cell? w _ hx518_2)).trans hx518_2
          replace hx518_3 := (HB.out.cell (World.block_lt_of_cell? w _ hx518_3)).trans hx518_3
          replace hx518_4 := (HB.out.cell (World.block_lt_of_cell? w _ hx518_4)).trans hx518_4
          replace hx518_5 := (HB.out.cell (World.block_lt_of_cell? w _ hx518_5)).trans hx518_5
          have HR518_4 := Aside0.mk hi518_4
          have HC518_4 := Aside0.mk hl518_4
          clear hi518_4 hl518_4
          replace p518 := eq_true p518
          replace q518 := eq_true q518
          refine start_ (n := 13) (S := fun w' => w'.cell? ⟨gb515, 0, none⟩ = some (.int .i64 a0_0) ∧ w'.cell? ⟨gb515, 1, none⟩ = some (.string a0_1) ∧ w'.cell? ⟨gb515, 2, none⟩ = some (.int .i64 a0_2) ∧ w'.cell? ⟨gb515, 3, none⟩ = some (.int .u64 a0_3) ∧ w'.cell? ⟨gb515, 4, none⟩ = some (.slice (some ad517) l0_4.length c0_4) ∧ w'.cell? ⟨gb515, 5, none⟩ = some (.int .i64 a0_5) ∧ w'.cell? ⟨gb516, 0, none⟩ = some (.int .i64 a1_0) ∧ w'.cell? ⟨gb516, 1, none⟩ = some (.string a1_1) ∧ w'.cell? ⟨gb516, 2, none⟩ = some (.int .i64 a1_2) ∧ w'.cell? ⟨gb516, 3, none⟩ = some (.int .u64 a1_3) ∧ w'.cell? ⟨gb516, 4, none⟩ = some (.slice (some ad518) l1_4.length c1_4) ∧ w'.cell? ⟨gb516, 5, none⟩ = some (.int .i64 a1_5) ∧ w'.cell? (ad517.add ((x7_2).toNat * 6)) = some (.int .i64 ((rd_T54 l0_4 x7_2).f0)) ∧ w'.cell? ⟨(ad517.add ((x7_2).toNat * 6)).block, (ad517.add ((x7_2).toNat * 6)).off + 1, none⟩ = some (.string ((rd_T54 l0_4 x7_2).f1)) ∧ w'.cell? ⟨(ad517.add ((x7_2).toNat * 6)).block, (ad517.add ((x7_2).toNat * 6)).off + 2, none⟩ = some (.int .i64 ((rd_T54 l0_4 x7_2).f2)) ∧ w'.cell? ⟨(ad517.add ((x7_2).toNat * 6)).block, (ad517.add ((x7_2).toNat * 6)).off + 3, none⟩ = some (.int .u64 ((rd_T54 l0_4 x7_2).f3)) ∧ w'.cell? ⟨(ad517.add ((x7_2).toNat * 6)).block, (ad517.add ((x7_2).toNat * 6)).off + 4, none⟩ = some (.slice A517_4 ((rd_T54 l0_4 x7_2).f4).length c517_4) ∧ w'.cell? ⟨(ad517.add ((x7_2).toNat * 6)).block, (ad517.add ((x7_2).toNat * 6)).off + 5, none⟩ = some (.int .i64 ((rd_T54 l0_4 x7_2).f5)) ∧ w'.cell? (ad518.add ((x7_2).toNat * 6)) = some (.int .i64 ((rd_T54 l1_4 x7_2).f0)) ∧ w'.cell? ⟨(ad518.add ((x7_2).toNat * 6)).block, (ad518.add ((x7_2).toNat * 6)).off + 1, none⟩ = some (.string ((rd_T54 l1_4 x7_2).f1)) ∧ w'.cell? ⟨(ad518.add ((x7_2).toNat * 6)).block, (ad518.add ((x7_2).toNat * 6)).off + 2, none⟩ = some (.int .i64 ((rd_T54 l1_4 x7_2).f2)) ∧ w'.cell? ⟨(ad518.add ((x7_2).toNat * 6)).block, (ad518.add ((x7_2).toNat * 6)).off + 3, none⟩ = some (.int .u64 ((rd_T54 l1_4 x7_2).f3)) ∧ w'.cell? ⟨(ad518.add ((x7_2).toNat * 6)).block, (ad518.add ((x7_2).toNat * 6)).off + 4, none⟩ = some (.slice A518_4 ((rd_T54 l1_4 x7_2).f4).length c518_4) ∧ w'.cell? ⟨(ad518.add ((x7_2).toNat * 6)).block, (ad518.add ((x7_2).toNat * 6)).off + 5, none⟩ = some (.int .i64 ((rd_T54 l1_4 x7_2).f5))) (ds := []) #[false, false, false, false, false, false, false, false, false, false, false, false, false] (by kernel_rfl) rfl rfl ⟨(blk_cell BK515.out 0).trans rfl, (blk_cell BK515.out 1).trans rfl, (blk_cell BK515.out 2).trans rfl, (blk_cell BK515.out 3).trans rfl, (blk_cell BK515.out 4).trans rfl, (blk_cell BK515.out 5).trans rfl, (blk_cell BK516.out 0).trans rfl, (blk_cell BK516.out 1).trans rfl, (blk_cell BK516.out 2).trans rfl, (blk_cell BK516.out 3).trans rfl, (blk_cell BK516.out 4).trans rfl, (blk_cell BK516.out 5).trans rfl, ((HB.out.cell (World.block_lt_of_cell? w _ hw517_0)).trans hw517_0), ((HB.out.cell (World.block_lt_of_cell? w _ hw517_1)).trans hw517_1), ((HB.out.cell (World.block_lt_of_cell? w _ hw517_2)).trans hw517_2), ((HB.out.cell (World.block_lt_of_cell? w _ hw517_3)).trans hw517_3), ((HB.out.cell (World.block_lt_of_cell? w _ hw517_4)).trans hw517_4), ((HB.out.cell (World.block_lt_of_cell? w _ hw517_5)).trans hw517_5), ((HB.out.cell (World.block_lt_of_cell? w _ hw518_0)).trans hw518_0), ((HB.out.cell (World.block_lt_of_cell? w _ hw518_1)).trans hw518_1), ((HB.out.cell (World.block_lt_of_cell? w _ hw518_2)).trans hw518_2), ((HB.out.cell (World.block_lt_of_cell? w _ hw518_3)).trans hw518_3), ((HB.out.cell (World.block_lt_of_cell? w _ hw518_4)).trans hw518_4), ((HB.out.cell (World.block_lt_of_cell? w _ hw518_5)).trans hw518_5)⟩ (fun hHeld => ?_); refine with_tabW forebearref23_Same.tab6 forebearref23_Same.bits6 (fun HT_ HW_ => ?_)
          generalize wr.drew = w42 at BK515 BK516 HB HR517_4 HR518_4 hx517_0 hx517_1 hx517_2 hx517_3 hx517_4 hx517_5 hx518_0 hx518_1 hx518_2 hx518_3 hx518_4 hx518_5 hHeld ⊢
          refine pure_ (i := 0) (N := some 60) (v := ?_) (a' := ?_) #[true, false, false, false, false, false, false, false, false, false, false, false, false] rfl rfl (any_of HT_.out (by kernel_rfl)) (fun _ _ _ h => h) (Or.inl ⟨by rfl, ?_⟩) ?_ ?_
          rotate_left
          ·intro w'
           go_simp
           with_reducible rfl
          rotate_left
          ·simp only [Act.put, List.setIfInBounds_toArray, List.set_cons_zero, List.set_cons_succ, i64_w, i32_w]
           rfl
          refine pure_ (i := 2) (N := some 62) (v := ?_) (a' := ?_) #[true, false, true, false, false, false, false, false, false, false, false, false, false] rfl rfl (any_of HT_.out (by kernel_rfl)) (fun _ _ _ h => h) (Or.inl ⟨by rfl, ?_⟩) ?_ ?_
          rotate_left
          ·intro w'
           go_simp
           with_reducible rfl
          rotate_left
          ·simp only [Act.put, List.setIfInBounds_toArray, List.set_cons_zero, List.set_cons_succ, i64_w, i32_w]
           rfl
          refine pure_ (i := 5) (N := some 65) (v := ?_) (a' := ?_) #[true, false, true, false, false, true, false, false, false, false, false, false, false] rfl rfl (any_of HT_.out (by kernel_rfl)) (fun _ _ _ h => h) (Or.inl ⟨by rfl, ?_⟩) ?_ ?_
          rotate_left
          ·intro w'
           go_simp
           with_reducible rfl
          rotate_left
          ·simp only [Act.put, List.setIfInBounds_toArray, List.set_cons_zero, List.set_cons_succ, i64_w, i32_w]
           rfl
          refine pure_ (i := 7) (N := some 67) (v := ?_) (a' := ?_) #[true, false, true, false, false, true, false, true, false, false, false, false, false] rfl rfl (any_of HT_.out (by kernel_rfl)) (fun _ _ _ h => h) (Or.inl ⟨by rfl, ?_⟩) ?_ ?_
          rotate_left
          ·intro w'
           go_simp
           with_reducible rfl
          rotate_left
          ·simp only [Act.put, List.setIfInBounds_toArray, List.set_cons_zero, List.set_cons_succ, i64_w, i32_w]
           rfl
          refine pure_ (i := 10) (N := some 70) (v := ?_) (a' := ?_) #[true, false, true, false, false, true, false, true, false, false, true, false, false] rfl rfl (any_of HT_.out (by kernel_rfl)) (fun _ _ _ h => h) (Or.inl ⟨by rfl, ?_⟩) ?_ ?_
          rotate_left
          ·intro w'
           go_simp
           with_reducible rfl
          rotate_left
          ·simp only [Act.put, List.setIfInBounds_toArray, List.set_cons_zero, List.set_cons_succ, i64_w, i32_w]
           rfl
          refine take_ (i := 1) (N := some 61) (v := ?_) (a' := ?_) #[true, true, true, false, false, true, false, true, false, false, true, false, false] rfl rfl (take_ofW HT_.out HW_.out (by kernel_rfl)) (fun _ _ _ h => h) (Or.inl ⟨by rfl, ?_⟩) hHeld ?_ ?_
          rotate_left
          ·rintro w' ⟨s0, s1, s2, s3, s4, s5, s6, s7, s8, s9, s10, s11, s12, s13, s14, s15, s16, s17, s18, s19, s20, s21, s22, s23⟩
           go_simp
           with_reducible rfl
          rotate_left
          ·simp only [Act.put, List.setIfInBounds_toArray, List.set_cons_zero, List.set_cons_succ, i64_w, i32_w]
           rfl
          refine pure_ (i := 3) (N := some 63) (v := ?_) (a' := ?_) #[true, true, true, true, false, true, false, true, false, false, true, false, false] rfl rfl (any_of HT_.out (by kernel_rfl)) (fun _ _ _ h => h) (Or.inl ⟨by rfl, ?_⟩) ?_ ?_
          rotate_left
          ·intro w'
           go_simp
           with_reducible rfl
          rotate_left
          ·simp only [Act.put, List.setIfInBounds_toArray, List.set_cons_zero, List.set_cons_succ, i64_w, i32_w]
           rfl
          refine take_ (i := 4) (N := some 64) (v := ?_) (a' := ?_) #[true, true, true, true, true, true, false, true, false, false, true, false, false] rfl rfl (take_ofW HT_.out HW_.out (by kernel_rfl)) (fun _ _ _ h => h) (Or.inl ⟨by rfl, ?_⟩) hHeld ?_ ?_
          rotate_left
          ·rintro w' ⟨s0, s1, s2, s3, s4, s5, s6, s7, s8, s9, s10, s11, s12, s13, s14, s15, s16, s17, s18, s19, s20, s21, s22, s23⟩
           go_simp
           with_reducible rfl
          rotate_left
          ·simp only [Act.put, List.setIfInBounds_toArray, List.set_cons_zero, List.set_cons_succ, i64_w, i32_w]
           rfl
          refine take_ (i := 6) (N := some 66) (v := ?_) (a' := ?_) #[true, true, true, true, true, true, true, true, false, false, true, false, false] rfl rfl (take_ofW HT_.out HW_.out (by kernel_rfl)) (fun _ _ _ h => h) (Or.inl ⟨by rfl, ?_⟩) hHeld ?_ ?_
          rotate_left
          ·rintro w' ⟨s0, s1, s2, s3, s4, s5, s6, s7, s8, s9, s10, s11, s12, s13, s14, s15, s16, s17, s18, s19, s20, s21, s22, s23⟩
           go_simp
           with_reducible rfl
          rotate_left
          ·simp only [Act.put, List.setIfInBounds_toArray, List.set_cons_zero, List.set_cons_succ, i64_w, i32_w]
           rfl
          refine pure_ (i := 8) (N := some 68) (v := ?_) (a' := ?_) #[true, true, true, true, true, true, true, true, true, false, true, false, false] rfl rfl (any_of HT_.out (by kernel_rfl)) (fun _ _ _ h => h) (Or.inl ⟨by rfl, ?_⟩) ?_ ?_
          rotate_left
          ·intro w'
           go_simp
           with_reducible rfl
          rotate_left
          ·simp only [Act.put, List.setIfInBounds_toArray, List.set_cons_zero, List.set_cons_succ, i64_w, i32_w]
           rfl
          refine take_ (i := 9) (N := some 69) (v := ?_) (a' := ?_) #[true, true, true, true, true, true, true, true, true, true, true, false, false] rfl rfl (take_ofW HT_.out HW_.out (by kernel_rfl)) (fun _ _ _ h => h) (Or.inl ⟨by rfl, ?_⟩) hHeld ?_ ?_
          rotate_left
          ·rintro w' ⟨s0, s1, s2, s3, s4, s5, s6, s7, s8, s9, s10, s11, s12, s13, s14, s15, s16, s17, s18, s19, s20, s21, s22, s23⟩
           go_simp
           with_reducible rfl
          rotate_left
          ·simp only [Act.put, List.setIfInBounds_toArray, List.set_cons_zero, List.set_cons_succ, i64_w, i32_w]
           rfl
          refine one_ (i := 11) (N := some 71) #[true, true, true, true, true, true, true, true, true, true, true, true, false] rfl rfl (one_of HT_.out (by kernel_rfl)) (by decide) (fun K hK => ?_)
          refine goes_ Tryd.func28 (by kernel_rfl) rfl #[.agg #[.int .i64 ((rd_T54 l0_4 x7_2).f0), .string ((rd_T54 l0_4 x7_2).f1), .int .i64 ((rd_T54 l0_4 x7_2).f2), .int .u64 ((rd_T54 l0_4 x7_2).f3), .slice A517_4 ((rd_T54 l0_4 x7_2).f4).length c517_4, .int .i64 ((rd_T54 l0_4 x7_2).f5)], .agg #[.int .i64 ((rd_T54 l1_4 x7_2).f0), .string ((rd_T54 l1_4 x7_2).f1), .int .i64 ((rd_T54 l1_4 x7_2).f2), .int .u64 ((rd_T54 l1_4 x7_2).f3), .slice A518_4 ((rd_T54 l1_4 x7_2).f4).length c518_4, .int .i64 ((rd_T54 l1_4 x7_2).f5)], .bool a2] (by rfl) rfl rfl (by (try simp only [List.map_toArray, List.map_cons, List.map_nil]); first | done | rfl | (simp only [List.length_drop, List.length_take]; rfl)) ?_
          with_reducible refine (ih k2 (by have := HJ3.out; have := HK2.out; omega) ((rd_T54 l0_4 x7_2).f0) ((rd_T54 l0_4 x7_2).f1) ((rd_T54 l0_4 x7_2).f2) ((rd_T54 l0_4 x7_2).f3) _ _ ((rd_T54 l0_4 x7_2).f4) ((rd_T54 l0_4 x7_2).f5) ((rd_T54 l1_4 x7_2).f0) ((rd_T54 l1_4 x7_2).f1) ((rd_T54 l1_4 x7_2).f2) ((rd_T54 l1_4 x7_2).f3) _ _ ((rd_T54 l1_4 x7_2).f4) ((rd_T54 l1_4 x7_2).f5) a2 true _ ?side1 ?side2 ?side3 ?side4 A38.out).mono ?_
          (case side1 => repeat (first | exact (Kd.C_below HR517_4.out HB.out) | (with_reducible refine Kd.C_alloc ?_ _) | (with_reducible refine Kd.C_drewN ?_ _) | (with_reducible refine Kd.C_drew ?_)))
          (case side2 => exact HC517_4.out)
          (case side3 => repeat (first | exact (Kd.C_below HR518_4.out HB.out) | (with_reducible refine Kd.C_alloc ?_ _) | (with_reducible refine Kd.C_drewN ?_ _) | (with_reducible refine Kd.C_drew ?_)))
          (case side4 => exact HC518_4.out)
          rintro e w43 ⟨rfl, hb⟩
          refine ⟨_, rfl, ?_⟩
          have n0_ := Aside0.mk (blk_below (g := gb515) (o := .cells #[.int .i64 a0_0, .string a0_1, .int .i64 a0_2, .int .u64 a0_3, .slice (some ad517) l0_4.length c0_4, .int .i64 a0_5] 54 (0, 0)) (by (with_reducible repeat (first | refine blk_drewN ?_ _ | refine blk_drew ?_ | refine blk_alloc ?_ _)); exact BK515.out) hb)
          have n1_ := Aside0.mk (blk_below (g := gb516) (o := .cells #[.int .i64 a1_0, .string a1_1, .int .i64 a1_2, .int .u64 a1_3, .slice (some ad518) l1_4.length c1_4, .int .i64 a1_5] 54 (0, 0)) (by (with_reducible repeat (first | refine blk_drewN ?_ _ | refine blk_drew ?_ | refine blk_alloc ?_ _)); exact BK516.out) hb)
          have n2_ := Aside0.mk (below_step (by repeat (first | (with_reducible first | exact HB.out | apply below_alloc | apply pw_below_drewN | apply below_drew1 | refine below_set ?_ GE515.out | refine below_set ?_ GE516.out) | exact HB.out)) hb)
          clear BK515
          clear BK516
          clear HB
          have BK515 := n0_
          have BK516 := n1_
          have HB := n2_
          clear n0_ n1_ n2_
          (try clear hb)
          (try clear hb2)
          (try clear hk)
          (try clear hi)
          refine hK.out _ _ ⟨(blk_cell BK515.out 0).trans rfl, (blk_cell BK515.out 1).trans rfl, (blk_cell BK515.out 2).trans rfl, (blk_cell BK515.out 3).trans rfl, (blk_cell BK515.out 4).trans rfl, (blk_cell BK515.out 5).trans rfl, (blk_cell BK516.out 0).trans rfl, (blk_cell BK516.out 1).trans rfl, (blk_cell BK516.out 2).trans rfl, (blk_cell BK516.out 3).trans rfl, (blk_cell BK516.out 4).trans rfl, (blk_cell BK516.out 5).trans rfl, ((HB.out.cell (World.block_lt_of_cell? w _ hw517_0)).trans hw517_0), ((HB.out.cell (World.block_lt_of_cell? w _ hw517_1)).trans hw517_1), ((HB.out.cell (World.block_lt_of_cell? w _ hw517_2)).trans hw517_2), ((HB.out.cell (World.block_lt_of_cell? w _ hw517_3)).trans hw517_3), ((HB.out.cell (World.block_lt_of_cell? w _ hw517_4)).trans hw517_4), ((HB.out.cell (World.block_lt_of_cell? w _ hw517_5)).trans hw517_5), ((HB.out.cell (World.block_lt_of_cell? w _ hw518_0)).trans hw518_0), ((HB.out.cell (World.block_lt_of_cell? w _ hw518_1)).trans hw518_1), ((HB.out.cell (World.block_lt_of_cell? w _ hw518_2)).trans hw518_2), ((HB.out.cell (World.block_lt_of_cell? w _ hw518_3)).trans hw518_3), ((HB.out.cell (World.block_lt_of_cell? w _ hw518_4)).trans hw518_4), ((HB.out.cell (World.block_lt_of_cell? w _ hw518_5)).trans hw518_5)⟩ (fun hHeld => ?_)
          clear hK K
          refine norm_ (a' := ?_) ?_ ?_
          rotate_left
          ·show Act.put _ (some 71) _ = _
           simp only [Act.put, List.setIfInBounds_toArray, List.set_cons_zero, List.set_cons_succ, i64_w, i32_w]
           rfl
          refine pure_ (i := 12) (N := some 72) (v := ?_) (a' := ?_) #[true, true, true, true, true, true, true, true, true, true, true, true, true] rfl rfl (any_of HT_.out (by kernel_rfl)) (fun _ _ _ h => h) (Or.inl ⟨by rfl, ?_⟩) ?_ ?_
          rotate_left
          ·intro w'
           go_simp
           with_reducible rfl
          rotate_left
          ·simp only [Act.put, List.setIfInBounds_toArray, List.set_cons_zero, List.set_cons_succ, i64_w, i32_w]
           rfl
          refine done_ (done_of HT_.out (by kernel_rfl)) ?_
          try go_wp2
          try simp only [Go.Proofs.YtfgfoofojofnmaaDoor.Hand.w64_mod256]
          go_roundg k2
          case measure => have := HJ3.out; have := HK2.out; omega
          case rel => exact ⟨(wrap64 (x7_2 + 1)), (by first | rfl | (simp; done) | (simp [*]; done)), H', ⟨by have := HJ3.out; have := HK2.out; omega⟩, ⟨by (with_reducible repeat (first | refine blk_drewN ?_ _ | refine blk_drew ?_ | refine blk_alloc ?_ _)); exact BK515.out⟩, ⟨by (with_reducible repeat (first | refine blk_drewN ?_ _ | refine blk_drew ?_ | refine blk_alloc ?_ _)); exact BK516.out⟩, ⟨by repeat (first | (with_reducible first | exact HB.out | apply below_alloc | apply pw_below_drewN | apply below_drew1 | refine below_set ?_ GE515.out | refine below_set ?_ GE516.out) | exact HB.out)⟩⟩
         ·replace c39 := Bool.eq_false_iff.mpr c39
          subst c39
          have H1 : (some false) = some r := by rw [if_neg (show ¬ (false = true) by decide)] at H; exact H
          clear H
          have H := H1
          clear H1
          obtain rfl := Option.some.inj H
          have hnb44 := NB515_516.out
          have hnc44 := NB516_515.out
          have hcz45_0 : wr.cell? ⟨gb515, 0, none⟩ = some (.int .i64 a0_0) := (blk_cell BK515.out 0).trans rfl
          have hcz45_1 : wr.cell? ⟨gb515, 1, none⟩ = some (.string a0_1) := (blk_cell BK515.out 1).trans rfl
          have hcz45_2 : wr.cell? ⟨gb515, 2, none⟩ = some (.int .i64 a0_2) := (blk_cell BK515.out 2).trans rfl
          have hcz45_3 : wr.cell? ⟨gb515, 3, none⟩ = some (.int .u64 a0_3) := (blk_cell BK515.out 3).trans rfl
          have hcz45_4 : wr.cell? ⟨gb515, 4, none⟩ = some (.slice A0_4 l0_4.length c0_4) := (blk_cell BK515.out 4).trans rfl
          have hcz45_5 : wr.cell? ⟨gb515, 5, none⟩ = some (.int .i64 a0_5) := (blk_cell BK515.out 5).trans rfl
          have hfz45_0 := blk_frozen BK515.out 0
          have hfz45_1 := blk_frozen BK515.out 1
          have hfz45_2 := blk_frozen BK515.out 2
          have hfz45_3 := blk_frozen BK515.out 3
          have hfz45_4 := blk_frozen BK515.out 4
          have hfz45_5 := blk_frozen BK515.out 5
          try go_wp2
          have n0_ := Aside0.mk (blk_drew BK515.out)
          have n1_ := Aside0.mk (blk_drew BK516.out)
          have n2_ := Aside0.mk (below_drew1 HB.out)
          clear BK515
          clear BK516
          clear HB
          have BK515 := n0_
          have BK516 := n1_
          have HB := n2_
          clear n0_ n1_ n2_
          have p517 : 0 ≤ (x7_2 : Int) := of_decide_eq_true (by first | (with_reducible assumption) | assumption)
          have q517 : x7_2 < (l0_4.length : Int) := of_decide_eq_true (by first | (with_reducible assumption) | assumption)
          obtain ⟨ad517, A517_4, c517_4, e517, hx517_0, hx517_1, hx517_2, hx517_3, hx517_4, hx517_5, hl517_4, hi517_4⟩ := at_T54 HR0_4.out x7_2 p517 q517
          have hw517_5 := hx517_5
          have hw517_4 := hx517_4
          have hw517_3 := hx517_3
          have hw517_2 := hx517_2
          have hw517_1 := hx517_1
          have hw517_0 := hx517_0
          cases e517
          replace hx517_0 := (HB.out.cell (World.block_lt_of_cell? w _ hx517_0)).trans hx517_0
          replace hx517_1 := (HB.out.cell (World.block_lt_of_cell? w _ hx517_1)).trans hx517_1
          replace hx517_2 := (HB.out.cell (World.block_lt_of_cell? w _ hx517_2)).trans hx517_2
          replace hx517_3 := (HB.out.cell (World.block_lt_of_cell? w _ hx517_3)).trans hx517_3
          replace hx517_4 := (HB.out.cell (World.block_lt_of_cell? w _ hx517_4)).trans hx517_4
          replace hx517_5 := (HB.out.cell (World.block_lt_of_cell? w _ hx517_5)).trans hx517_5
          have HR517_4 := Aside0.mk hi517_4
          have HC517_4 := Aside0.mk hl517_4
          clear hi517_4 hl517_4
          replace p517 := eq_true p517
          replace q517 := eq_true q517
          have p518 : 0 ≤ (x7_2 : Int) := of_decide_eq_true (by first | (with_reducible assumption) | assumption)
          have q518 : x7_2 < (l1_4.length : Int) := of_decide_eq_true (by first | (with_reducible assumption) | assumption)
          obtain ⟨ad518, A518_4, c518_4, e518, hx518_0, hx518_1, hx518_2, hx518_3, hx518_4, hx518_5, hl518_4, hi518_4⟩ := at_T54 HR1_4.out x7_2 p518 q518
          have hw518_5 := hx518_5
          have hw518_4 := hx518_4
          have hw518_3 := hx518_3
          have hw518_2 := hx518_2
          have hw518_1 := hx518_1
          have hw518_0 := hx518_0
          cases e518
          replace hx518_0 := (HB.out.cell (World.block_lt_of_cell? w _ hx518_0)).trans hx518_0
          replace hx518_1 := (HB.out.cell (World.block_lt_of_cell? w _ hx518_1)).trans hx518_1
          replace hx518_2 := (HB.out.cell (World.block_lt_of_cell? w _ hx518_2)).trans hx518_2
          replace hx518_3 := (HB.out.cell (World.block_lt_of_cell? w _ hx518_3)).trans hx518_3
          replace hx518_4 := (HB.out.cell (World.block_lt_of_cell? w _ hx518_4)).trans hx518_4
          replace hx518_5 := (HB.out.cell (World.block_lt_of_cell? w _ hx518_5)).trans hx518_5
          have HR518_4 := Aside0.mk hi518_4
          have HC518_4 := Aside0.mk hl518_4
          clear hi518_4 hl518_4
          replace p518 := eq_true p518
          replace q518 := eq_true q518
          refine start_ (n := 13) (S := fun w' => w'.cell? ⟨gb515, 0, none⟩ = some (.int .i64 a0_0) ∧ w'.cell? ⟨gb515, 1, none⟩ = some (.string a0_1) ∧ w'.cell? ⟨gb515, 2, none⟩ = some (.int .i64 a0_2) ∧ w'.cell? ⟨gb515, 3, none⟩ = some (.int .u64 a0_3) ∧ w'.cell? ⟨gb515, 4, none⟩ = some (.slice (some ad517) l0_4.length c0_4) ∧ w'.cell? ⟨gb515, 5, none⟩ = some (.int .i64 a0_5) ∧ w'.cell? ⟨gb516, 0, none⟩ = some (.int .i64 a1_0) ∧ w'.cell? ⟨gb516, 1, none⟩ = some (.string a1_1) ∧ w'.cell? ⟨gb516, 2, none⟩ = some (.int .i64 a1_2) ∧ w'.cell? ⟨gb516, 3, none⟩ = some (.int .u64 a1_3) ∧ w'.cell? ⟨gb516, 4, none⟩ = some (.slice (some ad518) l1_4.length c1_4) ∧ w'.cell? ⟨gb516, 5, none⟩ = some (.int .i64 a1_5) ∧ w'.cell? (ad517.add ((x7_2).toNat * 6)) = some (.int .i64 ((rd_T54 l0_4 x7_2).f0)) ∧ w'.cell? ⟨(ad517.add ((x7_2).toNat * 6)).block, (ad517.add ((x7_2).toNat * 6)).off + 1, none⟩ = some (.string ((rd_T54 l0_4 x7_2).f1)) ∧ w'.cell? ⟨(ad517.add ((x7_2).toNat * 6)).block, (ad517.add ((x7_2).toNat * 6)).off + 2, none⟩ = some (.int .i64 ((rd_T54 l0_4 x7_2).f2)) ∧ w'.cell? ⟨(ad517.add ((x7_2).toNat * 6)).block, (ad517.add ((x7_2).toNat * 6)).off + 3, none⟩ = some (.int .u64 ((rd_T54 l0_4 x7_2).f3)) ∧ w'.cell? ⟨(ad517.add ((x7_2).toNat * 6)).block, (ad517.add ((x7_2).toNat * 6)).off + 4, none⟩ = some (.slice A517_4 ((rd_T54 l0_4 x7_2).f4).length c517_4) ∧ w'.cell? ⟨(ad517.add ((x7_2).toNat * 6)).block, (ad517.add ((x7_2).toNat * 6)).off + 5, none⟩ = some (.int .i64 ((rd_T54 l0_4 x7_2).f5)) ∧ w'.cell? (ad518.add ((x7_2).toNat * 6)) = some (.int .i64 ((rd_T54 l1_4 x7_2).f0)) ∧ w'.cell? ⟨(ad518.add ((x7_2).toNat * 6)).block, (ad518.add ((x7_2).toNat * 6)).off + 1, none⟩ = some (.string ((rd_T54 l1_4 x7_2).f1)) ∧ w'.cell? ⟨(ad518.add ((x7_2).toNat * 6)).block, (ad518.add ((x7_2).toNat * 6)).off + 2, none⟩ = some (.int .i64 ((rd_T54 l1_4 x7_2).f2)) ∧ w'.cell? ⟨(ad518.add ((x7_2).toNat * 6)).block, (ad518.add ((x7_2).toNat * 6)).off + 3, none⟩ = some (.int .u64 ((rd_T54 l1_4 x7_2).f3)) ∧ w'.cell? ⟨(ad518.add ((x7_2).toNat * 6)).block, (ad518.add ((x7_2).toNat * 6)).off + 4, none⟩ = some (.slice A518_4 ((rd_T54 l1_4 x7_2).f4).length c518_4) ∧ w'.cell? ⟨(ad518.add ((x7_2).toNat * 6)).block, (ad518.add ((x7_2).toNat * 6)).off + 5, none⟩ = some (.int .i64 ((rd_T54 l1_4 x7_2).f5))) (ds := []) #[false, false, false, false, false, false, false, false, false, false, false, false, false] (by kernel_rfl) rfl rfl ⟨(blk_cell BK515.out 0).trans rfl, (blk_cell BK515.out 1).trans rfl, (blk_cell BK515.out 2).trans rfl, (blk_cell BK515.out 3).trans rfl, (blk_cell BK515.out 4).trans rfl, (blk_cell BK515.out 5).trans rfl, (blk_cell BK516.out 0).trans rfl, (blk_cell BK516.out 1).trans rfl, (blk_cell BK516.out 2).trans rfl, (blk_cell BK516.out 3).trans rfl, (blk_cell BK516.out 4).trans rfl, (blk_cell BK516.out 5).trans rfl, ((HB.out.cell (World.block_lt_of_cell? w _ hw517_0)).trans hw517_0), ((HB.out.cell (World.block_lt_of_cell? w _ hw517_1)).trans hw517_1), ((HB.out.cell (World.block_lt_of_cell? w _ hw517_2)).trans hw517_2), ((HB.out.cell (World.block_lt_of_cell? w _ hw517_3)).trans hw517_3), ((HB.out.cell (World.block_lt_of_cell? w _ hw517_4)).trans hw517_4), ((HB.out.cell (World.block_lt_of_cell? w _ hw517_5)).trans hw517_5), ((HB.out.cell (World.block_lt_of_cell? w _ hw518_0)).trans hw518_0), ((HB.out.cell (World.block_lt_of_cell? w _ hw518_1)).trans hw518_1), ((HB.out.cell (World.block_lt_of_cell? w _ hw518_2)).trans hw518_2), ((HB.out.cell (World.block_lt_of_cell? w _ hw518_3)).trans hw518_3), ((HB.out.cell (World.block_lt_of_cell? w _ hw518_4)).trans hw518_4), ((HB.out.cell (World.block_lt_of_cell? w _ hw518_5)).trans hw518_5)⟩ (fun hHeld => ?_); refine with_tabW forebearref23_Same.tab6 forebearref23_Same.bits6 (fun HT_ HW_ => ?_)
          generalize wr.drew = w46 at BK515 BK516 HB HR517_4 HR518_4 hx517_0 hx517_1 hx517_2 hx517_3 hx517_4 hx517_5 hx518_0 hx518_1 hx518_2 hx518_3 hx518_4 hx518_5 hHeld ⊢
          refine pure_ (i := 0) (N := some 60) (v := ?_) (a' := ?_) #[true, false, false, false, false, false, false, false, false, false, false, false, false] rfl rfl (any_of HT_.out (by kernel_rfl)) (fun _ _ _ h => h) (Or.inl ⟨by rfl, ?_⟩) ?_ ?_
          rotate_left
          ·intro w'
           go_simp
           with_reducible rfl
          rotate_left
          ·simp only [Act.put, List.setIfInBounds_toArray, List.set_cons_zero, List.set_cons_succ, i64_w, i32_w]
           rfl
          refine pure_ (i := 2) (N := some 62) (v := ?_) (a' := ?_) #[true, false, true, false, false, false, false, false, false, false, false, false, false] rfl rfl (any_of HT_.out (by kernel_rfl)) (fun _ _ _ h => h) (Or.inl ⟨by rfl, ?_⟩) ?_ ?_
          rotate_left
          ·intro w'
           go_simp
           with_reducible rfl
          rotate_left
          ·simp only [Act.put, List.setIfInBounds_toArray, List.set_cons_zero, List.set_cons_succ, i64_w, i32_w]
           rfl
          refine pure_ (i := 5) (N := some 65) (v := ?_) (a' := ?_) #[true, false, true, false, false, true, false, false, false, false, false, false, false] rfl rfl (any_of HT_.out (by kernel_rfl)) (fun _ _ _ h => h) (Or.inl ⟨by rfl, ?_⟩) ?_ ?_
          rotate_left
          ·intro w'
           go_simp
           with_reducible rfl
          rotate_left
          ·simp only [Act.put, List.setIfInBounds_toArray, List.set_cons_zero, List.set_cons_succ, i64_w, i32_w]
           rfl
          refine pure_ (i := 7) (N := some 67) (v := ?_) (a' := ?_) #[true, false, true, false, false, true, false, true, false, false, false, false, false] rfl rfl (any_of HT_.out (by kernel_rfl)) (fun _ _ _ h => h) (Or.inl ⟨by rfl, ?_⟩) ?_ ?_
          rotate_left
          ·intro w'
           go_simp
           with_reducible rfl
          rotate_left
          ·simp only [Act.put, List.setIfInBounds_toArray, List.set_cons_zero, List.set_cons_succ, i64_w, i32_w]
           rfl
          refine pure_ (i := 10) (N := some 70) (v := ?_) (a' := ?_) #[true, false, true, false, false, true, false, true, false, false, true, false, false] rfl rfl (any_of HT_.out (by kernel_rfl)) (fun _ _ _ h => h) (Or.inl ⟨by rfl, ?_⟩) ?_ ?_
          rotate_left
          ·intro w'
           go_simp
           with_reducible rfl
          rotate_left
          ·simp only [Act.put, List.setIfInBounds_toArray, List.set_cons_zero, List.set_cons_succ, i64_w, i32_w]
           rfl
          refine take_ (i := 1) (N := some 61) (v := ?_) (a' := ?_) #[true, true, true, false, false, true, false, true, false, false, true, false, false] rfl rfl (take_ofW HT_.out HW_.out (by kernel_rfl)) (fun _ _ _ h => h) (Or.inl ⟨by rfl, ?_⟩) hHeld ?_ ?_
          rotate_left
          ·rintro w' ⟨s0, s1, s2, s3, s4, s5, s6, s7, s8, s9, s10, s11, s12, s13, s14, s15, s16, s17, s18, s19, s20, s21, s22, s23⟩
           go_simp
           with_reducible rfl
          rotate_left
          ·simp only [Act.put, List.setIfInBounds_toArray, List.set_cons_zero, List.set_cons_succ, i64_w, i32_w]
           rfl
          refine pure_ (i := 3) (N := some 63) (v := ?_) (a' := ?_) #[true, true, true, true, false, true, false, true, false, false, true, false, false] rfl rfl (any_of HT_.out (by kernel_rfl)) (fun _ _ _ h => h) (Or.inl ⟨by rfl, ?_⟩) ?_ ?_
          rotate_left
          ·intro w'
           go_simp
           with_reducible rfl
          rotate_left
          ·simp only [Act.put, List.setIfInBounds_toArray, List.set_cons_zero, List.set_cons_succ, i64_w, i32_w]
           rfl
          refine take_ (i := 4) (N := some 64) (v := ?_) (a' := ?_) #[true, true, true, true, true, true, false, true, false, false, true, false, false] rfl rfl (take_ofW HT_.out HW_.out (by kernel_rfl)) (fun _ _ _ h => h) (Or.inl ⟨by rfl, ?_⟩) hHeld ?_ ?_
          rotate_left
          ·rintro w' ⟨s0, s1, s2, s3, s4, s5, s6, s7, s8, s9, s10, s11, s12, s13, s14, s15, s16, s17, s18, s19, s20, s21, s22, s23⟩
           go_simp
           with_reducible rfl
          rotate_left
          ·simp only [Act.put, List.setIfInBounds_toArray, List.set_cons_zero, List.set_cons_succ, i64_w, i32_w]
           rfl
          refine take_ (i := 6) (N := some 66) (v := ?_) (a' := ?_) #[true, true, true, true, true, true, true, true, false, false, true, false, false] rfl rfl (take_ofW HT_.out HW_.out (by kernel_rfl)) (fun _ _ _ h => h) (Or.inl ⟨by rfl, ?_⟩) hHeld ?_ ?_
          rotate_left
          ·rintro w' ⟨s0, s1, s2, s3, s4, s5, s6, s7, s8, s9, s10, s11, s12, s13, s14, s15, s16, s17, s18, s19, s20, s21, s22, s23⟩
           go_simp
           with_reducible rfl
          rotate_left
          ·simp only [Act.put, List.setIfInBounds_toArray, List.set_cons_zero, List.set_cons_succ, i64_w, i32_w]
           rfl
          refine pure_ (i := 8) (N := some 68) (v := ?_) (a' := ?_) #[true, true, true, true, true, true, true, true, true, false, true, false, false] rfl rfl (any_of HT_.out (by kernel_rfl)) (fun _ _ _ h => h) (Or.inl ⟨by rfl, ?_⟩) ?_ ?_
          rotate_left
          ·intro w'
           go_simp
           with_reducible rfl
          rotate_left
          ·simp only [Act.put, List.setIfInBounds_toArray, List.set_cons_zero, List.set_cons_succ, i64_w, i32_w]
           rfl
          refine take_ (i := 9) (N := some 69) (v := ?_) (a' := ?_) #[true, true, true, true, true, true, true, true, true, true, true, false, false] rfl rfl (take_ofW HT_.out HW_.out (by kernel_rfl)) (fun _ _ _ h => h) (Or.inl ⟨by rfl, ?_⟩) hHeld ?_ ?_
          rotate_left
          ·rintro w' ⟨s0, s1, s2, s3, s4, s5, s6, s7, s8, s9, s10, s11, s12, s13, s14, s15, s16, s17, s18, s19, s20, s21, s22, s23⟩
           go_simp
           with_reducible rfl
          rotate_left
          ·simp only [Act.put, List.setIfInBounds_toArray, List.set_cons_zero, List.set_cons_succ, i64_w, i32_w]
           rfl
          refine one_ (i := 11) (N := some 71) #[true, true, true, true, true, true, true, true, true, true, true, true, false] rfl rfl (one_of HT_.out (by kernel_rfl)) (by decide) (fun K hK => ?_)
          refine goes_ Tryd.func28 (by kernel_rfl) rfl #[.agg #[.int .i64 ((rd_T54 l0_4 x7_2).f0), .string ((rd_T54 l0_4 x7_2).f1), .int .i64 ((rd_T54 l0_4 x7_2).f2), .int .u64 ((rd_T54 l0_4 x7_2).f3), .slice A517_4 ((rd_T54 l0_4 x7_2).f4).length c517_4, .int .i64 ((rd_T54 l0_4 x7_2).f5)], .agg #[.int .i64 ((rd_T54 l1_4 x7_2).f0), .string ((rd_T54 l1_4 x7_2).f1), .int .i64 ((rd_T54 l1_4 x7_2).f2), .int .u64 ((rd_T54 l1_4 x7_2).f3), .slice A518_4 ((rd_T54 l1_4 x7_2).f4).length c518_4, .int .i64 ((rd_T54 l1_4 x7_2).f5)], .bool a2] (by rfl) rfl rfl (by (try simp only [List.map_toArray, List.map_cons, List.map_nil]); first | done | rfl | (simp only [List.length_drop, List.length_take]; rfl)) ?_
          with_reducible refine (ih k2 (by have := HJ3.out; have := HK2.out; omega) ((rd_T54 l0_4 x7_2).f0) ((rd_T54 l0_4 x7_2).f1) ((rd_T54 l0_4 x7_2).f2) ((rd_T54 l0_4 x7_2).f3) _ _ ((rd_T54 l0_4 x7_2).f4) ((rd_T54 l0_4 x7_2).f5) ((rd_T54 l1_4 x7_2).f0) ((rd_T54 l1_4 x7_2).f1) ((rd_T54 l1_4 x7_2).f2) ((rd_T54 l1_4 x7_2).f3) _ _ ((rd_T54 l1_4 x7_2).f4) ((rd_T54 l1_4 x7_2).f5) a2 false _ ?side1 ?side2 ?side3 ?side4 A38.out).mono ?_
          (case side1 => repeat (first | exact (Kd.C_below HR517_4.out HB.out) | (with_reducible refine Kd.C_alloc ?_ _) | (with_reducible refine Kd.C_drewN ?_ _) | (with_reducible refine Kd.C_drew ?_)))
          (case side2 => exact HC517_4.out)
          (case side3 => repeat (first | exact (Kd.C_below HR518_4.out HB.out) | (with_reducible refine Kd.C_alloc ?_ _) | (with_reducible refine Kd.C_drewN ?_ _) | (with_reducible refine Kd.C_drew ?_)))
          (case side4 => exact HC518_4.out)
          rintro e w47 ⟨rfl, hb⟩
          refine ⟨_, rfl, ?_⟩
          have n0_ := Aside0.mk (blk_below (g := gb515) (o := .cells #[.int .i64 a0_0, .string a0_1, .int .i64 a0_2, .int .u64 a0_3, .slice (some ad517) l0_4.length c0_4, .int .i64 a0_5] 54 (0, 0)) (by (with_reducible repeat (first | refine blk_drewN ?_ _ | refine blk_drew ?_ | refine blk_alloc ?_ _)); exact BK515.out) hb)
          have n1_ := Aside0.mk (blk_below (g := gb516) (o := .cells #[.int .i64 a1_0, .string a1_1, .int .i64 a1_2, .int .u64 a1_3, .slice (some ad518) l1_4.length c1_4, .int .i64 a1_5] 54 (0, 0)) (by (with_reducible repeat (first | refine blk_drewN ?_ _ | refine blk_drew ?_ | refine blk_alloc ?_ _)); exact BK516.out) hb)
          have n2_ := Aside0.mk (below_step (by repeat (first | (with_reducible first | exact HB.out | apply below_alloc | apply pw_below_drewN | apply below_drew1 | refine below_set ?_ GE515.out | refine below_set ?_ GE516.out) | exact HB.out)) hb)
          clear BK515
          clear BK516
          clear HB
          have BK515 := n0_
          have BK516 := n1_
          have HB := n2_
          clear n0_ n1_ n2_
          (try clear hb)
          (try clear hb2)
          (try clear hk)
          (try clear hi)
          refine hK.out _ _ ⟨(blk_cell BK515.out 0).trans rfl, (blk_cell BK515.out 1).trans rfl, (blk_cell BK515.out 2).trans rfl, (blk_cell BK515.out 3).trans rfl, (blk_cell BK515.out 4).trans rfl, (blk_cell BK515.out 5).trans rfl, (blk_cell BK516.out 0).trans rfl, (blk_cell BK516.out 1).trans rfl, (blk_cell BK516.out 2).trans rfl, (blk_cell BK516.out 3).trans rfl, (blk_cell BK516.out 4).trans rfl, (blk_cell BK516.out 5).trans rfl, ((HB.out.cell (World.block_lt_of_cell? w _ hw517_0)).trans hw517_0), ((HB.out.cell (World.block_lt_of_cell? w _ hw517_1)).trans hw517_1), ((HB.out.cell (World.block_lt_of_cell? w _ hw517_2)).trans hw517_2), ((HB.out.cell (World.block_lt_of_cell? w _ hw517_3)).trans hw517_3), ((HB.out.cell (World.block_lt_of_cell? w _ hw517_4)).trans hw517_4), ((HB.out.cell (World.block_lt_of_cell? w _ hw517_5)).trans hw517_5), ((HB.out.cell (World.block_lt_of_cell? w _ hw518_0)).trans hw518_0), ((HB.out.cell (World.block_lt_of_cell? w _ hw518_1)).trans hw518_1), ((HB.out.cell (World.block_lt_of_cell? w _ hw518_2)).trans hw518_2), ((HB.out.cell (World.block_lt_of_cell? w _ hw518_3)).trans hw518_3), ((HB.out.cell (World.block_lt_of_cell? w _ hw518_4)).trans hw518_4), ((HB.out.cell (World.block_lt_of_cell? w _ hw518_5)).trans hw518_5)⟩ (fun hHeld => ?_)
          clear hK K
          refine norm_ (a' := ?_) ?_ ?_
          rotate_left
          ·show Act.put _ (some 71) _ = _
           simp only [Act.put, List.setIfInBounds_toArray, List.set_cons_zero, List.set_cons_succ, i64_w, i32_w]
           rfl
          refine pure_ (i := 12) (N := some 72) (v := ?_) (a' := ?_) #[true, true, true, true, true, true, true, true, true, true, true, true, true] rfl rfl (any_of HT_.out (by kernel_rfl)) (fun _ _ _ h => h) (Or.inl ⟨by rfl, ?_⟩) ?_ ?_
          rotate_left
          ·intro w'
           go_simp
           with_reducible rfl
          rotate_left
          ·simp only [Act.put, List.setIfInBounds_toArray, List.set_cons_zero, List.set_cons_succ, i64_w, i32_w]
           rfl
          refine done_ (done_of HT_.out (by kernel_rfl)) ?_
          try go_wp2
          go_ret
          exact ⟨by first | rfl | (simp [errW_none, errW_some] <;> rfl) | (simp [*, errW_none, errW_some] <;> rfl), by repeat (first | (with_reducible first | exact HB.out | apply below_alloc | apply pw_below_drewN | apply below_drew1 | refine below_set ?_ GE515.out | refine below_set ?_ GE516.out) | exact HB.out)⟩
        ·rw [if_neg c37] at H
         exact absurd H (by simp)
       ·rw [if_neg c36] at H
        exact absurd H (by simp)
      ·rw [if_neg c35] at H
       have c35b0 : decide (x7_2 < (l0_4.length : Int)) = false := decide_eq_false c35
       clear c35
       obtain rfl := Option.some.inj H
       have hnb48 := NB515_516.out
       have hnc48 := NB516_515.out
       have hcz49_0 : wr.cell? ⟨gb515, 0, none⟩ = some (.int .i64 a0_0) := (blk_cell BK515.out 0).trans rfl
       have hcz49_1 : wr.cell? ⟨gb515, 1, none⟩ = some (.string a0_1) := (blk_cell BK515.out 1).trans rfl
       have hcz49_2 : wr.cell? ⟨gb515, 2, none⟩ = some (.int .i64 a0_2) := (blk_cell BK515.out 2).trans rfl
       have hcz49_3 : wr.cell? ⟨gb515, 3, none⟩ = some (.int .u64 a0_3) := (blk_cell BK515.out 3).trans rfl
       have hcz49_4 : wr.cell? ⟨gb515, 4, none⟩ = some (.slice A0_4 l0_4.length c0_4) := (blk_cell BK515.out 4).trans rfl
       have hcz49_5 : wr.cell? ⟨gb515, 5, none⟩ = some (.int .i64 a0_5) := (blk_cell BK515.out 5).trans rfl
       have hfz49_0 := blk_frozen BK515.out 0
       have hfz49_1 := blk_frozen BK515.out 1
       have hfz49_2 := blk_frozen BK515.out 2
       have hfz49_3 := blk_frozen BK515.out 3
       have hfz49_4 := blk_frozen BK515.out 4
       have hfz49_5 := blk_frozen BK515.out 5
       go_wp2
       go_ret
       exact ⟨by first | rfl | (simp [errW_none, errW_some] <;> rfl) | (simp [*, errW_none, errW_some] <;> rfl), by repeat (first | (with_reducible first | exact HB.out | apply below_alloc | apply pw_below_drewN | apply below_drew1 | refine below_set ?_ GE515.out | refine below_set ?_ GE516.out) | exact HB.out)⟩

end Go.Proofs.YtfgfoofojofnmaaDoor.Q
