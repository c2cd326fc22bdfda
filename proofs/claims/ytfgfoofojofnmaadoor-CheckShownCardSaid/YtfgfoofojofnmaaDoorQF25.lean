-- Written by a program of this session's (wip/tools/hprint.py, over the kit's print.py). Not trusted: Lean checks it.
import Derived.Test.YtfgfoofojofnmaaDoorQ0
namespace Go.Proofs.YtfgfoofojofnmaaDoor.Q
open Go.RowKit Go.Proofs.YtfgfoofojofnmaaDoorW.PrintWords Go.Proofs.YtfgfoofojofnmaaDoorW.PrintLast Go.Proofs.YtfgfoofojofnmaaDoorW.PrintMore
attribute [local go_sem] Go.Proofs.YtfgfoofojofnmaaDoor.Hand.w64_mod256 Go.Proofs.YtfgfoofojofnmaaDoor.Hand.w64_mod32 max2_int min2_int max_two min_two max_three min_three max_four min_four   -- for this text's walks alone
set_option linter.unusedVariables false
set_option linter.unusedSimpArgs false

/-! ### forebearlaw23_Node: function 25 -/
mutual
def forebearlaw23_Node.l0 : Nat → Int → Int → ByteArray → Int → Int → List (S44) → Int → Int → ByteArray → Int → Int → List (S54) → Int → Option (Int × ByteArray × Int × Int × (List (S54)) × Int)
 | 0, _, _, _, _, _, _, _, _, _, _, _, _, _ => none
 | k + 1, x4, x360000, x360001, x360002, x360003, x360004, x360005, x362000, x362001, x362002, x362003, x362004, x362005 => if x4 < (x360004.length : Int) then (if 0 ≤ x4 then ((forebearlaw23_Node.f k ((rd_T44 x360004 x4).f0) ((rd_T44 x360004 x4).f1) ((rd_T44 x360004 x4).f2) ((rd_T44 x360004 x4).f3) ((rd_T44 x360004 x4).f4) ((rd_T44 x360004 x4).f5)).bind fun bt363 => (if x362004.length < 1954687338268 then (forebearlaw23_Node.l0 k (wrap64 (x4 + 1)) x360000 x360001 x360002 x360003 x360004 x360005 x362000 x362001 x362002 x362003 (x362004 ++ [(⟨bt363.1, bt363.2.1, bt363.2.2.1, bt363.2.2.2.1, bt363.2.2.2.2.1, bt363.2.2.2.2.2⟩ : S54)]) x362005) else (none))) else (none)) else (some (x362000, x362001, x362002, x362003, x362004, x362005))
def forebearlaw23_Node.f : Nat → Int → ByteArray → Int → Int → List (S44) → Int → Option (Int × ByteArray × Int × Int × (List (S54)) × Int)
 | 0, _, _, _, _, _, _ => none
 | k + 1, a0_0, a0_1, a0_2, a0_3, l0_4, a0_5 => forebearlaw23_Node.l0 k 0 a0_0 a0_1 a0_2 a0_3 l0_4 a0_5 a0_0 a0_1 a0_2 a0_3 ([] : List (S54)) a0_5
end
theorem forebearlaw23_Node.mono_l : ∀ k, (∀ y0 y1 y2 y3 y4 y5, LeO (forebearlaw23_Node.f k y0 y1 y2 y3 y4 y5) (forebearlaw23_Node.f (k + 1) y0 y1 y2 y3 y4 y5)) ∧ (∀ y0 y1 y2 y3 y4 y5 y6 y7 y8 y9 y10 y11 y12, LeO (forebearlaw23_Node.l0 k y0 y1 y2 y3 y4 y5 y6 y7 y8 y9 y10 y11 y12) (forebearlaw23_Node.l0 (k + 1) y0 y1 y2 y3 y4 y5 y6 y7 y8 y9 y10 y11 y12))
 | 0 => ⟨fun _ _ _ _ _ _ r h => by simp [forebearlaw23_Node.f] at h, fun _ _ _ _ _ _ _ _ _ _ _ _ _ r h => by simp [forebearlaw23_Node.l0] at h⟩
 | k + 1 => by
  obtain ⟨ih0, ih1⟩ := forebearlaw23_Node.mono_l k
  refine ⟨?_, ?_⟩
  ·intro y0 y1 y2 y3 y4 y5
   unfold forebearlaw23_Node.f
   repeat' first
   | (with_reducible exact ih0 _ _ _ _ _ _)
   | (with_reducible exact ih1 _ _ _ _ _ _ _ _ _ _ _ _ _)
   | (with_reducible exact LeO.refl _)
   | (with_reducible exact LeO.none _)
   | (with_reducible refine LeO.ite ?_ ?_)
   | (with_reducible refine LeO.bind ?_ (fun _ => ?_))
   | exact ih0 _ _ _ _ _ _
   | exact ih1 _ _ _ _ _ _ _ _ _ _ _ _ _
   | exact LeO.none _
   | refine LeO.ite ?_ ?_
   | refine LeO.bind ?_ (fun _ => ?_)
  ·intro y0 y1 y2 y3 y4 y5 y6 y7 y8 y9 y10 y11 y12
   unfold forebearlaw23_Node.l0
   repeat' first
   | (with_reducible exact ih0 _ _ _ _ _ _)
   | (with_reducible exact ih1 _ _ _ _ _ _ _ _ _ _ _ _ _)
   | (with_reducible exact LeO.refl _)
   | (with_reducible exact LeO.none _)
   | (with_reducible refine LeO.ite ?_ ?_)
   | (with_reducible refine LeO.bind ?_ (fun _ => ?_))
   | exact ih0 _ _ _ _ _ _
   | exact ih1 _ _ _ _ _ _ _ _ _ _ _ _ _
   | exact LeO.none _
   | refine LeO.ite ?_ ?_
   | refine LeO.bind ?_ (fun _ => ?_)
theorem forebearlaw23_Node.mono : ∀ a0 a1 a2 a3 a4 a5 k, LeO (forebearlaw23_Node.f k a0 a1 a2 a3 a4 a5) (forebearlaw23_Node.f (k + 1) a0 a1 a2 a3 a4 a5) := by
 intro a0 a1 a2 a3 a4 a5 k
 obtain ⟨ih0, ih1⟩ := forebearlaw23_Node.mono_l k
 exact ih0 a0 a1 a2 a3 a4 a5
def forebearlaw23_Node.T5 : Bool × List (List Nat × List Nat) := (true, [([], []), ([0], [0]), ([], []), ([2], [2]), ([], []), ([3, 4], [3, 4]), ([5], [5]), ([6], [6]), ([7], [7]), ([1, 8, 7], [1, 8]), ([0, 1, 2, 3, 4, 5, 6, 7, 8, 9], []), ([10, 9, 9, 0, 1, 2, 3, 4, 5, 6, 7, 8, 9], [9, 10])])
def forebearlaw23_Node.B5 : List Nat := [0, 1, 0, 4, 0, 28, 60, 124, 252, 511, 1023, 2047]
theorem forebearlaw23_Node.tab5 : rtab .any (opsOf Tryd.f25 5) = forebearlaw23_Node.T5 := by kernel_rfl
theorem forebearlaw23_Node.bits5 : waitsOk forebearlaw23_Node.T5.2 forebearlaw23_Node.B5 = true := by kernel_rfl
set_option maxHeartbeats 8000000 in
set_option maxRecDepth 100000 in
theorem forebearlaw23_Node.calls (k : Nat) : ∀ (a0_0 : Int) (a0_1 : ByteArray) (a0_2 : Int) (a0_3 : Int) (A0_4 : Option Addr) (c0_4 : Nat) (l0_4 : List (S44)) (a0_5 : Int) (r1 : Int) (r2 : ByteArray) (r3 : Int) (r4 : Int) (r5 : List (S54)) (r6 : Int) (w : World) (hr0_4 : Kd.C k44 w A0_4 l0_4.length l0_4) (hc0_4 : l0_4.length ≤ c0_4) (h : forebearlaw23_Node.f k a0_0 a0_1 a0_2 a0_3 l0_4 a0_5 = some (r1, r2, r3, r4, r5, r6)),
  Calls Tryd.prog 25 #[.agg #[.int .i64 a0_0, .string a0_1, .int .i64 a0_2, .int .u64 a0_3, .slice A0_4 l0_4.length c0_4, .int .i64 a0_5]] w fun e w' => ∃ v4_ : Value, e = .returned (.agg #[.int .i64 r1, .string r2, .int .i64 r3, .int .u64 r4, v4_, .int .i64 r6]) ∧ Kd.R k54 54 w' w.heap.size (fun _ => True) v4_ r5 ∧ Below w.heap.size w w' := by
 induction k using Nat.strongRecOn with
 | _ k ih =>
 intro a0_0 a0_1 a0_2 a0_3 A0_4 c0_4 l0_4 a0_5 r1 r2 r3 r4 r5 r6 w hr0_4 hc0_4 h
 cases k with
 | zero => exact absurd h (by simp [forebearlaw23_Node.f])
 | succ k =>
 simp only [forebearlaw23_Node.f] at h
 have hu44 := Tryd.underlying44
 have hu54 := Tryd.underlying54
 have HR0_4 := Aside0.mk hr0_4
 have HC0_4 := Aside0.mk hc0_4
 clear hr0_4 hc0_4
 have HB := Aside0.mk (Below.refl w.heap.size w)
 have H : (forebearlaw23_Node.l0 k 0 a0_0 a0_1 a0_2 a0_3 l0_4 a0_5 a0_0 a0_1 a0_2 a0_3 ([] : List (S54)) a0_5) = some (r1, r2, r3, r4, r5, r6) := h
 clear h
 have H' := Aside0.mk H
 clear H
 go_enter Tryd.func25, Tryd.ntmps25
 go_wp2_with (first | ((with_reducible refine gate_dst (N := 1) rfl ?_); refine box_event ?hg (N := 1) ?hd (cs := #[.int .i64 a0_0, .string a0_1, .int .i64 a0_2, .int .u64 a0_3, .slice A0_4 l0_4.length c0_4, .int .i64 a0_5]) (t := 44) ?hr ?_; (case hd => rfl); (case hg => rfl); (case hr => first | (go_simp; done) | (go_simp; rfl)); intro gb359 hg w2 hbox hb; have n0_ := Aside0.mk (below_step (by repeat (first | (with_reducible first | exact HB.out | apply below_alloc | apply pw_below_drewN | apply below_drew1) | exact HB.out)) hb); have n1_ := Aside0.mk (hbox); have n2_ := Aside0.mk ((by rw [hg]; exact (below_size (by repeat (first | (with_reducible first | exact HB.out | apply below_alloc | apply pw_below_drewN | apply below_drew1) | exact HB.out))) : w.heap.size ≤ gb359)); have n3_ := Aside0.mk ((by rw [hg]; exact (below_size (by repeat (first | (with_reducible first | exact HB.out | apply below_alloc | apply pw_below_drewN | apply below_drew1) | exact HB.out))) : w.heap.size ≤ gb359)); clear HB; have HB := n0_; have BK359 := n1_; have GW359 := n2_; have GE359 := n3_; clear n0_ n1_ n2_ n3_; clear hb hbox hg) | ((with_reducible refine gate_dst (N := 2) rfl ?_); refine box_event ?hg (N := 2) ?hd (cs := #[.int .i64 0, .string (⟨#[]⟩ : ByteArray), .int .i64 0, .int .u64 0, .slice none 0 0, .int .i64 0]) (t := 54) ?hr ?_; (case hd => rfl); (case hg => rfl); (case hr => first | (go_simp; done) | (go_simp; rfl)); intro gb360 hg w3 hbox hb; have n0_ := Aside0.mk (blk_below (g := gb359) (o := .cells #[.int .i64 a0_0, .string a0_1, .int .i64 a0_2, .int .u64 a0_3, .slice A0_4 l0_4.length c0_4, .int .i64 a0_5] 44 (0, 0)) (by (with_reducible repeat (first | refine blk_drewN ?_ _ | refine blk_drew ?_ | refine blk_alloc ?_ _)); exact BK359.out) hb); have n1_ := Aside0.mk (below_step (by repeat (first | (with_reducible first | exact HB.out | apply below_alloc | apply pw_below_drewN | apply below_drew1 | refine below_set ?_ GE359.out) | exact HB.out)) hb); have n2_ := Aside0.mk (hbox); have n3_ := Aside0.mk ((by rw [hg]; exact (below_size (by repeat (first | (with_reducible first | exact HB.out | apply below_alloc | apply pw_below_drewN | apply below_drew1 | refine below_set ?_ GE359.out) | exact HB.out))) : w.heap.size ≤ gb360)); have n4_ := Aside0.mk ((by rw [hg]; exact (below_size (by repeat (first | (with_reducible first | exact HB.out | apply below_alloc | apply pw_below_drewN | apply below_drew1 | refine below_set ?_ GE359.out) | exact HB.out))) : w.heap.size ≤ gb360)); have n5_ := Aside0.mk ((by rw [hg]; exact Nat.ne_of_lt (blk_lt (g := gb359) (o := .cells #[.int .i64 a0_0, .string a0_1, .int .i64 a0_2, .int .u64 a0_3, .slice A0_4 l0_4.length c0_4, .int .i64 a0_5] 44 (0, 0)) (by (with_reducible repeat (first | refine blk_drewN ?_ _ | refine blk_drew ?_ | refine blk_alloc ?_ _)); exact BK359.out)) : gb359 ≠ gb360)); have n6_ := Aside0.mk ((by rw [hg]; exact Nat.ne_of_gt (blk_lt (g := gb359) (o := .cells #[.int .i64 a0_0, .string a0_1, .int .i64 a0_2, .int .u64 a0_3, .slice A0_4 l0_4.length c0_4, .int .i64 a0_5] 44 (0, 0)) (by (with_reducible repeat (first | refine blk_drewN ?_ _ | refine blk_drew ?_ | refine blk_alloc ?_ _)); exact BK359.out)) : gb360 ≠ gb359)); clear BK359; clear HB; have BK359 := n0_; have HB := n1_; have BK360 := n2_; have GW360 := n3_; have GE360 := n4_; have NB359_360 := n5_; have NB360_359 := n6_; clear n0_ n1_ n2_ n3_ n4_ n5_ n6_; clear hb hbox hg; have hnb4 := NB359_360.out; have hnc4 := NB360_359.out; have hcz5_0 : w3.cell? ⟨gb359, 0, none⟩ = some (.int .i64 a0_0) := (blk_cell BK359.out 0).trans rfl; have hcz5_1 : w3.cell? ⟨gb359, 1, none⟩ = some (.string a0_1) := (blk_cell BK359.out 1).trans rfl; have hcz5_2 : w3.cell? ⟨gb359, 2, none⟩ = some (.int .i64 a0_2) := (blk_cell BK359.out 2).trans rfl; have hcz5_3 : w3.cell? ⟨gb359, 3, none⟩ = some (.int .u64 a0_3) := (blk_cell BK359.out 3).trans rfl; have hcz5_4 : w3.cell? ⟨gb359, 4, none⟩ = some (.slice A0_4 l0_4.length c0_4) := (blk_cell BK359.out 4).trans rfl; have hcz5_5 : w3.cell? ⟨gb359, 5, none⟩ = some (.int .i64 a0_5) := (blk_cell BK359.out 5).trans rfl; have hfz5_0 := blk_frozen BK359.out 0; have hfz5_1 := blk_frozen BK359.out 1; have hfz5_2 := blk_frozen BK359.out 2; have hfz5_3 := blk_frozen BK359.out 3; have hfz5_4 := blk_frozen BK359.out 4; have hfz5_5 := blk_frozen BK359.out 5) | ((with_reducible refine gate_dst (N := 3) rfl ?_); refine box_event ?hg (N := 3) ?hd (cs := #[.int .i64 0, .string (⟨#[]⟩ : ByteArray), .int .i64 0, .int .u64 0, .slice none 0 0, .int .i64 0]) (t := 54) ?hr ?_; (case hd => rfl); (case hg => rfl); (case hr => first | (go_simp; done) | (go_simp; rfl)); intro gb361 hg w6 hbox hb; have n0_ := Aside0.mk (blk_below (g := gb359) (o := .cells #[.int .i64 a0_0, .string a0_1, .int .i64 a0_2, .int .u64 a0_3, .slice A0_4 l0_4.length c0_4, .int .i64 a0_5] 44 (0, 0)) (by (with_reducible repeat (first | refine blk_drewN ?_ _ | refine blk_drew ?_ | refine blk_alloc ?_ _)); exact BK359.out) hb); have n1_ := Aside0.mk (blk_below (g := gb360) (o := .cells #[.int .i64 0, .string (⟨#[]⟩ : ByteArray), .int .i64 0, .int .u64 0, .slice none 0 0, .int .i64 0] 54 (0, 0)) (by (with_reducible repeat (first | refine blk_drewN ?_ _ | refine blk_drew ?_ | refine blk_alloc ?_ _)); exact BK360.out) hb); have n2_ := Aside0.mk (below_step (by repeat (first | (with_reducible first | exact HB.out | apply below_alloc | apply pw_below_drewN | apply below_drew1 | refine below_set ?_ GE359.out | refine below_set ?_ GE360.out) | exact HB.out)) hb); have n3_ := Aside0.mk (hbox); have n4_ := Aside0.mk ((by rw [hg]; exact (below_size (by repeat (first | (with_reducible first | exact HB.out | apply below_alloc | apply pw_below_drewN | apply below_drew1 | refine below_set ?_ GE359.out | refine below_set ?_ GE360.out) | exact HB.out))) : w.heap.size ≤ gb361)); have n5_ := Aside0.mk ((by rw [hg]; exact (below_size (by repeat (first | (with_reducible first | exact HB.out | apply below_alloc | apply pw_below_drewN | apply below_drew1 | refine below_set ?_ GE359.out | refine below_set ?_ GE360.out) | exact HB.out))) : w.heap.size ≤ gb361)); have n6_ := Aside0.mk ((by rw [hg]; exact Nat.ne_of_lt (blk_lt (g := gb359) (o := .cells #[.int .i64 a0_0, .string a0_1, .int .i64 a0_2, .int .u64 a0_3, .slice A0_4 l0_4.length c0_4, .int .i64 a0_5] 44 (0, 0)) (by (with_reducible repeat (first | refine blk_drewN ?_ _ | refine blk_drew ?_ | refine blk_alloc ?_ _)); exact BK359.out)) : gb359 ≠ gb361)); have n7_ := Aside0.mk ((by rw [hg]; exact Nat.ne_of_gt (blk_lt (g := gb359) (o := .cells #[.int .i64 a0_0, .string a0_1, .int .i64 a0_2, .int .u64 a0_3, .slice A0_4 l0_4.length c0_4, .int .i64 a0_5] 44 (0, 0)) (by (with_reducible repeat (first | refine blk_drewN ?_ _ | refine blk_drew ?_ | refine blk_alloc ?_ _)); exact BK359.out)) : gb361 ≠ gb359)); have n8_ := Aside0.mk ((by rw [hg]; exact Nat.ne_of_lt (blk_lt (g := gb360) (o := .cells #[.int .i64 0, .string (⟨#[]⟩ : ByteArray), .int .i64 0, .int .u64 0, .slice none 0 0, .int .i64 0] 54 (0, 0)) (by (with_reducible repeat (first | refine blk_drewN ?_ _ | refine blk_drew ?_ | refine blk_alloc ?_ _)); exact BK360.out)) : gb360 ≠ gb361)); have n9_ := Aside0.mk ((by rw [hg]; exact Nat.ne_of_gt (blk_lt (g := gb360) (o := .cells #[.int .i64 0, .string (⟨#[]⟩ : ByteArray), .int .i64 0, .int .u64 0, .slice none 0 0, .int .i64 0] 54 (0, 0)) (by (with_reducible repeat (first | refine blk_drewN ?_ _ | refine blk_drew ?_ | refine blk_alloc ?_ _)); exact BK360.out)) : gb361 ≠ gb360)); clear BK359; clear BK360; clear HB; have BK359 := n0_; have BK360 := n1_; have HB := n2_; have BK361 := n3_; have GW361 := n4_; have GE361 := n5_; have NB359_361 := n6_; have NB361_359 := n7_; have NB360_361 := n8_; have NB361_360 := n9_; clear n0_ n1_ n2_ n3_ n4_ n5_ n6_ n7_ n8_ n9_; clear hb hbox hg; have hnb7 := NB361_359.out; have hnc7 := NB359_361.out; have hnb8 := NB361_360.out; have hnc8 := NB360_361.out; have hcz9_0 : w6.cell? ⟨gb361, 0, none⟩ = some (.int .i64 0) := (blk_cell BK361.out 0).trans rfl; have hcz9_1 : w6.cell? ⟨gb361, 1, none⟩ = some (.string (⟨#[]⟩ : ByteArray)) := (blk_cell BK361.out 1).trans rfl; have hcz9_2 : w6.cell? ⟨gb361, 2, none⟩ = some (.int .i64 0) := (blk_cell BK361.out 2).trans rfl; have hcz9_3 : w6.cell? ⟨gb361, 3, none⟩ = some (.int .u64 0) := (blk_cell BK361.out 3).trans rfl; have hcz9_4 : w6.cell? ⟨gb361, 4, none⟩ = some (.slice none 0 0) := (blk_cell BK361.out 4).trans rfl; have hcz9_5 : w6.cell? ⟨gb361, 5, none⟩ = some (.int .i64 0) := (blk_cell BK361.out 5).trans rfl; have hfz9_0 := blk_frozen BK361.out 0; have hfz9_1 := blk_frozen BK361.out 1; have hfz9_2 := blk_frozen BK361.out 2; have hfz9_3 := blk_frozen BK361.out 3; have hfz9_4 := blk_frozen BK361.out 4; have hfz9_5 := blk_frozen BK361.out 5))
 go_loopg [4] k (fun kq v4 w' => ∃ (x4_1 : Int) (x362004_1 : List (S54)) (u362004 : Value), v4 = .int .i64 x4_1 ∧ Aside0 (forebearlaw23_Node.l0 kq x4_1 a0_0 a0_1 a0_2 a0_3 l0_4 a0_5 a0_0 a0_1 a0_2 a0_3 x362004_1 a0_5 = some (r1, r2, r3, r4, r5, r6)) ∧ Aside0 (kq ≤ k) ∧ Aside0 (Kd.R k54 54 w' w.heap.size (fun k_ => k_ ≠ gb360 ∧ k_ ≠ gb361) u362004 x362004_1) ∧ Aside0 (w'.heap[gb359]? = some (.cells #[.int .i64 a0_0, .string a0_1, .int .i64 a0_2, .int .u64 a0_3, (.slice A0_4 l0_4.length c0_4), .int .i64 a0_5] 44 (0, 0))) ∧ Aside0 (w'.heap[gb360]? = some (.cells #[.int .i64 0, .string (⟨#[]⟩ : ByteArray), .int .i64 0, .int .u64 0, (.slice none 0 0), .int .i64 0] 54 (0, 0))) ∧ Aside0 (w'.heap[gb361]? = some (.cells #[.int .i64 a0_0, .string a0_1, .int .i64 a0_2, .int .u64 a0_3, u362004, .int .i64 a0_5] 54 (0, 0))) ∧ Aside0 (Below w.heap.size w w'))
 case atStart => exact ⟨(0), (([] : List (S54))), (.slice none 0 0), (by first | rfl | (simp; done) | (simp [*]; done)), H', ⟨Nat.le_refl _⟩, ⟨by first | exact Kd.R_nil _ _ _ _ _ | exact Kd.N_nil _ _ _ _ _ | exact Kd.V_nil _ _ _ _ _ | exact Kd.Q_nil _ _ _ _ _ | exact Kd.S_nil _ _ _ _ _⟩, ⟨by (with_reducible repeat (first | refine blk_drewN ?_ _ | refine blk_drew ?_ | refine blk_alloc ?_ _)); refine blk_far ?_ NB359_361.out _; (with_reducible repeat (first | refine blk_drewN ?_ _ | refine blk_drew ?_ | refine blk_alloc ?_ _)); refine blk_far ?_ NB359_361.out _; (with_reducible repeat (first | refine blk_drewN ?_ _ | refine blk_drew ?_ | refine blk_alloc ?_ _)); refine blk_far ?_ NB359_361.out _; (with_reducible repeat (first | refine blk_drewN ?_ _ | refine blk_drew ?_ | refine blk_alloc ?_ _)); refine blk_far ?_ NB359_361.out _; (with_reducible repeat (first | refine blk_drewN ?_ _ | refine blk_drew ?_ | refine blk_alloc ?_ _)); refine blk_far ?_ NB359_361.out _; (with_reducible repeat (first | refine blk_drewN ?_ _ | refine blk_drew ?_ | refine blk_alloc ?_ _)); refine blk_far ?_ NB359_361.out _; (with_reducible repeat (first | refine blk_drewN ?_ _ | refine blk_drew ?_ | refine blk_alloc ?_ _)); exact BK359.out⟩, ⟨by (with_reducible repeat (first | refine blk_drewN ?_ _ | refine blk_drew ?_ | refine blk_alloc ?_ _)); refine blk_far ?_ NB360_361.out _; (with_reducible repeat (first | refine blk_drewN ?_ _ | refine blk_drew ?_ | refine blk_alloc ?_ _)); refine blk_far ?_ NB360_361.out _; (with_reducible repeat (first | refine blk_drewN ?_ _ | refine blk_drew ?_ | refine blk_alloc ?_ _)); refine blk_far ?_ NB360_361.out _; (with_reducible repeat (first | refine blk_drewN ?_ _ | refine blk_drew ?_ | refine blk_alloc ?_ _)); refine blk_far ?_ NB360_361.out _; (with_reducible repeat (first | refine blk_drewN ?_ _ | refine blk_drew ?_ | refine blk_alloc ?_ _)); refine blk_far ?_ NB360_361.out _; (with_reducible repeat (first | refine blk_drewN ?_ _ | refine blk_drew ?_ | refine blk_alloc ?_ _)); refine blk_far ?_ NB360_361.out _; (with_reducible repeat (first | refine blk_drewN ?_ _ | refine blk_drew ?_ | refine blk_alloc ?_ _)); exact BK360.out⟩, ⟨by (with_reducible repeat (first | refine blk_drewN ?_ _ | refine blk_drew ?_ | refine blk_alloc ?_ _)); refine blk_put (cs := #[.int .i64 a0_0, .string a0_1, .int .i64 a0_2, .int .u64 a0_3, .slice none 0 0, .int .i64 0]) ?_ 5 _ rfl; (with_reducible repeat (first | refine blk_drewN ?_ _ | refine blk_drew ?_ | refine blk_alloc ?_ _)); refine blk_put (cs := #[.int .i64 a0_0, .string a0_1, .int .i64 a0_2, .int .u64 a0_3, .slice none 0 0, .int .i64 0]) ?_ 4 _ rfl; (with_reducible repeat (first | refine blk_drewN ?_ _ | refine blk_drew ?_ | refine blk_alloc ?_ _)); refine blk_put (cs := #[.int .i64 a0_0, .string a0_1, .int .i64 a0_2, .int .u64 0, .slice none 0 0, .int .i64 0]) ?_ 3 _ rfl; (with_reducible repeat (first | refine blk_drewN ?_ _ | refine blk_drew ?_ | refine blk_alloc ?_ _)); refine blk_put (cs := #[.int .i64 a0_0, .string a0_1, .int .i64 0, .int .u64 0, .slice none 0 0, .int .i64 0]) ?_ 2 _ rfl; (with_reducible repeat (first | refine blk_drewN ?_ _ | refine blk_drew ?_ | refine blk_alloc ?_ _)); refine blk_put (cs := #[.int .i64 a0_0, .string (⟨#[]⟩ : ByteArray), .int .i64 0, .int .u64 0, .slice none 0 0, .int .i64 0]) ?_ 1 _ rfl; (with_reducible repeat (first | refine blk_drewN ?_ _ | refine blk_drew ?_ | refine blk_alloc ?_ _)); refine blk_put (cs := #[.int .i64 0, .string (⟨#[]⟩ : ByteArray), .int .i64 0, .int .u64 0, .slice none 0 0, .int .i64 0]) ?_ 0 _ rfl; (with_reducible repeat (first | refine blk_drewN ?_ _ | refine blk_drew ?_ | refine blk_alloc ?_ _)); exact BK361.out⟩, ⟨by repeat (first | (with_reducible first | exact HB.out | apply below_alloc | apply pw_below_drewN | apply below_drew1 | refine below_set ?_ GE359.out | refine below_set ?_ GE360.out | refine below_set ?_ GE361.out) | exact HB.out)⟩⟩
 case round =>
  clear H'
  obtain ⟨x4_1, x362004_1, u362004, rfl, HA, HK1, HO_362004, BK359, BK360, BK361, HB⟩ := hrel
  cases gk with
  | zero => exact absurd HA.out (by simp [forebearlaw23_Node.l0])
  | succ k1 =>
   have H := HA.out
   clear HA
   simp only [forebearlaw23_Node.l0] at H
   by_cases c10 : x4_1 < (l0_4.length : Int)
   ·rw [if_pos c10] at H
    have c10b0 : decide (x4_1 < (l0_4.length : Int)) = true := decide_eq_true c10
    clear c10
    by_cases c11 : 0 ≤ x4_1
    ·rw [if_pos c11] at H
     have c11b0 : decide (0 ≤ x4_1) = true := decide_eq_true c11
     clear c11
     replace H := Option.bind_eq_some_iff.mp H
     obtain ⟨⟨t363, t364, t365, t366, t367, t370⟩, A120, H⟩ := H
     replace H : (if x362004_1.length < 1954687338268 then (forebearlaw23_Node.l0 k1 (wrap64 (x4_1 + 1)) a0_0 a0_1 a0_2 a0_3 l0_4 a0_5 a0_0 a0_1 a0_2 a0_3 (x362004_1 ++ [(⟨t363, t364, t365, t366, t367, t370⟩ : S54)]) a0_5) else (none)) = some (r1, r2, r3, r4, r5, r6) := H
     have A12 := Aside0.mk A120
     clear A120
     by_cases c13 : x362004_1.length < 1954687338268
     ·rw [if_pos c13] at H
      have LMc13 := Aside0.mk c13
      clear c13
      obtain ⟨y371, hy371⟩ : ∃ y_ : List (S54), y_ = (x362004_1 ++ [(⟨t363, t364, t365, t366, t367, t370⟩ : S54)]) := ⟨_, rfl⟩
      replace H : (forebearlaw23_Node.l0 k1 (wrap64 (x4_1 + 1)) a0_0 a0_1 a0_2 a0_3 l0_4 a0_5 a0_0 a0_1 a0_2 a0_3 y371 a0_5) = some (r1, r2, r3, r4, r5, r6) := by first | (rw [hy371]; with_reducible exact H) | (have H2_ := (Option.bind_some _ _).symm.trans H; rw [hy371]; with_reducible exact H2_) | (have H2_ := (Option.bind_some _ _).symm.trans H; with_reducible exact H2_) | with_reducible exact H | (rw [hy371]; exact H) | exact H
      have Ny371 := Aside0.mk hy371
      clear hy371
      have H' := Aside0.mk H
      clear H
      have hnb14 := NB359_360.out
      have hnc14 := NB360_359.out
      have hnb15 := NB359_361.out
      have hnc15 := NB361_359.out
      have hcz16_0 : wr.cell? ⟨gb359, 0, none⟩ = some (.int .i64 a0_0) := (blk_cell BK359.out 0).trans rfl
      have hcz16_1 : wr.cell? ⟨gb359, 1, none⟩ = some (.string a0_1) := (blk_cell BK359.out 1).trans rfl
      have hcz16_2 : wr.cell? ⟨gb359, 2, none⟩ = some (.int .i64 a0_2) := (blk_cell BK359.out 2).trans rfl
      have hcz16_3 : wr.cell? ⟨gb359, 3, none⟩ = some (.int .u64 a0_3) := (blk_cell BK359.out 3).trans rfl
      have hcz16_4 : wr.cell? ⟨gb359, 4, none⟩ = some (.slice A0_4 l0_4.length c0_4) := (blk_cell BK359.out 4).trans rfl
      have hcz16_5 : wr.cell? ⟨gb359, 5, none⟩ = some (.int .i64 a0_5) := (blk_cell BK359.out 5).trans rfl
      have hfz16_0 := blk_frozen BK359.out 0
      have hfz16_1 := blk_frozen BK359.out 1
      have hfz16_2 := blk_frozen BK359.out 2
      have hfz16_3 := blk_frozen BK359.out 3
      have hfz16_4 := blk_frozen BK359.out 4
      have hfz16_5 := blk_frozen BK359.out 5
      try go_wp2
      have n0_ := Aside0.mk (Kd.R_drew HO_362004.out)
      have n1_ := Aside0.mk (blk_drew BK359.out)
      have n2_ := Aside0.mk (blk_drew BK360.out)
      have n3_ := Aside0.mk (blk_drew BK361.out)
      have n4_ := Aside0.mk (below_drew1 HB.out)
      clear HO_362004
      clear BK359
      clear BK360
      clear BK361
      clear HB
      have HO_362004 := n0_
      have BK359 := n1_
      have BK360 := n2_
      have BK361 := n3_
      have HB := n4_
      clear n0_ n1_ n2_ n3_ n4_
      have p362 : 0 ≤ (x4_1 : Int) := of_decide_eq_true (by first | (with_reducible assumption) | assumption)
      have q362 : x4_1 < (l0_4.length : Int) := of_decide_eq_true (by first | (with_reducible assumption) | assumption)
      obtain ⟨ad362, A362_4, c362_4, e362, hx362_0, hx362_1, hx362_2, hx362_3, hx362_4, hx362_5, hl362_4, hi362_4⟩ := at_T44 HR0_4.out x4_1 p362 q362
      have hw362_5 := hx362_5
      have hw362_4 := hx362_4
      have hw362_3 := hx362_3
      have hw362_2 := hx362_2
      have hw362_1 := hx362_1
      have hw362_0 := hx362_0
      cases e362
      replace hx362_0 := (HB.out.cell (World.block_lt_of_cell? w _ hx362_0)).trans hx362_0
      replace hx362_1 := (HB.out.cell (World.block_lt_of_cell? w _ hx362_1)).trans hx362_1
      replace hx362_2 := (HB.out.cell (World.block_lt_of_cell? w _ hx362_2)).trans hx362_2
      replace hx362_3 := (HB.out.cell (World.block_lt_of_cell? w _ hx362_3)).trans hx362_3
      replace hx362_4 := (HB.out.cell (World.block_lt_of_cell? w _ hx362_4)).trans hx362_4
      replace hx362_5 := (HB.out.cell (World.block_lt_of_cell? w _ hx362_5)).trans hx362_5
      have HR362_4 := Aside0.mk hi362_4
      have HC362_4 := Aside0.mk hl362_4
      clear hi362_4 hl362_4
      replace p362 := eq_true p362
      replace q362 := eq_true q362
      refine start_ (n := 12) (S := fun w' => w'.cell? ⟨gb361, 0, none⟩ = some (.int .i64 a0_0) ∧ w'.cell? ⟨gb361, 1, none⟩ = some (.string a0_1) ∧ w'.cell? ⟨gb361, 2, none⟩ = some (.int .i64 a0_2) ∧ w'.cell? ⟨gb361, 3, none⟩ = some (.int .u64 a0_3) ∧ w'.cell? ⟨gb361, 4, none⟩ = some (u362004) ∧ w'.cell? ⟨gb361, 5, none⟩ = some (.int .i64 a0_5) ∧ w'.cell? ⟨gb359, 0, none⟩ = some (.int .i64 a0_0) ∧ w'.cell? ⟨gb359, 1, none⟩ = some (.string a0_1) ∧ w'.cell? ⟨gb359, 2, none⟩ = some (.int .i64 a0_2) ∧ w'.cell? ⟨gb359, 3, none⟩ = some (.int .u64 a0_3) ∧ w'.cell? ⟨gb359, 4, none⟩ = some (.slice (some ad362) l0_4.length c0_4) ∧ w'.cell? ⟨gb359, 5, none⟩ = some (.int .i64 a0_5) ∧ w'.cell? (ad362.add ((x4_1).toNat * 6)) = some (.int .i64 ((rd_T44 l0_4 x4_1).f0)) ∧ w'.cell? ⟨(ad362.add ((x4_1).toNat * 6)).block, (ad362.add ((x4_1).toNat * 6)).off + 1, none⟩ = some (.string ((rd_T44 l0_4 x4_1).f1)) ∧ w'.cell? ⟨(ad362.add ((x4_1).toNat * 6)).block, (ad362.add ((x4_1).toNat * 6)).off + 2, none⟩ = some (.int .i64 ((rd_T44 l0_4 x4_1).f2)) ∧ w'.cell? ⟨(ad362.add ((x4_1).toNat * 6)).block, (ad362.add ((x4_1).toNat * 6)).off + 3, none⟩ = some (.int .u64 ((rd_T44 l0_4 x4_1).f3)) ∧ w'.cell? ⟨(ad362.add ((x4_1).toNat * 6)).block, (ad362.add ((x4_1).toNat * 6)).off + 4, none⟩ = some (.slice A362_4 ((rd_T44 l0_4 x4_1).f4).length c362_4) ∧ w'.cell? ⟨(ad362.add ((x4_1).toNat * 6)).block, (ad362.add ((x4_1).toNat * 6)).off + 5, none⟩ = some (.int .i64 ((rd_T44 l0_4 x4_1).f5))) (ds := [11]) #[false, false, false, false, false, false, false, false, false, false, false, false] (by kernel_rfl) rfl rfl ⟨(blk_cell BK361.out 0).trans rfl, (blk_cell BK361.out 1).trans rfl, (blk_cell BK361.out 2).trans rfl, (blk_cell BK361.out 3).trans rfl, (blk_cell BK361.out 4).trans rfl, (blk_cell BK361.out 5).trans rfl, (blk_cell BK359.out 0).trans rfl, (blk_cell BK359.out 1).trans rfl, (blk_cell BK359.out 2).trans rfl, (blk_cell BK359.out 3).trans rfl, (blk_cell BK359.out 4).trans rfl, (blk_cell BK359.out 5).trans rfl, ((HB.out.cell (World.block_lt_of_cell? w _ hw362_0)).trans hw362_0), ((HB.out.cell (World.block_lt_of_cell? w _ hw362_1)).trans hw362_1), ((HB.out.cell (World.block_lt_of_cell? w _ hw362_2)).trans hw362_2), ((HB.out.cell (World.block_lt_of_cell? w _ hw362_3)).trans hw362_3), ((HB.out.cell (World.block_lt_of_cell? w _ hw362_4)).trans hw362_4), ((HB.out.cell (World.block_lt_of_cell? w _ hw362_5)).trans hw362_5)⟩ (fun hHeld => ?_); refine with_tabW forebearlaw23_Node.tab5 forebearlaw23_Node.bits5 (fun HT_ HW_ => ?_)
      generalize wr.drew = w17 at HO_362004 BK359 BK360 BK361 HB HR362_4 hx362_0 hx362_1 hx362_2 hx362_3 hx362_4 hx362_5 hHeld ⊢
      refine pure_ (i := 0) (N := some 23) (v := ?_) (a' := ?_) #[true, false, false, false, false, false, false, false, false, false, false, false] rfl rfl (any_of HT_.out (by kernel_rfl)) (fun _ _ _ h => h) (Or.inl ⟨by rfl, ?_⟩) ?_ ?_
      rotate_left
      ·intro w'
       go_simp
       with_reducible rfl
      rotate_left
      ·simp only [Act.put, List.setIfInBounds_toArray, List.set_cons_zero, List.set_cons_succ, i64_w, i32_w]
       rfl
      refine pure_ (i := 2) (N := some 25) (v := ?_) (a' := ?_) #[true, false, true, false, false, false, false, false, false, false, false, false] rfl rfl (any_of HT_.out (by kernel_rfl)) (fun _ _ _ h => h) (Or.inl ⟨by rfl, ?_⟩) ?_ ?_
      rotate_left
      ·intro w'
       go_simp
       with_reducible rfl
      rotate_left
      ·simp only [Act.put, List.setIfInBounds_toArray, List.set_cons_zero, List.set_cons_succ, i64_w, i32_w]
       rfl
      refine pure_ (i := 4) (N := some 27) (v := ?_) (a' := ?_) #[true, false, true, false, true, false, false, false, false, false, false, false] rfl rfl (any_of HT_.out (by kernel_rfl)) (fun _ _ _ h => h) (Or.inl ⟨by rfl, ?_⟩) ?_ ?_
      rotate_left
      ·intro w'
       go_simp
       with_reducible rfl
      rotate_left
      ·simp only [Act.put, List.setIfInBounds_toArray, List.set_cons_zero, List.set_cons_succ, i64_w, i32_w]
       rfl
      refine take_ (i := 1) (N := some 24) (v := ?_) (a' := ?_) #[true, true, true, false, true, false, false, false, false, false, false, false] rfl rfl (take_ofW HT_.out HW_.out (by kernel_rfl)) (fun _ _ _ h => h) (Or.inl ⟨by rfl, ?_⟩) hHeld ?_ ?_
      rotate_left
      ·rintro w' ⟨s0, s1, s2, s3, s4, s5, s6, s7, s8, s9, s10, s11, s12, s13, s14, s15, s16, s17⟩
       go_simp
       with_reducible rfl
      rotate_left
      ·simp only [Act.put, List.setIfInBounds_toArray, List.set_cons_zero, List.set_cons_succ, i64_w, i32_w]
       rfl
      refine take_ (i := 3) (N := some 26) (v := ?_) (a' := ?_) #[true, true, true, true, true, false, false, false, false, false, false, false] rfl rfl (take_ofW HT_.out HW_.out (by kernel_rfl)) (fun _ _ _ h => h) (Or.inl ⟨by rfl, ?_⟩) hHeld ?_ ?_
      rotate_left
      ·rintro w' ⟨s0, s1, s2, s3, s4, s5, s6, s7, s8, s9, s10, s11, s12, s13, s14, s15, s16, s17⟩
       go_simp
       with_reducible rfl
      rotate_left
      ·simp only [Act.put, List.setIfInBounds_toArray, List.set_cons_zero, List.set_cons_succ, i64_w, i32_w]
       rfl
      refine pure_ (i := 5) (N := some 28) (v := ?_) (a' := ?_) #[true, true, true, true, true, true, false, false, false, false, false, false] rfl rfl (any_of HT_.out (by kernel_rfl)) (fun _ _ _ h => h) (Or.inl ⟨by rfl, ?_⟩) ?_ ?_
      rotate_left
      ·intro w'
       go_simp
       with_reducible rfl
      rotate_left
      ·simp only [Act.put, List.setIfInBounds_toArray, List.set_cons_zero, List.set_cons_succ, i64_w, i32_w]
       rfl
      refine take_ (i := 6) (N := some 29) (v := ?_) (a' := ?_) #[true, true, true, true, true, true, true, false, false, false, false, false] rfl rfl (take_ofW HT_.out HW_.out (by kernel_rfl)) (fun _ _ _ h => h) (Or.inl ⟨by rfl, ?_⟩) hHeld ?_ ?_
      rotate_left
      ·rintro w' ⟨s0, s1, s2, s3, s4, s5, s6, s7, s8, s9, s10, s11, s12, s13, s14, s15, s16, s17⟩
       go_simp
       with_reducible rfl
      rotate_left
      ·simp only [Act.put, List.setIfInBounds_toArray, List.set_cons_zero, List.set_cons_succ, i64_w, i32_w]
       rfl
      refine one_ (i := 7) (N := some 30) #[true, true, true, true, true, true, true, true, false, false, false, false] rfl rfl (one_of HT_.out (by kernel_rfl)) (by decide) (fun K hK => ?_)
      refine goes_ Tryd.func25 (by kernel_rfl) rfl #[.agg #[.int .i64 ((rd_T44 l0_4 x4_1).f0), .string ((rd_T44 l0_4 x4_1).f1), .int .i64 ((rd_T44 l0_4 x4_1).f2), .int .u64 ((rd_T44 l0_4 x4_1).f3), .slice A362_4 ((rd_T44 l0_4 x4_1).f4).length c362_4, .int .i64 ((rd_T44 l0_4 x4_1).f5)]] (by rfl) rfl rfl (by (try simp only [List.map_toArray, List.map_cons, List.map_nil]); first | done | rfl | (simp only [List.length_drop, List.length_take]; rfl)) ?_
      with_reducible refine (ih k1 (by have := HK1.out; omega) ((rd_T44 l0_4 x4_1).f0) ((rd_T44 l0_4 x4_1).f1) ((rd_T44 l0_4 x4_1).f2) ((rd_T44 l0_4 x4_1).f3) _ _ ((rd_T44 l0_4 x4_1).f4) ((rd_T44 l0_4 x4_1).f5) t363 t364 t365 t366 t367 t370 _ ?side1 ?side2 A12.out).mono ?_
      (case side1 => repeat (first | exact (Kd.C_below HR362_4.out HB.out) | (with_reducible refine Kd.C_alloc ?_ _) | (with_reducible refine Kd.C_drewN ?_ _) | (with_reducible refine Kd.C_drew ?_)))
      (case side2 => exact HC362_4.out)
      rintro e w18 ⟨v368, rfl, ho0, hb⟩
      refine ⟨_, rfl, ?_⟩
      have n0_ := Aside0.mk (Kd.R_elder' (by (with_reducible repeat (first | apply Kd.R_alloc | apply Kd.R_drewN | apply Kd.R_drew)); exact HO_362004.out) (Kd.R_base ho0) hb)
      have n1_ := Aside0.mk (Kd.R_lower (Kd.R_newB (Kd.R_newB (Kd.R_new' ho0 (Kd.R_lt (by (with_reducible repeat (first | apply Kd.R_alloc | apply Kd.R_drewN | apply Kd.R_drew)); exact HO_362004.out))) (g := gb360) (o := .cells #[.int .i64 0, .string (⟨#[]⟩ : ByteArray), .int .i64 0, .int .u64 0, .slice none 0 0, .int .i64 0] 54 (0, 0)) (by (with_reducible repeat (first | refine blk_drewN ?_ _ | refine blk_drew ?_ | refine blk_alloc ?_ _)); exact BK360.out)) (g := gb361) (o := .cells #[.int .i64 a0_0, .string a0_1, .int .i64 a0_2, .int .u64 a0_3, u362004, .int .i64 a0_5] 54 (0, 0)) (by (with_reducible repeat (first | refine blk_drewN ?_ _ | refine blk_drew ?_ | refine blk_alloc ?_ _)); exact BK361.out)) (below_size (by repeat (first | (with_reducible first | exact HB.out | apply below_alloc | apply pw_below_drewN | apply below_drew1 | refine below_set ?_ GE359.out | refine below_set ?_ GE360.out | refine below_set ?_ GE361.out) | exact HB.out))))
      have n2_ := Aside0.mk (blk_below (g := gb359) (o := .cells #[.int .i64 a0_0, .string a0_1, .int .i64 a0_2, .int .u64 a0_3, .slice (some ad362) l0_4.length c0_4, .int .i64 a0_5] 44 (0, 0)) (by (with_reducible repeat (first | refine blk_drewN ?_ _ | refine blk_drew ?_ | refine blk_alloc ?_ _)); exact BK359.out) hb)
      have n3_ := Aside0.mk (blk_below (g := gb360) (o := .cells #[.int .i64 0, .string (⟨#[]⟩ : ByteArray), .int .i64 0, .int .u64 0, .slice none 0 0, .int .i64 0] 54 (0, 0)) (by (with_reducible repeat (first | refine blk_drewN ?_ _ | refine blk_drew ?_ | refine blk_alloc ?_ _)); exact BK360.out) hb)
      have n4_ := Aside0.mk (blk_below (g := gb361) (o := .cells #[.int .i64 a0_0, .string a0_1, .int .i64 a0_2, .int .u64 a0_3, u362004, .int .i64 a0_5] 54 (0, 0)) (by (with_reducible repeat (first | refine blk_drewN ?_ _ | refine blk_drew ?_ | refine blk_alloc ?_ _)); exact BK361.out) hb)
      have n5_ := Aside0.mk (below_step (by repeat (first | (with_reducible first | exact HB.out | apply below_alloc | apply pw_below_drewN | apply below_drew1 | refine below_set ?_ GE359.out | refine below_set ?_ GE360.out | refine below_set ?_ GE361.out) | exact HB.out)) hb)
      clear HO_362004
      clear BK359
      clear BK360
      clear BK361
      clear HB
      have HO_362004 := n0_
      have HO369 := n1_
      have BK359 := n2_
      have BK360 := n3_
      have BK361 := n4_
      have HB := n5_
      clear n0_ n1_ n2_ n3_ n4_ n5_
      (try clear hb)
      (try clear hb2)
      (try clear hk)
      (try clear hi)
      (try clear ho0)
      obtain ⟨Ao20, co20, eo20⟩ := Kd.R_slice HO369.out
      (first | subst eo20 | (injection eo20 with f1_ f2_ f3_; have f4_ := f1_.symm; have f5_ := f3_.symm; clear f1_ f2_ f3_; subst f4_; subst f5_))
      refine hK.out _ _ ⟨(blk_cell BK361.out 0).trans rfl, (blk_cell BK361.out 1).trans rfl, (blk_cell BK361.out 2).trans rfl, (blk_cell BK361.out 3).trans rfl, (blk_cell BK361.out 4).trans rfl, (blk_cell BK361.out 5).trans rfl, (blk_cell BK359.out 0).trans rfl, (blk_cell BK359.out 1).trans rfl, (blk_cell BK359.out 2).trans rfl, (blk_cell BK359.out 3).trans rfl, (blk_cell BK359.out 4).trans rfl, (blk_cell BK359.out 5).trans rfl, ((HB.out.cell (World.block_lt_of_cell? w _ hw362_0)).trans hw362_0), ((HB.out.cell (World.block_lt_of_cell? w _ hw362_1)).trans hw362_1), ((HB.out.cell (World.block_lt_of_cell? w _ hw362_2)).trans hw362_2), ((HB.out.cell (World.block_lt_of_cell? w _ hw362_3)).trans hw362_3), ((HB.out.cell (World.block_lt_of_cell? w _ hw362_4)).trans hw362_4), ((HB.out.cell (World.block_lt_of_cell? w _ hw362_5)).trans hw362_5)⟩ (fun hHeld => ?_)
      clear hK K
      refine norm_ (a' := ?_) ?_ ?_
      rotate_left
      ·show Act.put _ (some 30) _ = _
       simp only [Act.put, List.setIfInBounds_toArray, List.set_cons_zero, List.set_cons_succ, i64_w, i32_w]
       rfl
      refine one_ (i := 8) (N := some 31) #[true, true, true, true, true, true, true, true, true, false, false, false] rfl rfl (one_of HT_.out (by kernel_rfl)) (by decide) (fun K hK => ?_)
      refine value_ (w1 := ?_) (v := ?_) (by rfl) rfl ?_ ?_
      rotate_left 2
      ·go_simp
       constructor
       ·rfl
       ·rfl
      refine hK.out _ _ ⟨(blk_cell (blk_alloc BK361.out _) 0).trans rfl, (blk_cell (blk_alloc BK361.out _) 1).trans rfl, (blk_cell (blk_alloc BK361.out _) 2).trans rfl, (blk_cell (blk_alloc BK361.out _) 3).trans rfl, (blk_cell (blk_alloc BK361.out _) 4).trans rfl, (blk_cell (blk_alloc BK361.out _) 5).trans rfl, (blk_cell (blk_alloc BK359.out _) 0).trans rfl, (blk_cell (blk_alloc BK359.out _) 1).trans rfl, (blk_cell (blk_alloc BK359.out _) 2).trans rfl, (blk_cell (blk_alloc BK359.out _) 3).trans rfl, (blk_cell (blk_alloc BK359.out _) 4).trans rfl, (blk_cell (blk_alloc BK359.out _) 5).trans rfl, (World.cell?_alloc_lt _ _ _ (World.block_lt_of_cell? _ _ (((HB.out.cell (World.block_lt_of_cell? w _ hw362_0)).trans hw362_0)))).trans (((HB.out.cell (World.block_lt_of_cell? w _ hw362_0)).trans hw362_0)), (World.cell?_alloc_lt _ _ _ (World.block_lt_of_cell? _ _ (((HB.out.cell (World.block_lt_of_cell? w _ hw362_1)).trans hw362_1)))).trans (((HB.out.cell (World.block_lt_of_cell? w _ hw362_1)).trans hw362_1)), (World.cell?_alloc_lt _ _ _ (World.block_lt_of_cell? _ _ (((HB.out.cell (World.block_lt_of_cell? w _ hw362_2)).trans hw362_2)))).trans (((HB.out.cell (World.block_lt_of_cell? w _ hw362_2)).trans hw362_2)), (World.cell?_alloc_lt _ _ _ (World.block_lt_of_cell? _ _ (((HB.out.cell (World.block_lt_of_cell? w _ hw362_3)).trans hw362_3)))).trans (((HB.out.cell (World.block_lt_of_cell? w _ hw362_3)).trans hw362_3)), (World.cell?_alloc_lt _ _ _ (World.block_lt_of_cell? _ _ (((HB.out.cell (World.block_lt_of_cell? w _ hw362_4)).trans hw362_4)))).trans (((HB.out.cell (World.block_lt_of_cell? w _ hw362_4)).trans hw362_4)), (World.cell?_alloc_lt _ _ _ (World.block_lt_of_cell? _ _ (((HB.out.cell (World.block_lt_of_cell? w _ hw362_5)).trans hw362_5)))).trans (((HB.out.cell (World.block_lt_of_cell? w _ hw362_5)).trans hw362_5))⟩ (fun hHeld => ?_)
      clear hK K
      refine norm_ (a' := ?_) ?_ ?_
      rotate_left
      ·show Act.put _ (some 31) _ = _
       simp only [Act.put, List.setIfInBounds_toArray, List.set_cons_zero, List.set_cons_succ, i64_w, i32_w]
       rfl
      refine one_ (i := 9) (N := some 32) #[true, true, true, true, true, true, true, true, true, true, false, false] rfl rfl (one_of HT_.out (by kernel_rfl)) (by decide) (fun K hK => ?_)
      refine Kd.R_append_step k54 (w0 := w) w.heap.size (by rfl) (.tmp 24) (.tmp 31) 52 54 (.agg #[(.int .i64 0), (.string ⟨#[]⟩), (.int .i64 0), (.int .u64 0), (.slice none 0 0), (.int .i64 0)]) 72 rfl Tryd.underlying52 info54 rfl (by decide) (by omega) u362004 x362004_1 (⟨t363, t364, t365, t366, t367, t370⟩ : S54) [.int .i64 t363, .string t364, .int .i64 t365, .int .u64 t366, .slice Ao20 t367.length co20, .int .i64 t370] (fun k_ => k_ ≠ gb360 ∧ k_ ≠ gb361) (fun k_ => ((fun k_ => k_ ≠ gb360 ∧ k_ ≠ gb361)) k_ ∧ some k_ ≠ (u362004 : Value).ownBlock) rfl rfl ?aP (fun _ hk => hk) ?aF ?aO ?aB ?aS ?aL ?_
      (case aP => exact k54_mkM _ _ _ (⟨t363, t364, t365, t366, t367, t370⟩ : S54) (Kd.R_mono (HO369.out) (fun k_ hk => ⟨⟨hk.1.2, hk.2⟩, hk.1.1.2⟩)))
      (case aB => exact (by repeat (first | (with_reducible first | exact HB.out | apply below_alloc | apply pw_below_drewN | apply below_drew1 | refine below_set ?_ GE359.out | refine below_set ?_ GE360.out | refine below_set ?_ GE361.out) | exact HB.out)))
      (case aF => exact (fun k_ hk => ⟨Kd.freshB (g := gb360) (o := .cells #[.int .i64 0, .string (⟨#[]⟩ : ByteArray), .int .i64 0, .int .u64 0, .slice none 0 0, .int .i64 0] 54 (0, 0)) (by (with_reducible repeat (first | refine blk_drewN ?_ _ | refine blk_drew ?_ | refine blk_alloc ?_ _)); exact BK360.out) k_ hk, Kd.freshB (g := gb361) (o := .cells #[.int .i64 a0_0, .string a0_1, .int .i64 a0_2, .int .u64 a0_3, u362004, .int .i64 a0_5] 54 (0, 0)) (by (with_reducible repeat (first | refine blk_drewN ?_ _ | refine blk_drew ?_ | refine blk_alloc ?_ _)); exact BK361.out) k_ hk⟩))
      (case aO => exact (by (with_reducible repeat (first | apply Kd.R_alloc | apply Kd.R_drewN | apply Kd.R_drew)); exact Kd.R_mono HO_362004.out (fun _ hk => ⟨hk.1.1, hk.1.2⟩)))
      (case aS => exact (below_size (by repeat (first | (with_reducible first | exact HB.out | apply below_alloc | apply pw_below_drewN | apply below_drew1 | refine below_set ?_ GE359.out | refine below_set ?_ GE360.out | refine below_set ?_ GE361.out) | exact HB.out))))
      (case aL => have := LMc13.out; omega)
      intro v372 w19 ho hb hg hat
      rw [← Ny371.out] at ho
      have n0_ := Aside0.mk (blk_grown (g := gb359) (o := .cells #[.int .i64 a0_0, .string a0_1, .int .i64 a0_2, .int .u64 a0_3, .slice (some ad362) l0_4.length c0_4, .int .i64 a0_5] 44 (0, 0)) (by (with_reducible repeat (first | refine blk_drewN ?_ _ | refine blk_drew ?_ | refine blk_alloc ?_ _)); exact BK359.out) hg (Kd.R_ne HO_362004.out BK359.out (by decide)))
      have n1_ := Aside0.mk (blk_grown (g := gb360) (o := .cells #[.int .i64 0, .string (⟨#[]⟩ : ByteArray), .int .i64 0, .int .u64 0, .slice none 0 0, .int .i64 0] 54 (0, 0)) (by (with_reducible repeat (first | refine blk_drewN ?_ _ | refine blk_drew ?_ | refine blk_alloc ?_ _)); exact BK360.out) hg (Kd.R_away HO_362004.out (fun _ hk => hk.1.1)))
      have n2_ := Aside0.mk (blk_grown (g := gb361) (o := .cells #[.int .i64 a0_0, .string a0_1, .int .i64 a0_2, .int .u64 a0_3, u362004, .int .i64 a0_5] 54 (0, 0)) (by (with_reducible repeat (first | refine blk_drewN ?_ _ | refine blk_drew ?_ | refine blk_alloc ?_ _)); exact BK361.out) hg (Kd.R_away HO_362004.out (fun _ hk => hk.1.2)))
      have n3_ := Aside0.mk (hb)
      have n4_ := Aside0.mk (ho)
      clear BK359
      clear BK360
      clear BK361
      clear HB
      clear HO_362004
      clear HO369
      have BK359 := n0_
      have BK360 := n1_
      have BK361 := n2_
      have HB := n3_
      have HO373 := n4_
      clear n0_ n1_ n2_ n3_ n4_
      clear ho hb hg hat
      obtain ⟨Ao21, co21, eo21⟩ := Kd.R_slice HO373.out
      (first | subst eo21 | (injection eo21 with f1_ f2_ f3_; have f4_ := f1_.symm; have f5_ := f3_.symm; clear f1_ f2_ f3_; subst f4_; subst f5_))
      refine hK.out _ _ ⟨(blk_cell BK361.out 0).trans rfl, (blk_cell BK361.out 1).trans rfl, (blk_cell BK361.out 2).trans rfl, (blk_cell BK361.out 3).trans rfl, (blk_cell BK361.out 4).trans rfl, (blk_cell BK361.out 5).trans rfl, (blk_cell BK359.out 0).trans rfl, (blk_cell BK359.out 1).trans rfl, (blk_cell BK359.out 2).trans rfl, (blk_cell BK359.out 3).trans rfl, (blk_cell BK359.out 4).trans rfl, (blk_cell BK359.out 5).trans rfl, ((HB.out.cell (World.block_lt_of_cell? w _ hw362_0)).trans hw362_0), ((HB.out.cell (World.block_lt_of_cell? w _ hw362_1)).trans hw362_1), ((HB.out.cell (World.block_lt_of_cell? w _ hw362_2)).trans hw362_2), ((HB.out.cell (World.block_lt_of_cell? w _ hw362_3)).trans hw362_3), ((HB.out.cell (World.block_lt_of_cell? w _ hw362_4)).trans hw362_4), ((HB.out.cell (World.block_lt_of_cell? w _ hw362_5)).trans hw362_5)⟩ (fun hHeld => ?_)
      clear hK K
      refine norm_ (a' := ?_) ?_ ?_
      rotate_left
      ·show Act.put _ (some 32) _ = _
       simp only [Act.put, List.setIfInBounds_toArray, List.set_cons_zero, List.set_cons_succ, i64_w, i32_w]
       rfl
      refine pure_ (i := 10) (N := some 33) (v := ?_) (a' := ?_) #[true, true, true, true, true, true, true, true, true, true, true, false] rfl rfl (any_of HT_.out (by kernel_rfl)) (fun _ _ _ h => h) (Or.inl ⟨by rfl, ?_⟩) ?_ ?_
      rotate_left
      ·intro w'
       go_simp
       with_reducible rfl
      rotate_left
      ·simp only [Act.put, List.setIfInBounds_toArray, List.set_cons_zero, List.set_cons_succ, i64_w, i32_w]
       rfl
      refine last_ (i := 11) (N := none) #[true, true, true, true, true, true, true, true, true, true, true, true] rfl rfl (one_of HT_.out (by kernel_rfl)) (by decide) (fun K hK => ?_)
      have hs22 : w19.cell? ⟨gb361, 4, none⟩ = some (u362004) := (blk_cell BK361.out 4).trans rfl
      have hfs22 := blk_frozen BK361.out 4
      have hns22_0 := NB359_361.out
      have hns22_1 := NB360_361.out
      have hms22_0 := NB361_359.out
      have hms22_1 := NB361_360.out
      refine skip_ (w1 := ?_) (by rfl) rfl ?_ ?_
      rotate_left
      ·go_simp
       rfl
      refine hK.out _ _ ?_
      clear hK K
      refine done_ (done_of HT_.out (by kernel_rfl)) ?_
      try go_wp2
      try simp only [Go.Proofs.YtfgfoofojofnmaaDoor.Hand.w64_mod256]
      go_roundg k1
      case measure => have := HK1.out; omega
      case rel => exact ⟨(wrap64 (x4_1 + 1)), (y371), (.slice Ao21 y371.length co21), (by first | rfl | (simp; done) | (simp [*]; done)), H', ⟨by have := HK1.out; omega⟩, ⟨by (with_reducible repeat (first | apply Kd.R_alloc | apply Kd.R_drewN | apply Kd.R_drew)); exact Kd.R_mono (Kd.R_far (p := ⟨gb361, 4, none⟩) (Kd.R_mono HO373.out (fun k_ hk => (⟨hk, hk.2⟩ : _ ∧ k_ ≠ gb361))) (fun _ hk => hk.2) (.slice Ao21 y371.length co21)) (fun _ hk => ⟨hk.1.1, hk.1.2⟩)⟩, ⟨by (with_reducible repeat (first | refine blk_drewN ?_ _ | refine blk_drew ?_ | refine blk_alloc ?_ _)); refine blk_far ?_ NB359_361.out _; (with_reducible repeat (first | refine blk_drewN ?_ _ | refine blk_drew ?_ | refine blk_alloc ?_ _)); exact BK359.out⟩, ⟨by (with_reducible repeat (first | refine blk_drewN ?_ _ | refine blk_drew ?_ | refine blk_alloc ?_ _)); refine blk_far ?_ NB360_361.out _; (with_reducible repeat (first | refine blk_drewN ?_ _ | refine blk_drew ?_ | refine blk_alloc ?_ _)); exact BK360.out⟩, ⟨by (with_reducible repeat (first | refine blk_drewN ?_ _ | refine blk_drew ?_ | refine blk_alloc ?_ _)); refine blk_put (cs := #[.int .i64 a0_0, .string a0_1, .int .i64 a0_2, .int .u64 a0_3, u362004, .int .i64 a0_5]) ?_ 4 _ rfl; (with_reducible repeat (first | refine blk_drewN ?_ _ | refine blk_drew ?_ | refine blk_alloc ?_ _)); exact BK361.out⟩, ⟨by repeat (first | (with_reducible first | exact HB.out | apply below_alloc | apply pw_below_drewN | apply below_drew1 | refine below_set ?_ GE359.out | refine below_set ?_ GE360.out | refine below_set ?_ GE361.out) | exact HB.out)⟩⟩
     ·rw [if_neg c13] at H
      exact absurd H (by simp)
    ·rw [if_neg c11] at H
     exact absurd H (by simp)
   ·rw [if_neg c10] at H
    have c10b0 : decide (x4_1 < (l0_4.length : Int)) = false := decide_eq_false c10
    clear c10
    simp only [Option.some.injEq, Prod.mk.injEq] at H
    obtain ⟨rfl, rfl, rfl, rfl, rfl, rfl⟩ := H
    have hnb23 := NB359_360.out
    have hnc23 := NB360_359.out
    have hnb24 := NB359_361.out
    have hnc24 := NB361_359.out
    have hcz25_0 : wr.cell? ⟨gb359, 0, none⟩ = some (.int .i64 a0_0) := (blk_cell BK359.out 0).trans rfl
    have hcz25_1 : wr.cell? ⟨gb359, 1, none⟩ = some (.string a0_1) := (blk_cell BK359.out 1).trans rfl
    have hcz25_2 : wr.cell? ⟨gb359, 2, none⟩ = some (.int .i64 a0_2) := (blk_cell BK359.out 2).trans rfl
    have hcz25_3 : wr.cell? ⟨gb359, 3, none⟩ = some (.int .u64 a0_3) := (blk_cell BK359.out 3).trans rfl
    have hcz25_4 : wr.cell? ⟨gb359, 4, none⟩ = some (.slice A0_4 l0_4.length c0_4) := (blk_cell BK359.out 4).trans rfl
    have hcz25_5 : wr.cell? ⟨gb359, 5, none⟩ = some (.int .i64 a0_5) := (blk_cell BK359.out 5).trans rfl
    have hfz25_0 := blk_frozen BK359.out 0
    have hfz25_1 := blk_frozen BK359.out 1
    have hfz25_2 := blk_frozen BK359.out 2
    have hfz25_3 := blk_frozen BK359.out 3
    have hfz25_4 := blk_frozen BK359.out 4
    have hfz25_5 := blk_frozen BK359.out 5
    have hnb26 := NB361_360.out
    have hnc26 := NB360_361.out
    have hcz27_0 : wr.cell? ⟨gb361, 0, none⟩ = some (.int .i64 a0_0) := (blk_cell BK361.out 0).trans rfl
    have hcz27_1 : wr.cell? ⟨gb361, 1, none⟩ = some (.string a0_1) := (blk_cell BK361.out 1).trans rfl
    have hcz27_2 : wr.cell? ⟨gb361, 2, none⟩ = some (.int .i64 a0_2) := (blk_cell BK361.out 2).trans rfl
    have hcz27_3 : wr.cell? ⟨gb361, 3, none⟩ = some (.int .u64 a0_3) := (blk_cell BK361.out 3).trans rfl
    have hcz27_4 : wr.cell? ⟨gb361, 4, none⟩ = some (u362004) := (blk_cell BK361.out 4).trans rfl
    have hcz27_5 : wr.cell? ⟨gb361, 5, none⟩ = some (.int .i64 a0_5) := (blk_cell BK361.out 5).trans rfl
    have hfz27_0 := blk_frozen BK361.out 0
    have hfz27_1 := blk_frozen BK361.out 1
    have hfz27_2 := blk_frozen BK361.out 2
    have hfz27_3 := blk_frozen BK361.out 3
    have hfz27_4 := blk_frozen BK361.out 4
    have hfz27_5 := blk_frozen BK361.out 5
    have hcz28_0 : wr.cell? ⟨gb360, 0, none⟩ = some (.int .i64 0) := (blk_cell BK360.out 0).trans rfl
    have hcz28_1 : wr.cell? ⟨gb360, 1, none⟩ = some (.string (⟨#[]⟩ : ByteArray)) := (blk_cell BK360.out 1).trans rfl
    have hcz28_2 : wr.cell? ⟨gb360, 2, none⟩ = some (.int .i64 0) := (blk_cell BK360.out 2).trans rfl
    have hcz28_3 : wr.cell? ⟨gb360, 3, none⟩ = some (.int .u64 0) := (blk_cell BK360.out 3).trans rfl
    have hcz28_4 : wr.cell? ⟨gb360, 4, none⟩ = some (.slice none 0 0) := (blk_cell BK360.out 4).trans rfl
    have hcz28_5 : wr.cell? ⟨gb360, 5, none⟩ = some (.int .i64 0) := (blk_cell BK360.out 5).trans rfl
    have hfz28_0 := blk_frozen BK360.out 0
    have hfz28_1 := blk_frozen BK360.out 1
    have hfz28_2 := blk_frozen BK360.out 2
    have hfz28_3 := blk_frozen BK360.out 3
    have hfz28_4 := blk_frozen BK360.out 4
    have hfz28_5 := blk_frozen BK360.out 5
    obtain ⟨Ao29, co29, eo29⟩ := Kd.R_slice HO_362004.out
    subst eo29
    go_wp2
    refine bodyPost_ret (results_cell_row rfl _ _ gb360 54 #[.int .i64 a0_0, .string a0_1, .int .i64 a0_2, .int .u64 a0_3, .slice Ao29 x362004_1.length co29, .int .i64 a0_5] (0, 0) _ rfl (by (with_reducible repeat (first | refine blk_drewN ?_ _ | refine blk_drew ?_ | refine blk_alloc ?_ _)); refine blk_put (cs := #[.int .i64 a0_0, .string a0_1, .int .i64 a0_2, .int .u64 a0_3, .slice Ao29 x362004_1.length co29, .int .i64 0]) ?_ 5 _ rfl; (with_reducible repeat (first | refine blk_drewN ?_ _ | refine blk_drew ?_ | refine blk_alloc ?_ _)); refine blk_put (cs := #[.int .i64 a0_0, .string a0_1, .int .i64 a0_2, .int .u64 a0_3, .slice none 0 0, .int .i64 0]) ?_ 4 _ rfl; (with_reducible repeat (first | refine blk_drewN ?_ _ | refine blk_drew ?_ | refine blk_alloc ?_ _)); refine blk_put (cs := #[.int .i64 a0_0, .string a0_1, .int .i64 a0_2, .int .u64 0, .slice none 0 0, .int .i64 0]) ?_ 3 _ rfl; (with_reducible repeat (first | refine blk_drewN ?_ _ | refine blk_drew ?_ | refine blk_alloc ?_ _)); refine blk_put (cs := #[.int .i64 a0_0, .string a0_1, .int .i64 0, .int .u64 0, .slice none 0 0, .int .i64 0]) ?_ 2 _ rfl; (with_reducible repeat (first | refine blk_drewN ?_ _ | refine blk_drew ?_ | refine blk_alloc ?_ _)); refine blk_put (cs := #[.int .i64 a0_0, .string (⟨#[]⟩ : ByteArray), .int .i64 0, .int .u64 0, .slice none 0 0, .int .i64 0]) ?_ 1 _ rfl; (with_reducible repeat (first | refine blk_drewN ?_ _ | refine blk_drew ?_ | refine blk_alloc ?_ _)); refine blk_put (cs := #[.int .i64 0, .string (⟨#[]⟩ : ByteArray), .int .i64 0, .int .u64 0, .slice none 0 0, .int .i64 0]) ?_ 0 _ rfl; (with_reducible repeat (first | refine blk_drewN ?_ _ | refine blk_drew ?_ | refine blk_alloc ?_ _)); exact BK360.out) Tryd.underlying54 rfl (by kernel_rfl)) rfl ?_
    exact ⟨_, by first | rfl | (simp [errW_none, errW_some] <;> rfl) | (simp [*, errW_none, errW_some] <;> rfl), by (with_reducible repeat (first | apply Kd.R_alloc | apply Kd.R_drewN | apply Kd.R_drew)); exact Kd.R_mono (Kd.R_far (p := ⟨gb360, 5, none⟩) (Kd.R_far (p := ⟨gb360, 4, none⟩) (Kd.R_far (p := ⟨gb360, 3, none⟩) (Kd.R_far (p := ⟨gb360, 2, none⟩) (Kd.R_far (p := ⟨gb360, 1, none⟩) (Kd.R_far (p := ⟨gb360, 0, none⟩) (Kd.R_mono HO_362004.out (fun k_ hk => (⟨hk, hk.1⟩ : _ ∧ k_ ≠ gb360))) (fun _ hk => hk.2) (.int .i64 a0_0)) (fun _ hk => hk.2) (.string a0_1)) (fun _ hk => hk.2) (.int .i64 a0_2)) (fun _ hk => hk.2) (.int .u64 a0_3)) (fun _ hk => hk.2) (.slice Ao29 x362004_1.length co29)) (fun _ hk => hk.2) (.int .i64 a0_5)) (fun _ hk => trivial), by repeat (first | (with_reducible first | exact HB.out | apply below_alloc | apply pw_below_drewN | apply below_drew1 | refine below_set ?_ GE359.out | refine below_set ?_ GE360.out | refine below_set ?_ GE361.out) | exact HB.out)⟩

end Go.Proofs.YtfgfoofojofnmaaDoor.Q
