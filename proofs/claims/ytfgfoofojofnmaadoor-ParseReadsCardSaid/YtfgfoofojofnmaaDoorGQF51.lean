import Derived.Test.YtfgfoofojofnmaaDoorGQ0
set_option linter.unusedVariables false
set_option linter.unusedSimpArgs false
-- Written by a program of this session's (wip/tools/hprint.py, over the kit's print.py). Not trusted: Lean checks it.
namespace Go.Proofs.YtfgfoofojofnmaaDoor.Q
open Go.RowKit Go.Proofs.YtfgfoofojofnmaaDoorW.PrintWords Go.Proofs.YtfgfoofojofnmaaDoorW.PrintLast Go.Proofs.YtfgfoofojofnmaaDoorW.PrintMore
attribute [local go_sem] Go.Proofs.YtfgfoofojofnmaaDoor.Hand.w64_mod256 Go.Proofs.YtfgfoofojofnmaaDoor.Hand.w64_mod32 max2_int min2_int max_two min_two max_three min_three max_four min_four   -- for this text's walks alone
set_option linter.unusedVariables false
set_option linter.unusedSimpArgs false

/-! ### parse_depth: function 51 -/
mutual
def parse_depth.l0 : Nat → Int → List (S44) → Int → Int → Option (Int)
  | 0, _, _, _, _ => none
  | k + 1, x3, x7, x8, x9 => if x9 < x8 then (if 0 ≤ x9 then (if x9 < (x7.length : Int) then ((parse_depth.f k ((rd_T44 x7 x9).f0) ((rd_T44 x7 x9).f1) ((rd_T44 x7 x9).f2) ((rd_T44 x7 x9).f3) ((rd_T44 x7 x9).f4) ((rd_T44 x7 x9).f5)).bind fun t282 => (parse_depth.l0 k (mx x3 t282) x7 x8 (wrap64 (x9 + 1)))) else (none)) else (none)) else (some (wrap64 (x3 + 1)))
def parse_depth.f : Nat → Int → ByteArray → Int → Int → List (S44) → Int → Option (Int)
  | 0, _, _, _, _, _, _ => none
  | k + 1, a0_0, a0_1, a0_2, a0_3, l0_4, a0_5 => parse_depth.l0 k 0 l0_4 (l0_4.length : Int) 0
end
theorem parse_depth.mono_l : ∀ k, (∀ y0 y1 y2 y3 y4 y5, LeO (parse_depth.f k y0 y1 y2 y3 y4 y5) (parse_depth.f (k + 1) y0 y1 y2 y3 y4 y5)) ∧ (∀ y0 y1 y2 y3, LeO (parse_depth.l0 k y0 y1 y2 y3) (parse_depth.l0 (k + 1) y0 y1 y2 y3))
  | 0 => ⟨fun _ _ _ _ _ _ r h => by simp [parse_depth.f] at h, fun _ _ _ _ r h => by simp [parse_depth.l0] at h⟩
  | k + 1 => by
    obtain ⟨ih0, ih1⟩ := parse_depth.mono_l k
    refine ⟨?_, ?_⟩
    · intro y0 y1 y2 y3 y4 y5
      unfold parse_depth.f
      repeat' first
      | (with_reducible exact ih0 _ _ _ _ _ _)
      | (with_reducible exact ih1 _ _ _ _)
      | (with_reducible exact LeO.refl _)
      | (with_reducible exact LeO.none _)
      | (with_reducible refine LeO.ite ?_ ?_)
      | (with_reducible refine LeO.bind ?_ (fun _ => ?_))
      | exact ih0 _ _ _ _ _ _
      | exact ih1 _ _ _ _
      | exact LeO.none _
      | refine LeO.ite ?_ ?_
      | refine LeO.bind ?_ (fun _ => ?_)
    · intro y0 y1 y2 y3
      unfold parse_depth.l0
      repeat' first
      | (with_reducible exact ih0 _ _ _ _ _ _)
      | (with_reducible exact ih1 _ _ _ _)
      | (with_reducible exact LeO.refl _)
      | (with_reducible exact LeO.none _)
      | (with_reducible refine LeO.ite ?_ ?_)
      | (with_reducible refine LeO.bind ?_ (fun _ => ?_))
      | exact ih0 _ _ _ _ _ _
      | exact ih1 _ _ _ _
      | exact LeO.none _
      | refine LeO.ite ?_ ?_
      | refine LeO.bind ?_ (fun _ => ?_)
theorem parse_depth.mono : ∀ a0 a1 a2 a3 a4 a5 k, LeO (parse_depth.f k a0 a1 a2 a3 a4 a5) (parse_depth.f (k + 1) a0 a1 a2 a3 a4 a5) := by
  intro a0 a1 a2 a3 a4 a5 k
  obtain ⟨ih0, ih1⟩ := parse_depth.mono_l k
  exact ih0 a0 a1 a2 a3 a4 a5
set_option maxHeartbeats 8000000 in
set_option maxRecDepth 100000 in
theorem parse_depth.calls (k : Nat) : ∀ (a0_0 : Int) (a0_1 : ByteArray) (a0_2 : Int) (a0_3 : Int) (A0_4 : Option Addr) (c0_4 : Nat) (l0_4 : List (S44)) (a0_5 : Int) (r : Int) (w : World) (hr0_4 : Kd.C k44 w A0_4 l0_4.length l0_4) (hc0_4 : l0_4.length ≤ c0_4) (h : parse_depth.f k a0_0 a0_1 a0_2 a0_3 l0_4 a0_5 = some r),
    Calls Tryd.prog 51 #[.agg #[.int .i64 a0_0, .string a0_1, .int .i64 a0_2, .int .u64 a0_3, .slice A0_4 l0_4.length c0_4, .int .i64 a0_5]] w fun e w' => e = .returned (.int .i64 r) ∧ Below w.heap.size w w' := by
  induction k using Nat.strongRecOn with
  | _ k ih =>
  intro a0_0 a0_1 a0_2 a0_3 A0_4 c0_4 l0_4 a0_5 r w hr0_4 hc0_4 h
  cases k with
  | zero => exact absurd h (by simp [parse_depth.f])
  | succ k =>
  simp only [parse_depth.f] at h
  have hu44 := Tryd.underlying44
  have HR0_4 := Aside0.mk hr0_4
  have HC0_4 := Aside0.mk hc0_4
  clear hr0_4 hc0_4
  have HB := Aside0.mk (Below.refl w.heap.size w)
  have H : (parse_depth.l0 k 0 l0_4 (l0_4.length : Int) 0) = some r := h
  clear h
  have H' := Aside0.mk H
  clear H
  go_enter Tryd.func51, Tryd.ntmps51
  go_wp2_with (first | ((with_reducible refine gate_dst (N := 1) rfl ?_); refine box_event ?hg (N := 1) ?hd (cs := #[.int .i64 a0_0, .string a0_1, .int .i64 a0_2, .int .u64 a0_3, .slice A0_4 l0_4.length c0_4, .int .i64 a0_5]) (t := 44) ?hr ?_; (case hd => rfl); (case hg => rfl); (case hr => first | (go_simp; done) | (go_simp; rfl)); intro gb279 hg w2 hbox hb; have n0_ := Aside0.mk (below_step (by repeat (first | (with_reducible first | exact HB.out | apply below_alloc | apply pw_below_drewN | apply below_drew1) | exact HB.out)) hb); have n1_ := Aside0.mk (hbox); have n2_ := Aside0.mk ((by rw [hg]; exact (below_size (by repeat (first | (with_reducible first | exact HB.out | apply below_alloc | apply pw_below_drewN | apply below_drew1) | exact HB.out))) : w.heap.size ≤ gb279)); have n3_ := Aside0.mk ((by rw [hg]; exact (below_size (by repeat (first | (with_reducible first | exact HB.out | apply below_alloc | apply pw_below_drewN | apply below_drew1) | exact HB.out))) : w.heap.size ≤ gb279)); clear HB; have HB := n0_; have BK279 := n1_; have GW279 := n2_; have GE279 := n3_; clear n0_ n1_ n2_ n3_; clear hb hbox hg; have hcz3_0 : w2.cell? ⟨gb279, 0, none⟩ = some (.int .i64 a0_0) := (blk_cell BK279.out 0).trans rfl; have hcz3_1 : w2.cell? ⟨gb279, 1, none⟩ = some (.string a0_1) := (blk_cell BK279.out 1).trans rfl; have hcz3_2 : w2.cell? ⟨gb279, 2, none⟩ = some (.int .i64 a0_2) := (blk_cell BK279.out 2).trans rfl; have hcz3_3 : w2.cell? ⟨gb279, 3, none⟩ = some (.int .u64 a0_3) := (blk_cell BK279.out 3).trans rfl; have hcz3_4 : w2.cell? ⟨gb279, 4, none⟩ = some (.slice A0_4 l0_4.length c0_4) := (blk_cell BK279.out 4).trans rfl; have hcz3_5 : w2.cell? ⟨gb279, 5, none⟩ = some (.int .i64 a0_5) := (blk_cell BK279.out 5).trans rfl; have hfz3_0 := blk_frozen BK279.out 0; have hfz3_1 := blk_frozen BK279.out 1; have hfz3_2 := blk_frozen BK279.out 2; have hfz3_3 := blk_frozen BK279.out 3; have hfz3_4 := blk_frozen BK279.out 4; have hfz3_5 := blk_frozen BK279.out 5))
  go_loopg [3, 9] k (fun kq v3 v9 w' => ∃ (x3_1 : Int) (x9_1 : Int), v3 = .int .i64 x3_1 ∧ v9 = .int .i64 x9_1 ∧ Aside0 (parse_depth.l0 kq x3_1 l0_4 (l0_4.length : Int) x9_1 = some r) ∧ Aside0 (kq ≤ k) ∧ Aside0 (w'.heap[gb279]? = some (.cells #[.int .i64 a0_0, .string a0_1, .int .i64 a0_2, .int .u64 a0_3, (.slice A0_4 l0_4.length c0_4), .int .i64 a0_5] 44 (0, 0))) ∧ Aside0 (Below w.heap.size w w'))
  case atStart => exact ⟨(0), (0), (by first | rfl | (simp; done) | (simp [*]; done)), (by first | rfl | (simp; done) | (simp [*]; done)), H', ⟨Nat.le_refl _⟩, ⟨by (with_reducible repeat (first | refine blk_drewN ?_ _ | refine blk_drew ?_ | refine blk_alloc ?_ _)); exact BK279.out⟩, ⟨by repeat (first | (with_reducible first | exact HB.out | apply below_alloc | apply pw_below_drewN | apply below_drew1 | refine below_set ?_ GE279.out) | exact HB.out)⟩⟩
  case round =>
    clear H'
    obtain ⟨x3_1, x9_1, rfl, rfl, HA, HK1, BK279, HB⟩ := hrel
    cases gk with
    | zero => exact absurd HA.out (by simp [parse_depth.l0])
    | succ k1 =>
      have H := HA.out
      clear HA
      simp only [parse_depth.l0] at H
      by_cases c4 : x9_1 < (l0_4.length : Int)
      · rw [if_pos c4] at H
        have c4b0 : decide (x9_1 < (l0_4.length : Int)) = true := decide_eq_true c4
        clear c4
        by_cases c5 : 0 ≤ x9_1
        · rw [if_pos c5] at H
          have c5b0 : decide (0 ≤ x9_1) = true := decide_eq_true c5
          clear c5
          by_cases c6 : x9_1 < (l0_4.length : Int)
          · rw [if_pos c6] at H
            have c6b0 : decide (x9_1 < (l0_4.length : Int)) = true := decide_eq_true c6
            clear c6
            replace H := Option.bind_eq_some_iff.mp H
            obtain ⟨t282, A70, H⟩ := H
            replace H : (parse_depth.l0 k1 (mx x3_1 t282) l0_4 (l0_4.length : Int) (wrap64 (x9_1 + 1))) = some r := H
            have A7 := Aside0.mk A70
            clear A70
            obtain ⟨ji8, hji8⟩ : ∃ j_ : Int, (mx x3_1 t282) = j_ := ⟨_, rfl⟩
            replace H : (parse_depth.l0 k1 ji8 l0_4 (l0_4.length : Int) (wrap64 (x9_1 + 1))) = some r := by first | (rw [hji8] at H; exact H) | (simp only [hji8] at H ⊢; exact H)
            (try rw [hji8] at A7)
            have hji8_ : (if x3_1 < t282 then t282 else x3_1) = ji8 := hji8
            have H' := Aside0.mk H
            clear H
            have p280 : 0 ≤ (x9_1 : Int) := of_decide_eq_true (by first | (with_reducible assumption) | assumption)
            have q280 : x9_1 < (l0_4.length : Int) := of_decide_eq_true (by first | (with_reducible assumption) | assumption)
            obtain ⟨ad280, A280_4, c280_4, e280, hx280_0, hx280_1, hx280_2, hx280_3, hx280_4, hx280_5, hl280_4, hi280_4⟩ := at_T44 HR0_4.out x9_1 p280 q280
            cases e280
            replace hx280_0 := (HB.out.cell (World.block_lt_of_cell? w _ hx280_0)).trans hx280_0
            replace hx280_1 := (HB.out.cell (World.block_lt_of_cell? w _ hx280_1)).trans hx280_1
            replace hx280_2 := (HB.out.cell (World.block_lt_of_cell? w _ hx280_2)).trans hx280_2
            replace hx280_3 := (HB.out.cell (World.block_lt_of_cell? w _ hx280_3)).trans hx280_3
            replace hx280_4 := (HB.out.cell (World.block_lt_of_cell? w _ hx280_4)).trans hx280_4
            replace hx280_5 := (HB.out.cell (World.block_lt_of_cell? w _ hx280_5)).trans hx280_5
            have HR280_4 := Aside0.mk hi280_4
            have HC280_4 := Aside0.mk hl280_4
            clear hi280_4 hl280_4
            replace p280 := eq_true p280
            replace q280 := eq_true q280
            go_wp2_with (first | ((with_reducible refine gate_dst (N := 5) rfl ?_); refine box_event ?hg (N := 5) ?hd (cs := #[.int .i64 0, .string (⟨#[]⟩ : ByteArray), .int .i64 0, .int .u64 0, .slice none 0 0, .int .i64 0]) (t := 44) ?hr ?_; (case hd => rfl); (case hg => rfl); (case hr => first | (go_simp; done) | (go_simp; rfl)); intro gb281 hg w9 hbox hb; have n0_ := Aside0.mk (blk_below (g := gb279) (o := .cells #[.int .i64 a0_0, .string a0_1, .int .i64 a0_2, .int .u64 a0_3, .slice (some ad280) l0_4.length c0_4, .int .i64 a0_5] 44 (0, 0)) (by (with_reducible repeat (first | refine blk_drewN ?_ _ | refine blk_drew ?_ | refine blk_alloc ?_ _)); exact BK279.out) hb); have n1_ := Aside0.mk (below_step (by repeat (first | (with_reducible first | exact HB.out | apply below_alloc | apply pw_below_drewN | apply below_drew1 | refine below_set ?_ GE279.out) | exact HB.out)) hb); have n2_ := Aside0.mk (hbox); have n3_ := Aside0.mk ((by rw [hg]; exact (below_size (by repeat (first | (with_reducible first | exact HB.out | apply below_alloc | apply pw_below_drewN | apply below_drew1 | refine below_set ?_ GE279.out) | exact HB.out))) : w.heap.size ≤ gb281)); have n4_ := Aside0.mk ((by rw [hg]; exact (below_size (by repeat (first | (with_reducible first | exact HB.out | apply below_alloc | apply pw_below_drewN | apply below_drew1 | refine below_set ?_ GE279.out) | exact HB.out))) : w.heap.size ≤ gb281)); have n5_ := Aside0.mk ((by rw [hg]; exact Nat.ne_of_lt (blk_lt (g := gb279) (o := .cells #[.int .i64 a0_0, .string a0_1, .int .i64 a0_2, .int .u64 a0_3, .slice (some ad280) l0_4.length c0_4, .int .i64 a0_5] 44 (0, 0)) (by (with_reducible repeat (first | refine blk_drewN ?_ _ | refine blk_drew ?_ | refine blk_alloc ?_ _)); exact BK279.out)) : gb279 ≠ gb281)); have n6_ := Aside0.mk ((by rw [hg]; exact Nat.ne_of_gt (blk_lt (g := gb279) (o := .cells #[.int .i64 a0_0, .string a0_1, .int .i64 a0_2, .int .u64 a0_3, .slice (some ad280) l0_4.length c0_4, .int .i64 a0_5] 44 (0, 0)) (by (with_reducible repeat (first | refine blk_drewN ?_ _ | refine blk_drew ?_ | refine blk_alloc ?_ _)); exact BK279.out)) : gb281 ≠ gb279)); clear BK279; clear HB; have BK279 := n0_; have HB := n1_; have BK281 := n2_; have GW281 := n3_; have GE281 := n4_; have NB279_281 := n5_; have NB281_279 := n6_; clear n0_ n1_ n2_ n3_ n4_ n5_ n6_; clear hb hbox hg; have hnb10 := NB281_279.out; have hnc10 := NB279_281.out; have hcz11_0 : w9.cell? ⟨gb281, 0, none⟩ = some (.int .i64 0) := (blk_cell BK281.out 0).trans rfl; have hcz11_1 : w9.cell? ⟨gb281, 1, none⟩ = some (.string (⟨#[]⟩ : ByteArray)) := (blk_cell BK281.out 1).trans rfl; have hcz11_2 : w9.cell? ⟨gb281, 2, none⟩ = some (.int .i64 0) := (blk_cell BK281.out 2).trans rfl; have hcz11_3 : w9.cell? ⟨gb281, 3, none⟩ = some (.int .u64 0) := (blk_cell BK281.out 3).trans rfl; have hcz11_4 : w9.cell? ⟨gb281, 4, none⟩ = some (.slice none 0 0) := (blk_cell BK281.out 4).trans rfl; have hcz11_5 : w9.cell? ⟨gb281, 5, none⟩ = some (.int .i64 0) := (blk_cell BK281.out 5).trans rfl; have hfz11_0 := blk_frozen BK281.out 0; have hfz11_1 := blk_frozen BK281.out 1; have hfz11_2 := blk_frozen BK281.out 2; have hfz11_3 := blk_frozen BK281.out 3; have hfz11_4 := blk_frozen BK281.out 4; have hfz11_5 := blk_frozen BK281.out 5) | ((with_reducible refine gate_callee (f := 51) rfl ?_); refine goesL_ (some 15) rfl rfl Tryd.func51 (by kernel_rfl) rfl #[.agg #[.int .i64 ((rd_T44 l0_4 x9_1).f0), .string ((rd_T44 l0_4 x9_1).f1), .int .i64 ((rd_T44 l0_4 x9_1).f2), .int .u64 ((rd_T44 l0_4 x9_1).f3), .slice A280_4 ((rd_T44 l0_4 x9_1).f4).length c280_4, .int .i64 ((rd_T44 l0_4 x9_1).f5)]] rfl (by (try simp only [List.map_toArray, List.map_cons, List.map_nil]); first | done | rfl | (simp only [List.length_drop, List.length_take]; rfl)) ?_; (with_reducible refine (ih k1 (by have := HK1.out; omega) ((rd_T44 l0_4 x9_1).f0) ((rd_T44 l0_4 x9_1).f1) ((rd_T44 l0_4 x9_1).f2) ((rd_T44 l0_4 x9_1).f3) _ _ ((rd_T44 l0_4 x9_1).f4) ((rd_T44 l0_4 x9_1).f5) t282 _ ?side1 ?side2 A7.out).mono ?_); (case side1 => exact Kd.C_below HR280_4.out (by repeat (first | (with_reducible first | exact HB.out | apply below_alloc | apply pw_below_drewN | apply below_drew1 | refine below_set ?_ GE279.out | refine below_set ?_ GE281.out) | exact HB.out))); (case side2 => exact HC280_4.out); rintro e w12 ⟨rfl, hb⟩; refine ⟨_, rfl, ?_⟩; have n0_ := Aside0.mk (blk_below (g := gb279) (o := .cells #[.int .i64 a0_0, .string a0_1, .int .i64 a0_2, .int .u64 a0_3, .slice (some ad280) l0_4.length c0_4, .int .i64 a0_5] 44 (0, 0)) (by (with_reducible repeat (first | refine blk_drewN ?_ _ | refine blk_drew ?_ | refine blk_alloc ?_ _)); refine blk_far ?_ NB279_281.out _; (with_reducible repeat (first | refine blk_drewN ?_ _ | refine blk_drew ?_ | refine blk_alloc ?_ _)); refine blk_far ?_ NB279_281.out _; (with_reducible repeat (first | refine blk_drewN ?_ _ | refine blk_drew ?_ | refine blk_alloc ?_ _)); refine blk_far ?_ NB279_281.out _; (with_reducible repeat (first | refine blk_drewN ?_ _ | refine blk_drew ?_ | refine blk_alloc ?_ _)); refine blk_far ?_ NB279_281.out _; (with_reducible repeat (first | refine blk_drewN ?_ _ | refine blk_drew ?_ | refine blk_alloc ?_ _)); refine blk_far ?_ NB279_281.out _; (with_reducible repeat (first | refine blk_drewN ?_ _ | refine blk_drew ?_ | refine blk_alloc ?_ _)); refine blk_far ?_ NB279_281.out _; (with_reducible repeat (first | refine blk_drewN ?_ _ | refine blk_drew ?_ | refine blk_alloc ?_ _)); exact BK279.out) hb); have n1_ := Aside0.mk (blk_below (g := gb281) (o := .cells #[.int .i64 ((rd_T44 l0_4 x9_1).f0), .string ((rd_T44 l0_4 x9_1).f1), .int .i64 ((rd_T44 l0_4 x9_1).f2), .int .u64 ((rd_T44 l0_4 x9_1).f3), .slice A280_4 ((rd_T44 l0_4 x9_1).f4).length c280_4, .int .i64 ((rd_T44 l0_4 x9_1).f5)] 44 (0, 0)) (by (with_reducible repeat (first | refine blk_drewN ?_ _ | refine blk_drew ?_ | refine blk_alloc ?_ _)); refine blk_put (cs := #[.int .i64 ((rd_T44 l0_4 x9_1).f0), .string ((rd_T44 l0_4 x9_1).f1), .int .i64 ((rd_T44 l0_4 x9_1).f2), .int .u64 ((rd_T44 l0_4 x9_1).f3), .slice A280_4 ((rd_T44 l0_4 x9_1).f4).length c280_4, .int .i64 0]) ?_ 5 _ rfl; (with_reducible repeat (first | refine blk_drewN ?_ _ | refine blk_drew ?_ | refine blk_alloc ?_ _)); refine blk_put (cs := #[.int .i64 ((rd_T44 l0_4 x9_1).f0), .string ((rd_T44 l0_4 x9_1).f1), .int .i64 ((rd_T44 l0_4 x9_1).f2), .int .u64 ((rd_T44 l0_4 x9_1).f3), .slice none 0 0, .int .i64 0]) ?_ 4 _ rfl; (with_reducible repeat (first | refine blk_drewN ?_ _ | refine blk_drew ?_ | refine blk_alloc ?_ _)); refine blk_put (cs := #[.int .i64 ((rd_T44 l0_4 x9_1).f0), .string ((rd_T44 l0_4 x9_1).f1), .int .i64 ((rd_T44 l0_4 x9_1).f2), .int .u64 0, .slice none 0 0, .int .i64 0]) ?_ 3 _ rfl; (with_reducible repeat (first | refine blk_drewN ?_ _ | refine blk_drew ?_ | refine blk_alloc ?_ _)); refine blk_put (cs := #[.int .i64 ((rd_T44 l0_4 x9_1).f0), .string ((rd_T44 l0_4 x9_1).f1), .int .i64 0, .int .u64 0, .slice none 0 0, .int .i64 0]) ?_ 2 _ rfl; (with_reducible repeat (first | refine blk_drewN ?_ _ | refine blk_drew ?_ | refine blk_alloc ?_ _)); refine blk_put (cs := #[.int .i64 ((rd_T44 l0_4 x9_1).f0), .string (⟨#[]⟩ : ByteArray), .int .i64 0, .int .u64 0, .slice none 0 0, .int .i64 0]) ?_ 1 _ rfl; (with_reducible repeat (first | refine blk_drewN ?_ _ | refine blk_drew ?_ | refine blk_alloc ?_ _)); refine blk_put (cs := #[.int .i64 0, .string (⟨#[]⟩ : ByteArray), .int .i64 0, .int .u64 0, .slice none 0 0, .int .i64 0]) ?_ 0 _ rfl; (with_reducible repeat (first | refine blk_drewN ?_ _ | refine blk_drew ?_ | refine blk_alloc ?_ _)); exact BK281.out) hb); have n2_ := Aside0.mk (below_step (by repeat (first | (with_reducible first | exact HB.out | apply below_alloc | apply pw_below_drewN | apply below_drew1 | refine below_set ?_ GE279.out | refine below_set ?_ GE281.out) | exact HB.out)) hb); clear BK279; clear BK281; clear HB; have BK279 := n0_; have BK281 := n1_; have HB := n2_; clear n0_ n1_ n2_; (try clear hb); (try clear hb2); (try clear hk); (try clear hi)))
            go_roundg k1
            case measure => have := HK1.out; omega
            case rel => exact ⟨(ji8), (wrap64 (x9_1 + 1)), (by first | rfl | (simp; done) | (simp only [← hji8] <;> (first | rfl | simp)) | (simp [*]; done)), (by first | rfl | (simp; done) | (simp [*]; done)), H', ⟨by have := HK1.out; omega⟩, ⟨by (with_reducible repeat (first | refine blk_drewN ?_ _ | refine blk_drew ?_ | refine blk_alloc ?_ _)); exact BK279.out⟩, ⟨by repeat (first | (with_reducible first | exact HB.out | apply below_alloc | apply pw_below_drewN | apply below_drew1 | refine below_set ?_ GE279.out | refine below_set ?_ GE281.out) | exact HB.out)⟩⟩
          · rw [if_neg c6] at H
            exact absurd H (by simp)
        · rw [if_neg c5] at H
          exact absurd H (by simp)
      · rw [if_neg c4] at H
        have c4b0 : decide (x9_1 < (l0_4.length : Int)) = false := decide_eq_false c4
        clear c4
        obtain rfl := Option.some.inj H
        go_wp2
        go_ret
        exact ⟨by first | rfl | (simp [errW_none, errW_some] <;> rfl) | (simp [*, errW_none, errW_some] <;> rfl), by repeat (first | (with_reducible first | exact HB.out | apply below_alloc | apply pw_below_drewN | apply below_drew1 | refine below_set ?_ GE279.out) | exact HB.out)⟩

end Go.Proofs.YtfgfoofojofnmaaDoor.Q
