-- Written by a program of this session's (wip/tools/hprint.py, over the kit's print.py). Not trusted: Lean checks it.
import Derived.Test.YtfgfoofojofnmaaDoorQ0
import Derived.Test.YtfgfoofojofnmaaDoorQF35
import Derived.Test.YtfgfoofojofnmaaDoorQF54
import Derived.Test.YtfgfoofojofnmaaDoorQF55
namespace Go.Proofs.YtfgfoofojofnmaaDoor.Q
open Go.RowKit Go.Proofs.YtfgfoofojofnmaaDoorW.PrintWords Go.Proofs.YtfgfoofojofnmaaDoorW.PrintLast Go.Proofs.YtfgfoofojofnmaaDoorW.PrintMore
attribute [local go_sem] Go.Proofs.YtfgfoofojofnmaaDoor.Hand.w64_mod256 Go.Proofs.YtfgfoofojofnmaaDoor.Hand.w64_mod32 max2_int min2_int max_two min_two max_three min_three max_four min_four   -- for this text's walks alone
set_option linter.unusedVariables false
set_option linter.unusedSimpArgs false

/-! ### forebearref24_Check: function 24 -/
mutual
def forebearref24_Check.j0 : Nat → Int → Bool → Int → ByteArray → Int → Int → List (S54) → Int → Option (Int × Int × Int)
  | 0, _, _, _, _, _, _, _, _ => none
  | k + 1, x14, x15, x342000, x342001, x342002, x342003, x342004, x342005 => if x15 = true then (some (1, 0, 0)) else (if x14 = 3 then (some (2, 0, 0)) else (if x14 = 4 then (some (3, 0, 0)) else (if x342000 = 5 then ((forebearref24_Names.f).bind fun t345 => ((forebearref24_among.f k x342001 t345).bind fun t348 => (if t348 = true then ((forebearref24_takes.f k x342001 (x342004.length : Int)).bind fun bt349 => (if bt349.2 = true then (if x342001.toList = ([99, 111, 117, 110, 116] : List UInt8) then (forebearref24_Check.j1 k bt349.1 2 x342000 x342001 x342002 x342003 x342004 x342005) else (forebearref24_Check.j1 k bt349.1 1 x342000 x342001 x342002 x342003 x342004 x342005)) else (some (0, x342005, 34)))) else (some (0, x342005, 33))))) else (forebearref24_Check.j1 k (([1, 1] : List Int)) 1 x342000 x342001 x342002 x342003 x342004 x342005))))
def forebearref24_Check.j1 : Nat → List Int → Int → Int → ByteArray → Int → Int → List (S54) → Int → Option (Int × Int × Int)
  | 0, _, _, _, _, _, _, _, _ => none
  | k + 1, x5, x6, x342000, x342001, x342002, x342003, x342004, x342005 => forebearref24_Check.l0 k x5 x6 0 x342000 x342001 x342002 x342003 x342004 x342005
def forebearref24_Check.l0 : Nat → List Int → Int → Int → Int → ByteArray → Int → Int → List (S54) → Int → Option (Int × Int × Int)
  | 0, _, _, _, _, _, _, _, _, _ => none
  | k + 1, x5, x6, x9, x342000, x342001, x342002, x342003, x342004, x342005 => if x9 < (x342004.length : Int) then (if 0 ≤ x9 then ((forebearref24_Check.f k ((rd_T54 x342004 x9).f0) ((rd_T54 x342004 x9).f1) ((rd_T54 x342004 x9).f2) ((rd_T54 x342004 x9).f3) ((rd_T54 x342004 x9).f4) ((rd_T54 x342004 x9).f5)).bind fun bt354 => (if bt354.2.2 = 0 then (if x9 < (x5.length : Int) then (if bt354.1 = (rd x5 x9) then (forebearref24_Check.l0 k x5 x6 (wrap64 (x9 + 1)) x342000 x342001 x342002 x342003 x342004 x342005) else (some (0, (rd_T54 x342004 x9).f5, 35))) else (none)) else (some (0, bt354.2.1, bt354.2.2)))) else (none)) else (some (x6, 0, 0))
def forebearref24_Check.f : Nat → Int → ByteArray → Int → Int → List (S54) → Int → Option (Int × Int × Int)
  | 0, _, _, _, _, _, _ => none
  | k + 1, a0_0, a0_1, a0_2, a0_3, l0_4, a0_5 => if a0_0 = 1 then (forebearref24_Check.j0 k a0_0 (a0_0 == 1) a0_0 a0_1 a0_2 a0_3 l0_4 a0_5) else (forebearref24_Check.j0 k a0_0 (a0_0 == 2) a0_0 a0_1 a0_2 a0_3 l0_4 a0_5)
end
theorem forebearref24_Check.mono_l : ∀ k, (∀ y0 y1 y2 y3 y4 y5, LeO (forebearref24_Check.f k y0 y1 y2 y3 y4 y5) (forebearref24_Check.f (k + 1) y0 y1 y2 y3 y4 y5)) ∧ (∀ y0 y1 y2 y3 y4 y5 y6 y7, LeO (forebearref24_Check.j0 k y0 y1 y2 y3 y4 y5 y6 y7) (forebearref24_Check.j0 (k + 1) y0 y1 y2 y3 y4 y5 y6 y7)) ∧ (∀ y0 y1 y2 y3 y4 y5 y6 y7, LeO (forebearref24_Check.j1 k y0 y1 y2 y3 y4 y5 y6 y7) (forebearref24_Check.j1 (k + 1) y0 y1 y2 y3 y4 y5 y6 y7)) ∧ (∀ y0 y1 y2 y3 y4 y5 y6 y7 y8, LeO (forebearref24_Check.l0 k y0 y1 y2 y3 y4 y5 y6 y7 y8) (forebearref24_Check.l0 (k + 1) y0 y1 y2 y3 y4 y5 y6 y7 y8))
  | 0 => ⟨fun _ _ _ _ _ _ r h => by simp [forebearref24_Check.f] at h, fun _ _ _ _ _ _ _ _ r h => by simp [forebearref24_Check.j0] at h, fun _ _ _ _ _ _ _ _ r h => by simp [forebearref24_Check.j1] at h, fun _ _ _ _ _ _ _ _ _ r h => by simp [forebearref24_Check.l0] at h⟩
  | k + 1 => by
    obtain ⟨ih0, ih1, ih2, ih3⟩ := forebearref24_Check.mono_l k
    refine ⟨?_, ?_, ?_, ?_⟩
    · intro y0 y1 y2 y3 y4 y5
      unfold forebearref24_Check.f
      repeat' first
      | (with_reducible exact ih0 _ _ _ _ _ _)
      | (with_reducible exact ih1 _ _ _ _ _ _ _ _)
      | (with_reducible exact ih2 _ _ _ _ _ _ _ _)
      | (with_reducible exact ih3 _ _ _ _ _ _ _ _ _)
      | (with_reducible exact forebearref24_among.mono _ _ _)
      | (with_reducible exact forebearref24_takes.mono _ _ _)
      | (with_reducible exact LeO.refl _)
      | (with_reducible exact LeO.none _)
      | (with_reducible refine LeO.ite ?_ ?_)
      | (with_reducible refine LeO.bind ?_ (fun _ => ?_))
      | exact ih0 _ _ _ _ _ _
      | exact ih1 _ _ _ _ _ _ _ _
      | exact ih2 _ _ _ _ _ _ _ _
      | exact ih3 _ _ _ _ _ _ _ _ _
      | exact forebearref24_among.mono _ _ _
      | exact forebearref24_takes.mono _ _ _
      | exact LeO.none _
      | refine LeO.ite ?_ ?_
      | refine LeO.bind ?_ (fun _ => ?_)
    · intro y0 y1 y2 y3 y4 y5 y6 y7
      unfold forebearref24_Check.j0
      repeat' first
      | (with_reducible exact ih0 _ _ _ _ _ _)
      | (with_reducible exact ih1 _ _ _ _ _ _ _ _)
      | (with_reducible exact ih2 _ _ _ _ _ _ _ _)
      | (with_reducible exact ih3 _ _ _ _ _ _ _ _ _)
      | (with_reducible exact forebearref24_among.mono _ _ _)
      | (with_reducible exact forebearref24_takes.mono _ _ _)
      | (with_reducible exact LeO.refl _)
      | (with_reducible exact LeO.none _)
      | (with_reducible refine LeO.ite ?_ ?_)
      | (with_reducible refine LeO.bind ?_ (fun _ => ?_))
      | exact ih0 _ _ _ _ _ _
      | exact ih1 _ _ _ _ _ _ _ _
      | exact ih2 _ _ _ _ _ _ _ _
      | exact ih3 _ _ _ _ _ _ _ _ _
      | exact forebearref24_among.mono _ _ _
      | exact forebearref24_takes.mono _ _ _
      | exact LeO.none _
      | refine LeO.ite ?_ ?_
      | refine LeO.bind ?_ (fun _ => ?_)
    · intro y0 y1 y2 y3 y4 y5 y6 y7
      unfold forebearref24_Check.j1
      repeat' first
      | (with_reducible exact ih0 _ _ _ _ _ _)
      | (with_reducible exact ih1 _ _ _ _ _ _ _ _)
      | (with_reducible exact ih2 _ _ _ _ _ _ _ _)
      | (with_reducible exact ih3 _ _ _ _ _ _ _ _ _)
      | (with_reducible exact forebearref24_among.mono _ _ _)
      | (with_reducible exact forebearref24_takes.mono _ _ _)
      | (with_reducible exact LeO.refl _)
      | (with_reducible exact LeO.none _)
      | (with_reducible refine LeO.ite ?_ ?_)
      | (with_reducible refine LeO.bind ?_ (fun _ => ?_))
      | exact ih0 _ _ _ _ _ _
      | exact ih1 _ _ _ _ _ _ _ _
      | exact ih2 _ _ _ _ _ _ _ _
      | exact ih3 _ _ _ _ _ _ _ _ _
      | exact forebearref24_among.mono _ _ _
      | exact forebearref24_takes.mono _ _ _
      | exact LeO.none _
      | refine LeO.ite ?_ ?_
      | refine LeO.bind ?_ (fun _ => ?_)
    · intro y0 y1 y2 y3 y4 y5 y6 y7 y8
      unfold forebearref24_Check.l0
      repeat' first
      | (with_reducible exact ih0 _ _ _ _ _ _)
      | (with_reducible exact ih1 _ _ _ _ _ _ _ _)
      | (with_reducible exact ih2 _ _ _ _ _ _ _ _)
      | (with_reducible exact ih3 _ _ _ _ _ _ _ _ _)
      | (with_reducible exact forebearref24_among.mono _ _ _)
      | (with_reducible exact forebearref24_takes.mono _ _ _)
      | (with_reducible exact LeO.refl _)
      | (with_reducible exact LeO.none _)
      | (with_reducible refine LeO.ite ?_ ?_)
      | (with_reducible refine LeO.bind ?_ (fun _ => ?_))
      | exact ih0 _ _ _ _ _ _
      | exact ih1 _ _ _ _ _ _ _ _
      | exact ih2 _ _ _ _ _ _ _ _
      | exact ih3 _ _ _ _ _ _ _ _ _
      | exact forebearref24_among.mono _ _ _
      | exact forebearref24_takes.mono _ _ _
      | exact LeO.none _
      | refine LeO.ite ?_ ?_
      | refine LeO.bind ?_ (fun _ => ?_)
theorem forebearref24_Check.mono : ∀ a0 a1 a2 a3 a4 a5 k, LeO (forebearref24_Check.f k a0 a1 a2 a3 a4 a5) (forebearref24_Check.f (k + 1) a0 a1 a2 a3 a4 a5) := by
  intro a0 a1 a2 a3 a4 a5 k
  obtain ⟨ih0, ih1, ih2, ih3⟩ := forebearref24_Check.mono_l k
  exact ih0 a0 a1 a2 a3 a4 a5
def forebearref24_Check.T27 : Bool × List (List Nat × List Nat) := (true, [([], []), ([0], [0]), ([], []), ([1, 2], [1, 2]), ([3], [3]), ([4], [4]), ([], []), ([5, 6, 0, 1, 2, 3, 4, 5, 6], [5]), ([7, 0, 1, 2, 3, 4, 5, 6, 7], [])])
def forebearref24_Check.B27 : List Nat := [0, 1, 0, 7, 15, 31, 0, 127, 255]
theorem forebearref24_Check.tab27 : rtab .any (opsOf Tryd.f24 27) = forebearref24_Check.T27 := by kernel_rfl
theorem forebearref24_Check.bits27 : waitsOk forebearref24_Check.T27.2 forebearref24_Check.B27 = true := by kernel_rfl
set_option maxHeartbeats 8000000 in
set_option maxRecDepth 100000 in
theorem forebearref24_Check.calls (k : Nat) : ∀ (a0_0 : Int) (a0_1 : ByteArray) (a0_2 : Int) (a0_3 : Int) (A0_4 : Option Addr) (c0_4 : Nat) (l0_4 : List (S54)) (a0_5 : Int) (r1 : Int) (r2 : Int) (r3 : Int) (w : World) (hr0_4 : Kd.C k54 w A0_4 l0_4.length l0_4) (hc0_4 : l0_4.length ≤ c0_4) (h : forebearref24_Check.f k a0_0 a0_1 a0_2 a0_3 l0_4 a0_5 = some (r1, r2, r3)),
    Calls Tryd.prog 24 #[.agg #[.int .i64 a0_0, .string a0_1, .int .i64 a0_2, .int .u64 a0_3, .slice A0_4 l0_4.length c0_4, .int .i64 a0_5]] w fun e w' => e = .returned (.tuple #[.int .i64 r1, .int .i64 r2, .int .i64 r3]) ∧ Below w.heap.size w w' := by
  induction k using Nat.strongRecOn with
  | _ k ih =>
  intro a0_0 a0_1 a0_2 a0_3 A0_4 c0_4 l0_4 a0_5 r1 r2 r3 w hr0_4 hc0_4 h
  cases k with
  | zero => exact absurd h (by simp [forebearref24_Check.f])
  | succ k =>
  simp only [forebearref24_Check.f] at h
  have hu54 := Tryd.underlying54
  have HR0_4 := Aside0.mk hr0_4
  have HC0_4 := Aside0.mk hc0_4
  clear hr0_4 hc0_4
  have HB := Aside0.mk (Below.refl w.heap.size w)
  have H : (if a0_0 = 1 then (forebearref24_Check.j0 k a0_0 (a0_0 == 1) a0_0 a0_1 a0_2 a0_3 l0_4 a0_5) else (forebearref24_Check.j0 k a0_0 (a0_0 == 2) a0_0 a0_1 a0_2 a0_3 l0_4 a0_5)) = some (r1, r2, r3) := h
  clear h
  have HC2 := Aside0.mk H
  clear H
  go_enter Tryd.func24, Tryd.ntmps24
  go_upto_if 15 with (first | ((with_reducible refine gate_dst (N := 1) rfl ?_); refine box_event ?hg (N := 1) ?hd (cs := #[.int .i64 a0_0, .string a0_1, .int .i64 a0_2, .int .u64 a0_3, .slice A0_4 l0_4.length c0_4, .int .i64 a0_5]) (t := 54) ?hr ?_; (case hd => rfl); (case hg => rfl); (case hr => first | (go_simp; done) | (go_simp; rfl)); intro gb341 hg w3 hbox hb; have n0_ := Aside0.mk (below_step (by repeat (first | (with_reducible first | exact HB.out | apply below_alloc | apply pw_below_drewN | apply below_drew1) | exact HB.out)) hb); have n1_ := Aside0.mk (hbox); have n2_ := Aside0.mk ((by rw [hg]; exact (below_size (by repeat (first | (with_reducible first | exact HB.out | apply below_alloc | apply pw_below_drewN | apply below_drew1) | exact HB.out))) : w.heap.size ≤ gb341)); have n3_ := Aside0.mk ((by rw [hg]; exact (below_size (by repeat (first | (with_reducible first | exact HB.out | apply below_alloc | apply pw_below_drewN | apply below_drew1) | exact HB.out))) : w.heap.size ≤ gb341)); clear HB; have HB := n0_; have BK341 := n1_; have GW341 := n2_; have GE341 := n3_; clear n0_ n1_ n2_ n3_; clear hb hbox hg; have hcz4_0 : w3.cell? ⟨gb341, 0, none⟩ = some (.int .i64 a0_0) := (blk_cell BK341.out 0).trans rfl; have hcz4_1 : w3.cell? ⟨gb341, 1, none⟩ = some (.string a0_1) := (blk_cell BK341.out 1).trans rfl; have hcz4_2 : w3.cell? ⟨gb341, 2, none⟩ = some (.int .i64 a0_2) := (blk_cell BK341.out 2).trans rfl; have hcz4_3 : w3.cell? ⟨gb341, 3, none⟩ = some (.int .u64 a0_3) := (blk_cell BK341.out 3).trans rfl; have hcz4_4 : w3.cell? ⟨gb341, 4, none⟩ = some (.slice A0_4 l0_4.length c0_4) := (blk_cell BK341.out 4).trans rfl; have hcz4_5 : w3.cell? ⟨gb341, 5, none⟩ = some (.int .i64 a0_5) := (blk_cell BK341.out 5).trans rfl; have hfz4_0 := blk_frozen BK341.out 0; have hfz4_1 := blk_frozen BK341.out 1; have hfz4_2 := blk_frozen BK341.out 2; have hfz4_3 := blk_frozen BK341.out 3; have hfz4_4 := blk_frozen BK341.out 4; have hfz4_5 := blk_frozen BK341.out 5))
  (try simp only [Act.put, List.setIfInBounds_toArray, List.set_cons_zero, List.set_cons_succ])
  go_cut [15] (fun v15 wc => ∃ (kq : Nat) (x15_1 : Bool), v15 = .bool x15_1 ∧ Aside0 (forebearref24_Check.j0 kq a0_0 x15_1 a0_0 a0_1 a0_2 a0_3 l0_4 a0_5 = some (r1, r2, r3)) ∧ Aside0 (kq ≤ k) ∧ Aside0 (wc.heap[gb341]? = some (.cells #[.int .i64 a0_0, .string a0_1, .int .i64 a0_2, .int .u64 a0_3, (.slice A0_4 l0_4.length c0_4), .int .i64 a0_5] 54 (0, 0))) ∧ Aside0 (Below w.heap.size w wc))
  case first =>
    have H := HC2.out
    clear HC2
    by_cases c5 : a0_0 = 1
    · rw [if_pos c5] at H
      have c5b0 : (a0_0 == 1) = true := beq_iff_eq.mpr c5
      have c5b1 : (a0_0 != 1) = false := bne_eq_false_iff_eq.mpr c5
      clear c5
      (first | rw [c5b0] | (simp only [i64_w, i32_w]; rw [c5b0]) | skip)
      have H' := Aside0.mk H
      clear H
      go_wp2
      go_meet
      case rel => exact ⟨_, ((a0_0 == 1)), (by first | rfl | (simp; done) | (simp [*]; done)), H', ⟨by first | omega | exact Nat.le_refl _⟩, ⟨by (with_reducible repeat (first | refine blk_drewN ?_ _ | refine blk_drew ?_ | refine blk_alloc ?_ _)); exact BK341.out⟩, ⟨by repeat (first | (with_reducible first | exact HB.out | apply below_alloc | apply pw_below_drewN | apply below_drew1 | refine below_set ?_ GE341.out) | exact HB.out)⟩⟩
    · rw [if_neg c5] at H
      have c5b0 : (a0_0 == 1) = false := beq_eq_false_iff_ne.mpr c5
      have c5b1 : (a0_0 != 1) = true := bne_iff_ne.mpr c5
      (first | rw [c5b0] | (simp only [i64_w, i32_w]; rw [c5b0]) | skip)
      have H' := Aside0.mk H
      clear H
      go_wp2
      go_meet
      case rel => exact ⟨_, ((a0_0 == 2)), (by first | rfl | (simp; done) | (simp [*]; done)), H', ⟨by first | omega | exact Nat.le_refl _⟩, ⟨by (with_reducible repeat (first | refine blk_drewN ?_ _ | refine blk_drew ?_ | refine blk_alloc ?_ _)); exact BK341.out⟩, ⟨by repeat (first | (with_reducible first | exact HB.out | apply below_alloc | apply pw_below_drewN | apply below_drew1 | refine below_set ?_ GE341.out) | exact HB.out)⟩⟩
  case rest =>
    clear HC2
    obtain ⟨kq, x15_1, rfl, HA, HJ1, BK341, HB⟩ := hcut
    cases kq with
    | zero => exact absurd HA.out (by simp [forebearref24_Check.j0])
    | succ kj1 =>
      have H := HA.out
      clear HA
      simp only [forebearref24_Check.j0] at H
      by_cases c6 : x15_1 = true
      · subst c6
        have H1 : (some (1, 0, 0)) = some (r1, r2, r3) := by rw [if_pos rfl] at H; exact H
        clear H
        have H := H1
        clear H1
        simp only [Option.some.injEq, Prod.mk.injEq] at H
        obtain ⟨rfl, rfl, rfl⟩ := H
        go_wp2
        go_ret3
        exact ⟨by first | rfl | (simp [errW_none, errW_some] <;> rfl) | (simp [*, errW_none, errW_some] <;> rfl), by repeat (first | (with_reducible first | exact HB.out | apply below_alloc | apply pw_below_drewN | apply below_drew1 | refine below_set ?_ GE341.out) | exact HB.out)⟩
      · replace c6 := Bool.eq_false_iff.mpr c6
        subst c6
        have H1 : (if a0_0 = 3 then (some (2, 0, 0)) else (if a0_0 = 4 then (some (3, 0, 0)) else (if a0_0 = 5 then ((forebearref24_Names.f).bind fun t345 => ((forebearref24_among.f kj1 a0_1 t345).bind fun t348 => (if t348 = true then ((forebearref24_takes.f kj1 a0_1 (l0_4.length : Int)).bind fun bt349 => (if bt349.2 = true then (if a0_1.toList = ([99, 111, 117, 110, 116] : List UInt8) then (forebearref24_Check.j1 kj1 bt349.1 2 a0_0 a0_1 a0_2 a0_3 l0_4 a0_5) else (forebearref24_Check.j1 kj1 bt349.1 1 a0_0 a0_1 a0_2 a0_3 l0_4 a0_5)) else (some (0, a0_5, 34)))) else (some (0, a0_5, 33))))) else (forebearref24_Check.j1 kj1 (([1, 1] : List Int)) 1 a0_0 a0_1 a0_2 a0_3 l0_4 a0_5)))) = some (r1, r2, r3) := by rw [if_neg (show ¬ (false = true) by decide)] at H; exact H
        clear H
        have H := H1
        clear H1
        by_cases c7 : a0_0 = 3
        · rw [if_pos c7] at H
          have c7b0 : (a0_0 == 3) = true := beq_iff_eq.mpr c7
          have c7b1 : (a0_0 != 3) = false := bne_eq_false_iff_eq.mpr c7
          clear c7
          simp only [Option.some.injEq, Prod.mk.injEq] at H
          obtain ⟨rfl, rfl, rfl⟩ := H
          go_wp2
          go_ret3
          exact ⟨by first | rfl | (simp [errW_none, errW_some] <;> rfl) | (simp [*, errW_none, errW_some] <;> rfl), by repeat (first | (with_reducible first | exact HB.out | apply below_alloc | apply pw_below_drewN | apply below_drew1 | refine below_set ?_ GE341.out) | exact HB.out)⟩
        · rw [if_neg c7] at H
          have c7b0 : (a0_0 == 3) = false := beq_eq_false_iff_ne.mpr c7
          have c7b1 : (a0_0 != 3) = true := bne_iff_ne.mpr c7
          by_cases c8 : a0_0 = 4
          · rw [if_pos c8] at H
            have c8b0 : (a0_0 == 4) = true := beq_iff_eq.mpr c8
            have c8b1 : (a0_0 != 4) = false := bne_eq_false_iff_eq.mpr c8
            clear c8
            simp only [Option.some.injEq, Prod.mk.injEq] at H
            obtain ⟨rfl, rfl, rfl⟩ := H
            go_wp2
            go_ret3
            exact ⟨by first | rfl | (simp [errW_none, errW_some] <;> rfl) | (simp [*, errW_none, errW_some] <;> rfl), by repeat (first | (with_reducible first | exact HB.out | apply below_alloc | apply pw_below_drewN | apply below_drew1 | refine below_set ?_ GE341.out) | exact HB.out)⟩
          · rw [if_neg c8] at H
            have c8b0 : (a0_0 == 4) = false := beq_eq_false_iff_ne.mpr c8
            have c8b1 : (a0_0 != 4) = true := bne_iff_ne.mpr c8
            obtain ⟨y342, hy342⟩ : ∃ y_ : List Int, y_ = (([1, 1] : List Int)) := ⟨_, rfl⟩
            replace H : (if a0_0 = 5 then ((forebearref24_Names.f).bind fun t345 => ((forebearref24_among.f kj1 a0_1 t345).bind fun t348 => (if t348 = true then ((forebearref24_takes.f kj1 a0_1 (l0_4.length : Int)).bind fun bt349 => (if bt349.2 = true then (if a0_1.toList = ([99, 111, 117, 110, 116] : List UInt8) then (forebearref24_Check.j1 kj1 bt349.1 2 a0_0 a0_1 a0_2 a0_3 l0_4 a0_5) else (forebearref24_Check.j1 kj1 bt349.1 1 a0_0 a0_1 a0_2 a0_3 l0_4 a0_5)) else (some (0, a0_5, 34)))) else (some (0, a0_5, 33))))) else (forebearref24_Check.j1 kj1 y342 1 a0_0 a0_1 a0_2 a0_3 l0_4 a0_5)) = some (r1, r2, r3) := by first | (rw [hy342]; with_reducible exact H) | (have H2_ := (Option.bind_some _ _).symm.trans H; rw [hy342]; with_reducible exact H2_) | (have H2_ := (Option.bind_some _ _).symm.trans H; with_reducible exact H2_) | with_reducible exact H | (rw [hy342]; exact H) | exact H
            have Ny342 := Aside0.mk hy342
            clear hy342
            have HC9 := Aside0.mk H
            clear H
            go_upto_if 25 with (first | ((with_reducible refine gate_dst (N := 22) rfl ?_); refine Kd.R_lit (Kd.int .i64) _ 3 ?hg (N := 22) ?hd (xs := ([1, 1] : List Int)) (inner := [.int .i64 1, .int .i64 1]) (ok := fun _ => True) (okp := fun _ => True) ?hr ?hp (fun _ hk => hk) trivial (Below.refl _ _) (Nat.le_refl _) (by simp) ?_; (case hd => rfl); (case hg => rfl); (case hr => first | (go_simp; done) | (go_simp; rfl)); (case hp => exact (Reps.one (show Kd.M (Kd.int .i64) _ _ _ 1 [.int .i64 1] from rfl) (Reps.one (show Kd.M (Kd.int .i64) _ _ _ 1 [.int .i64 1] from rfl) (Reps.none _ _)))); intro v343 w10 ho11 hb hg_ hnew_; clear hg_ hnew_; (first | rw [← Ny342.out] at ho11 | (simp only [Int.reduceToNat] at ho11; rw [← Ny342.out] at ho11)); have n0_ := Aside0.mk (Kd.R_lower ho11 (below_size (by repeat (first | (with_reducible first | exact HB.out | apply below_alloc | apply pw_below_drewN | apply below_drew1 | refine below_set ?_ GE341.out) | exact HB.out)))); have n1_ := Aside0.mk (blk_below (g := gb341) (o := .cells #[.int .i64 a0_0, .string a0_1, .int .i64 a0_2, .int .u64 a0_3, .slice A0_4 l0_4.length c0_4, .int .i64 a0_5] 54 (0, 0)) (by (with_reducible repeat (first | refine blk_drewN ?_ _ | refine blk_drew ?_ | refine blk_alloc ?_ _)); exact BK341.out) hb); have n2_ := Aside0.mk (below_step (by repeat (first | (with_reducible first | exact HB.out | apply below_alloc | apply pw_below_drewN | apply below_drew1 | refine below_set ?_ GE341.out) | exact HB.out)) hb); clear BK341; clear HB; have HO344 := n0_; have BK341 := n1_; have HB := n2_; clear n0_ n1_ n2_; clear hb ho11; have hcz12_0 : w10.cell? ⟨gb341, 0, none⟩ = some (.int .i64 a0_0) := (blk_cell BK341.out 0).trans rfl; have hcz12_1 : w10.cell? ⟨gb341, 1, none⟩ = some (.string a0_1) := (blk_cell BK341.out 1).trans rfl; have hcz12_2 : w10.cell? ⟨gb341, 2, none⟩ = some (.int .i64 a0_2) := (blk_cell BK341.out 2).trans rfl; have hcz12_3 : w10.cell? ⟨gb341, 3, none⟩ = some (.int .u64 a0_3) := (blk_cell BK341.out 3).trans rfl; have hcz12_4 : w10.cell? ⟨gb341, 4, none⟩ = some (.slice A0_4 l0_4.length c0_4) := (blk_cell BK341.out 4).trans rfl; have hcz12_5 : w10.cell? ⟨gb341, 5, none⟩ = some (.int .i64 a0_5) := (blk_cell BK341.out 5).trans rfl; have hfz12_0 := blk_frozen BK341.out 0; have hfz12_1 := blk_frozen BK341.out 1; have hfz12_2 := blk_frozen BK341.out 2; have hfz12_3 := blk_frozen BK341.out 3; have hfz12_4 := blk_frozen BK341.out 4; have hfz12_5 := blk_frozen BK341.out 5))
            (try simp only [Act.put, List.setIfInBounds_toArray, List.set_cons_zero, List.set_cons_succ])
            go_cut [5, 6] (fun v5 v6 wc => ∃ (kq : Nat) (x5_8 : List Int) (x6_8 : Int), v6 = .int .i64 x6_8 ∧ Aside0 (forebearref24_Check.j1 kq x5_8 x6_8 a0_0 a0_1 a0_2 a0_3 l0_4 a0_5 = some (r1, r2, r3)) ∧ Aside0 (kq ≤ kj1) ∧ Aside0 (Kd.R (Kd.int .i64) 3 wc w.heap.size (fun _ => True) v5 x5_8) ∧ Aside0 (wc.heap[gb341]? = some (.cells #[.int .i64 a0_0, .string a0_1, .int .i64 a0_2, .int .u64 a0_3, (.slice A0_4 l0_4.length c0_4), .int .i64 a0_5] 54 (0, 0))) ∧ Aside0 (Below w.heap.size w wc))
            case first =>
              have H := HC9.out
              clear HC9
              by_cases c13 : a0_0 = 5
              · rw [if_pos c13] at H
                have c13b0 : (a0_0 == 5) = true := beq_iff_eq.mpr c13
                have c13b1 : (a0_0 != 5) = false := bne_eq_false_iff_eq.mpr c13
                clear c13
                (first | rw [c13b0] | (simp only [i64_w, i32_w]; rw [c13b0]) | skip)
                replace H := Option.bind_eq_some_iff.mp H
                obtain ⟨t345, A140, H⟩ := H
                replace H : ((forebearref24_among.f kj1 a0_1 t345).bind fun t348 => (if t348 = true then ((forebearref24_takes.f kj1 a0_1 (l0_4.length : Int)).bind fun bt349 => (if bt349.2 = true then (if a0_1.toList = ([99, 111, 117, 110, 116] : List UInt8) then (forebearref24_Check.j1 kj1 bt349.1 2 a0_0 a0_1 a0_2 a0_3 l0_4 a0_5) else (forebearref24_Check.j1 kj1 bt349.1 1 a0_0 a0_1 a0_2 a0_3 l0_4 a0_5)) else (some (0, a0_5, 34)))) else (some (0, a0_5, 33)))) = some (r1, r2, r3) := H
                have A14 := Aside0.mk A140
                clear A140
                replace H := Option.bind_eq_some_iff.mp H
                obtain ⟨t348, A150, H⟩ := H
                replace H : (if t348 = true then ((forebearref24_takes.f kj1 a0_1 (l0_4.length : Int)).bind fun bt349 => (if bt349.2 = true then (if a0_1.toList = ([99, 111, 117, 110, 116] : List UInt8) then (forebearref24_Check.j1 kj1 bt349.1 2 a0_0 a0_1 a0_2 a0_3 l0_4 a0_5) else (forebearref24_Check.j1 kj1 bt349.1 1 a0_0 a0_1 a0_2 a0_3 l0_4 a0_5)) else (some (0, a0_5, 34)))) else (some (0, a0_5, 33))) = some (r1, r2, r3) := H
                have A15 := Aside0.mk A150
                clear A150
                by_cases c16 : t348 = true
                · subst c16
                  have H1 : ((forebearref24_takes.f kj1 a0_1 (l0_4.length : Int)).bind fun bt349 => (if bt349.2 = true then (if a0_1.toList = ([99, 111, 117, 110, 116] : List UInt8) then (forebearref24_Check.j1 kj1 bt349.1 2 a0_0 a0_1 a0_2 a0_3 l0_4 a0_5) else (forebearref24_Check.j1 kj1 bt349.1 1 a0_0 a0_1 a0_2 a0_3 l0_4 a0_5)) else (some (0, a0_5, 34)))) = some (r1, r2, r3) := by rw [if_pos rfl] at H; exact H
                  clear H
                  have H := H1
                  clear H1
                  replace H := Option.bind_eq_some_iff.mp H
                  obtain ⟨⟨t349, t350⟩, A170, H⟩ := H
                  replace H : (if t350 = true then (if a0_1.toList = ([99, 111, 117, 110, 116] : List UInt8) then (forebearref24_Check.j1 kj1 t349 2 a0_0 a0_1 a0_2 a0_3 l0_4 a0_5) else (forebearref24_Check.j1 kj1 t349 1 a0_0 a0_1 a0_2 a0_3 l0_4 a0_5)) else (some (0, a0_5, 34))) = some (r1, r2, r3) := H
                  have A17 := Aside0.mk A170
                  clear A170
                  by_cases c18 : t350 = true
                  · subst c18
                    have H1 : (if a0_1.toList = ([99, 111, 117, 110, 116] : List UInt8) then (forebearref24_Check.j1 kj1 t349 2 a0_0 a0_1 a0_2 a0_3 l0_4 a0_5) else (forebearref24_Check.j1 kj1 t349 1 a0_0 a0_1 a0_2 a0_3 l0_4 a0_5)) = some (r1, r2, r3) := by rw [if_pos rfl] at H; exact H
                    clear H
                    have H := H1
                    clear H1
                    by_cases c19 : a0_1.toList = ([99, 111, 117, 110, 116] : List UInt8)
                    · rw [if_pos c19] at H
                      have c19b0 : (a0_1.toList == ([99, 111, 117, 110, 116] : List UInt8)) = true := beq_iff_eq.mpr c19
                      have c19b1 : (a0_1.toList != ([99, 111, 117, 110, 116] : List UInt8)) = false := bne_eq_false_iff_eq.mpr c19
                      clear c19
                      have H' := Aside0.mk H
                      clear H
                      try go_wp2
                      have n0_ := Aside0.mk (Kd.R_drew HO344.out)
                      have n1_ := Aside0.mk (blk_drew BK341.out)
                      have n2_ := Aside0.mk (below_drew1 HB.out)
                      clear HO344
                      clear BK341
                      clear HB
                      have HO344 := n0_
                      have BK341 := n1_
                      have HB := n2_
                      clear n0_ n1_ n2_
                      refine start_ (n := 5) (S := fun w' => w'.cell? ⟨gb341, 0, none⟩ = some (.int .i64 a0_0) ∧ w'.cell? ⟨gb341, 1, none⟩ = some (.string a0_1) ∧ w'.cell? ⟨gb341, 2, none⟩ = some (.int .i64 a0_2) ∧ w'.cell? ⟨gb341, 3, none⟩ = some (.int .u64 a0_3) ∧ w'.cell? ⟨gb341, 4, none⟩ = some (.slice A0_4 l0_4.length c0_4) ∧ w'.cell? ⟨gb341, 5, none⟩ = some (.int .i64 a0_5)) (ds := []) #[false, false, false, false, false] (by kernel_rfl) rfl rfl ⟨(blk_cell BK341.out 0).trans rfl, (blk_cell BK341.out 1).trans rfl, (blk_cell BK341.out 2).trans rfl, (blk_cell BK341.out 3).trans rfl, (blk_cell BK341.out 4).trans rfl, (blk_cell BK341.out 5).trans rfl⟩ (fun hHeld => ?_)
                      generalize w10.drew = w20 at HO344 BK341 HB hHeld ⊢
                      refine pure_ (i := 0) (N := some 26) (v := ?_) (a' := ?_) #[true, false, false, false, false] rfl rfl (by kernel_rfl) (fun _ _ _ h => h) (Or.inl ⟨by rfl, ?_⟩) ?_ ?_
                      rotate_left
                      · intro w'
                        go_simp
                        with_reducible rfl
                      rotate_left
                      · simp only [Act.put, List.setIfInBounds_toArray, List.set_cons_zero, List.set_cons_succ, i64_w, i32_w]
                        rfl
                      refine take_ (i := 1) (N := some 27) (v := ?_) (a' := ?_) #[true, true, false, false, false] rfl rfl (by kernel_rfl) (fun _ _ _ h => h) (Or.inl ⟨by rfl, ?_⟩) hHeld ?_ ?_
                      rotate_left
                      · rintro w' ⟨s0, s1, s2, s3, s4, s5⟩
                        go_simp
                        with_reducible rfl
                      rotate_left
                      · simp only [Act.put, List.setIfInBounds_toArray, List.set_cons_zero, List.set_cons_succ, i64_w, i32_w]
                        rfl
                      refine one_ (i := 2) (N := some 28) #[true, true, true, false, false] rfl rfl (by kernel_rfl) (by decide) (fun K hK => ?_)
                      refine goes_ Tryd.func35 (by kernel_rfl) rfl #[] (by rfl) rfl rfl (by (try simp only [List.map_toArray, List.map_cons, List.map_nil]); first | done | rfl | (simp only [List.length_drop, List.length_take]; rfl)) ?_
                      with_reducible refine (forebearref24_Names.calls  t345 _ A14.out).mono ?_
                      rintro e w21 ⟨v346, rfl, ho0, hb⟩
                      refine ⟨_, rfl, ?_⟩
                      have n0_ := Aside0.mk (Kd.R_below (by (with_reducible repeat (first | apply Kd.R_alloc | apply Kd.R_drewN | apply Kd.R_drew)); exact HO344.out) hb)
                      have n1_ := Aside0.mk (Kd.R_lower ho0 (below_size (by repeat (first | (with_reducible first | exact HB.out | apply below_alloc | apply pw_below_drewN | apply below_drew1 | refine below_set ?_ GE341.out) | exact HB.out))))
                      have n2_ := Aside0.mk (blk_below (g := gb341) (o := .cells #[.int .i64 a0_0, .string a0_1, .int .i64 a0_2, .int .u64 a0_3, .slice A0_4 l0_4.length c0_4, .int .i64 a0_5] 54 (0, 0)) (by (with_reducible repeat (first | refine blk_drewN ?_ _ | refine blk_drew ?_ | refine blk_alloc ?_ _)); exact BK341.out) hb)
                      have n3_ := Aside0.mk (below_step (by repeat (first | (with_reducible first | exact HB.out | apply below_alloc | apply pw_below_drewN | apply below_drew1 | refine below_set ?_ GE341.out) | exact HB.out)) hb)
                      clear HO344
                      clear BK341
                      clear HB
                      have HO344 := n0_
                      have HO347 := n1_
                      have BK341 := n2_
                      have HB := n3_
                      clear n0_ n1_ n2_ n3_
                      (try clear hb)
                      (try clear hb2)
                      (try clear hk)
                      (try clear hi)
                      (try clear ho0)
                      obtain ⟨Ao22, co22, eo22⟩ := Kd.R_slice HO347.out
                      (first | subst eo22 | (injection eo22 with f1_ f2_ f3_; have f4_ := f1_.symm; have f5_ := f3_.symm; clear f1_ f2_ f3_; subst f4_; subst f5_))
                      refine hK.out _ _ ⟨(blk_cell BK341.out 0).trans rfl, (blk_cell BK341.out 1).trans rfl, (blk_cell BK341.out 2).trans rfl, (blk_cell BK341.out 3).trans rfl, (blk_cell BK341.out 4).trans rfl, (blk_cell BK341.out 5).trans rfl⟩ (fun hHeld => ?_)
                      clear hK K
                      refine norm_ (a' := ?_) ?_ ?_
                      rotate_left
                      · show Act.put _ (some 28) _ = _
                        simp only [Act.put, List.setIfInBounds_toArray, List.set_cons_zero, List.set_cons_succ, i64_w, i32_w]
                        rfl
                      refine one_ (i := 3) (N := some 29) #[true, true, true, true, false] rfl rfl (by kernel_rfl) (by decide) (fun K hK => ?_)
                      refine goes_ Tryd.func54 (by kernel_rfl) rfl #[.string a0_1, .slice Ao22 t345.length co22] (by rfl) rfl rfl (by (try simp only [List.map_toArray, List.map_cons, List.map_nil]); first | done | rfl | (simp only [List.length_drop, List.length_take]; rfl)) ?_
                      with_reducible refine (forebearref24_among.calls kj1 a0_1 _ _ t345 true _ ?side1 ?side2 A15.out).mono ?_
                      (case side1 => repeat (first | exact (Kd.R_reads' HO347.out).2.2 | (with_reducible refine Kd.C_alloc ?_ _) | (with_reducible refine Kd.C_drewN ?_ _) | (with_reducible refine Kd.C_drew ?_)))
                      (case side2 => exact (Kd.R_reads' HO347.out).2.1)
                      rintro e w' ⟨rfl, ⟨nd, rfl⟩⟩
                      refine ⟨_, rfl, ?_⟩
                      refine hK.out _ _ ⟨(blk_cell BK341.out 0).trans rfl, (blk_cell BK341.out 1).trans rfl, (blk_cell BK341.out 2).trans rfl, (blk_cell BK341.out 3).trans rfl, (blk_cell BK341.out 4).trans rfl, (blk_cell BK341.out 5).trans rfl⟩ (fun hHeld => ?_)
                      clear hK K
                      refine norm_ (a' := ?_) ?_ ?_
                      rotate_left
                      · show Act.put _ (some 29) _ = _
                        simp only [Act.put, List.setIfInBounds_toArray, List.set_cons_zero, List.set_cons_succ, i64_w, i32_w]
                        rfl
                      refine pure_ (i := 4) (N := some 30) (v := ?_) (a' := ?_) #[true, true, true, true, true] rfl rfl (by kernel_rfl) (fun _ _ _ h => h) (Or.inl ⟨by rfl, ?_⟩) ?_ ?_
                      rotate_left
                      · intro w'
                        go_simp
                        with_reducible rfl
                      rotate_left
                      · simp only [Act.put, List.setIfInBounds_toArray, List.set_cons_zero, List.set_cons_succ, i64_w, i32_w]
                        rfl
                      refine done_ (by kernel_rfl) ?_
                      have hcz23_0 : w21.cell? ⟨gb341, 0, none⟩ = some (.int .i64 a0_0) := (blk_cell BK341.out 0).trans rfl
                      have hcz23_1 : w21.cell? ⟨gb341, 1, none⟩ = some (.string a0_1) := (blk_cell BK341.out 1).trans rfl
                      have hcz23_2 : w21.cell? ⟨gb341, 2, none⟩ = some (.int .i64 a0_2) := (blk_cell BK341.out 2).trans rfl
                      have hcz23_3 : w21.cell? ⟨gb341, 3, none⟩ = some (.int .u64 a0_3) := (blk_cell BK341.out 3).trans rfl
                      have hcz23_4 : w21.cell? ⟨gb341, 4, none⟩ = some (.slice A0_4 l0_4.length c0_4) := (blk_cell BK341.out 4).trans rfl
                      have hcz23_5 : w21.cell? ⟨gb341, 5, none⟩ = some (.int .i64 a0_5) := (blk_cell BK341.out 5).trans rfl
                      have hfz23_0 := blk_frozen BK341.out 0
                      have hfz23_1 := blk_frozen BK341.out 1
                      have hfz23_2 := blk_frozen BK341.out 2
                      have hfz23_3 := blk_frozen BK341.out 3
                      have hfz23_4 := blk_frozen BK341.out 4
                      have hfz23_5 := blk_frozen BK341.out 5
                      try go_wp2_with (first | ((with_reducible refine gate_callee (f := 55) rfl ?_); refine goesL_ (some 39) rfl rfl Tryd.func55 (by kernel_rfl) rfl #[.string a0_1, .int .i64 (l0_4.length : Int)] rfl (by (try simp only [List.map_toArray, List.map_cons, List.map_nil]); first | done | rfl | (simp only [List.length_drop, List.length_take]; rfl)) ?_; (with_reducible refine (forebearref24_takes.calls kj1 a0_1 (l0_4.length : Int) t349 true _ A17.out).mono ?_); rintro e w24 ⟨v351, rfl, ho0, hb⟩; refine ⟨_, rfl, ?_⟩; have n0_ := Aside0.mk (Kd.R_elder' (by (with_reducible repeat (first | apply Kd.R_alloc | apply Kd.R_drewN | apply Kd.R_drew)); exact HO344.out) (Kd.R_base ho0) hb); have n1_ := Aside0.mk (Kd.R_below (by (with_reducible repeat (first | apply Kd.R_alloc | apply Kd.R_drewN | apply Kd.R_drew)); exact HO347.out) hb); have n2_ := Aside0.mk (Kd.R_lower (Kd.R_new' ho0 (Kd.R_lt (by (with_reducible repeat (first | apply Kd.R_alloc | apply Kd.R_drewN | apply Kd.R_drew)); exact HO344.out))) (below_size (by repeat (first | (with_reducible first | exact HB.out | apply below_alloc | apply pw_below_drewN | apply below_drew1 | refine below_set ?_ GE341.out) | exact HB.out)))); have n3_ := Aside0.mk (blk_below (g := gb341) (o := .cells #[.int .i64 a0_0, .string a0_1, .int .i64 a0_2, .int .u64 a0_3, .slice A0_4 l0_4.length c0_4, .int .i64 a0_5] 54 (0, 0)) (by (with_reducible repeat (first | refine blk_drewN ?_ _ | refine blk_drew ?_ | refine blk_alloc ?_ _)); exact BK341.out) hb); have n4_ := Aside0.mk (below_step (by repeat (first | (with_reducible first | exact HB.out | apply below_alloc | apply pw_below_drewN | apply below_drew1 | refine below_set ?_ GE341.out) | exact HB.out)) hb); clear HO344; clear HO347; clear BK341; clear HB; have HO344 := n0_; have HO347 := n1_; have HO352 := n2_; have BK341 := n3_; have HB := n4_; clear n0_ n1_ n2_ n3_ n4_; (try clear hb); (try clear hb2); (try clear hk); (try clear hi); (try clear ho0); have hcz25_0 : w24.cell? ⟨gb341, 0, none⟩ = some (.int .i64 a0_0) := (blk_cell BK341.out 0).trans rfl; have hcz25_1 : w24.cell? ⟨gb341, 1, none⟩ = some (.string a0_1) := (blk_cell BK341.out 1).trans rfl; have hcz25_2 : w24.cell? ⟨gb341, 2, none⟩ = some (.int .i64 a0_2) := (blk_cell BK341.out 2).trans rfl; have hcz25_3 : w24.cell? ⟨gb341, 3, none⟩ = some (.int .u64 a0_3) := (blk_cell BK341.out 3).trans rfl; have hcz25_4 : w24.cell? ⟨gb341, 4, none⟩ = some (.slice A0_4 l0_4.length c0_4) := (blk_cell BK341.out 4).trans rfl; have hcz25_5 : w24.cell? ⟨gb341, 5, none⟩ = some (.int .i64 a0_5) := (blk_cell BK341.out 5).trans rfl; have hfz25_0 := blk_frozen BK341.out 0; have hfz25_1 := blk_frozen BK341.out 1; have hfz25_2 := blk_frozen BK341.out 2; have hfz25_3 := blk_frozen BK341.out 3; have hfz25_4 := blk_frozen BK341.out 4; have hfz25_5 := blk_frozen BK341.out 5))
                      go_meet
                      case rel => exact ⟨_, (t349), (2), (by first | rfl | (simp; done) | (simp [*]; done)), H', ⟨by have := HJ1.out; first | omega | exact Nat.le_refl _⟩, ⟨by (with_reducible repeat (first | apply Kd.R_alloc | apply Kd.R_drewN | apply Kd.R_drew)); exact Kd.R_mono HO352.out (fun _ hk => trivial)⟩, ⟨by (with_reducible repeat (first | refine blk_drewN ?_ _ | refine blk_drew ?_ | refine blk_alloc ?_ _)); exact BK341.out⟩, ⟨by repeat (first | (with_reducible first | exact HB.out | apply below_alloc | apply pw_below_drewN | apply below_drew1 | refine below_set ?_ GE341.out) | exact HB.out)⟩⟩
                    · rw [if_neg c19] at H
                      have c19b0 : (a0_1.toList == ([99, 111, 117, 110, 116] : List UInt8)) = false := beq_eq_false_iff_ne.mpr c19
                      have c19b1 : (a0_1.toList != ([99, 111, 117, 110, 116] : List UInt8)) = true := bne_iff_ne.mpr c19
                      have H' := Aside0.mk H
                      clear H
                      try go_wp2
                      have n0_ := Aside0.mk (Kd.R_drew HO344.out)
                      have n1_ := Aside0.mk (blk_drew BK341.out)
                      have n2_ := Aside0.mk (below_drew1 HB.out)
                      clear HO344
                      clear BK341
                      clear HB
                      have HO344 := n0_
                      have BK341 := n1_
                      have HB := n2_
                      clear n0_ n1_ n2_
                      refine start_ (n := 5) (S := fun w' => w'.cell? ⟨gb341, 0, none⟩ = some (.int .i64 a0_0) ∧ w'.cell? ⟨gb341, 1, none⟩ = some (.string a0_1) ∧ w'.cell? ⟨gb341, 2, none⟩ = some (.int .i64 a0_2) ∧ w'.cell? ⟨gb341, 3, none⟩ = some (.int .u64 a0_3) ∧ w'.cell? ⟨gb341, 4, none⟩ = some (.slice A0_4 l0_4.length c0_4) ∧ w'.cell? ⟨gb341, 5, none⟩ = some (.int .i64 a0_5)) (ds := []) #[false, false, false, false, false] (by kernel_rfl) rfl rfl ⟨(blk_cell BK341.out 0).trans rfl, (blk_cell BK341.out 1).trans rfl, (blk_cell BK341.out 2).trans rfl, (blk_cell BK341.out 3).trans rfl, (blk_cell BK341.out 4).trans rfl, (blk_cell BK341.out 5).trans rfl⟩ (fun hHeld => ?_)
                      generalize w10.drew = w26 at HO344 BK341 HB hHeld ⊢
                      refine pure_ (i := 0) (N := some 26) (v := ?_) (a' := ?_) #[true, false, false, false, false] rfl rfl (by kernel_rfl) (fun _ _ _ h => h) (Or.inl ⟨by rfl, ?_⟩) ?_ ?_
                      rotate_left
                      · intro w'
                        go_simp
                        with_reducible rfl
                      rotate_left
                      · simp only [Act.put, List.setIfInBounds_toArray, List.set_cons_zero, List.set_cons_succ, i64_w, i32_w]
                        rfl
                      refine take_ (i := 1) (N := some 27) (v := ?_) (a' := ?_) #[true, true, false, false, false] rfl rfl (by kernel_rfl) (fun _ _ _ h => h) (Or.inl ⟨by rfl, ?_⟩) hHeld ?_ ?_
                      rotate_left
                      · rintro w' ⟨s0, s1, s2, s3, s4, s5⟩
                        go_simp
                        with_reducible rfl
                      rotate_left
                      · simp only [Act.put, List.setIfInBounds_toArray, List.set_cons_zero, List.set_cons_succ, i64_w, i32_w]
                        rfl
                      refine one_ (i := 2) (N := some 28) #[true, true, true, false, false] rfl rfl (by kernel_rfl) (by decide) (fun K hK => ?_)
                      refine goes_ Tryd.func35 (by kernel_rfl) rfl #[] (by rfl) rfl rfl (by (try simp only [List.map_toArray, List.map_cons, List.map_nil]); first | done | rfl | (simp only [List.length_drop, List.length_take]; rfl)) ?_
                      with_reducible refine (forebearref24_Names.calls  t345 _ A14.out).mono ?_
                      rintro e w27 ⟨v346, rfl, ho0, hb⟩
                      refine ⟨_, rfl, ?_⟩
                      have n0_ := Aside0.mk (Kd.R_below (by (with_reducible repeat (first | apply Kd.R_alloc | apply Kd.R_drewN | apply Kd.R_drew)); exact HO344.out) hb)
                      have n1_ := Aside0.mk (Kd.R_lower ho0 (below_size (by repeat (first | (with_reducible first | exact HB.out | apply below_alloc | apply pw_below_drewN | apply below_drew1 | refine below_set ?_ GE341.out) | exact HB.out))))
                      have n2_ := Aside0.mk (blk_below (g := gb341) (o := .cells #[.int .i64 a0_0, .string a0_1, .int .i64 a0_2, .int .u64 a0_3, .slice A0_4 l0_4.length c0_4, .int .i64 a0_5] 54 (0, 0)) (by (with_reducible repeat (first | refine blk_drewN ?_ _ | refine blk_drew ?_ | refine blk_alloc ?_ _)); exact BK341.out) hb)
                      have n3_ := Aside0.mk (below_step (by repeat (first | (with_reducible first | exact HB.out | apply below_alloc | apply pw_below_drewN | apply below_drew1 | refine below_set ?_ GE341.out) | exact HB.out)) hb)
                      clear HO344
                      clear BK341
                      clear HB
                      have HO344 := n0_
                      have HO347 := n1_
                      have BK341 := n2_
                      have HB := n3_
                      clear n0_ n1_ n2_ n3_
                      (try clear hb)
                      (try clear hb2)
                      (try clear hk)
                      (try clear hi)
                      (try clear ho0)
                      obtain ⟨Ao28, co28, eo28⟩ := Kd.R_slice HO347.out
                      (first | subst eo28 | (injection eo28 with f1_ f2_ f3_; have f4_ := f1_.symm; have f5_ := f3_.symm; clear f1_ f2_ f3_; subst f4_; subst f5_))
                      refine hK.out _ _ ⟨(blk_cell BK341.out 0).trans rfl, (blk_cell BK341.out 1).trans rfl, (blk_cell BK341.out 2).trans rfl, (blk_cell BK341.out 3).trans rfl, (blk_cell BK341.out 4).trans rfl, (blk_cell BK341.out 5).trans rfl⟩ (fun hHeld => ?_)
                      clear hK K
                      refine norm_ (a' := ?_) ?_ ?_
                      rotate_left
                      · show Act.put _ (some 28) _ = _
                        simp only [Act.put, List.setIfInBounds_toArray, List.set_cons_zero, List.set_cons_succ, i64_w, i32_w]
                        rfl
                      refine one_ (i := 3) (N := some 29) #[true, true, true, true, false] rfl rfl (by kernel_rfl) (by decide) (fun K hK => ?_)
                      refine goes_ Tryd.func54 (by kernel_rfl) rfl #[.string a0_1, .slice Ao28 t345.length co28] (by rfl) rfl rfl (by (try simp only [List.map_toArray, List.map_cons, List.map_nil]); first | done | rfl | (simp only [List.length_drop, List.length_take]; rfl)) ?_
                      with_reducible refine (forebearref24_among.calls kj1 a0_1 _ _ t345 true _ ?side1 ?side2 A15.out).mono ?_
                      (case side1 => repeat (first | exact (Kd.R_reads' HO347.out).2.2 | (with_reducible refine Kd.C_alloc ?_ _) | (with_reducible refine Kd.C_drewN ?_ _) | (with_reducible refine Kd.C_drew ?_)))
                      (case side2 => exact (Kd.R_reads' HO347.out).2.1)
                      rintro e w' ⟨rfl, ⟨nd, rfl⟩⟩
                      refine ⟨_, rfl, ?_⟩
                      refine hK.out _ _ ⟨(blk_cell BK341.out 0).trans rfl, (blk_cell BK341.out 1).trans rfl, (blk_cell BK341.out 2).trans rfl, (blk_cell BK341.out 3).trans rfl, (blk_cell BK341.out 4).trans rfl, (blk_cell BK341.out 5).trans rfl⟩ (fun hHeld => ?_)
                      clear hK K
                      refine norm_ (a' := ?_) ?_ ?_
                      rotate_left
                      · show Act.put _ (some 29) _ = _
                        simp only [Act.put, List.setIfInBounds_toArray, List.set_cons_zero, List.set_cons_succ, i64_w, i32_w]
                        rfl
                      refine pure_ (i := 4) (N := some 30) (v := ?_) (a' := ?_) #[true, true, true, true, true] rfl rfl (by kernel_rfl) (fun _ _ _ h => h) (Or.inl ⟨by rfl, ?_⟩) ?_ ?_
                      rotate_left
                      · intro w'
                        go_simp
                        with_reducible rfl
                      rotate_left
                      · simp only [Act.put, List.setIfInBounds_toArray, List.set_cons_zero, List.set_cons_succ, i64_w, i32_w]
                        rfl
                      refine done_ (by kernel_rfl) ?_
                      have hcz29_0 : w27.cell? ⟨gb341, 0, none⟩ = some (.int .i64 a0_0) := (blk_cell BK341.out 0).trans rfl
                      have hcz29_1 : w27.cell? ⟨gb341, 1, none⟩ = some (.string a0_1) := (blk_cell BK341.out 1).trans rfl
                      have hcz29_2 : w27.cell? ⟨gb341, 2, none⟩ = some (.int .i64 a0_2) := (blk_cell BK341.out 2).trans rfl
                      have hcz29_3 : w27.cell? ⟨gb341, 3, none⟩ = some (.int .u64 a0_3) := (blk_cell BK341.out 3).trans rfl
                      have hcz29_4 : w27.cell? ⟨gb341, 4, none⟩ = some (.slice A0_4 l0_4.length c0_4) := (blk_cell BK341.out 4).trans rfl
                      have hcz29_5 : w27.cell? ⟨gb341, 5, none⟩ = some (.int .i64 a0_5) := (blk_cell BK341.out 5).trans rfl
                      have hfz29_0 := blk_frozen BK341.out 0
                      have hfz29_1 := blk_frozen BK341.out 1
                      have hfz29_2 := blk_frozen BK341.out 2
                      have hfz29_3 := blk_frozen BK341.out 3
                      have hfz29_4 := blk_frozen BK341.out 4
                      have hfz29_5 := blk_frozen BK341.out 5
                      try go_wp2_with (first | ((with_reducible refine gate_callee (f := 55) rfl ?_); refine goesL_ (some 39) rfl rfl Tryd.func55 (by kernel_rfl) rfl #[.string a0_1, .int .i64 (l0_4.length : Int)] rfl (by (try simp only [List.map_toArray, List.map_cons, List.map_nil]); first | done | rfl | (simp only [List.length_drop, List.length_take]; rfl)) ?_; (with_reducible refine (forebearref24_takes.calls kj1 a0_1 (l0_4.length : Int) t349 true _ A17.out).mono ?_); rintro e w30 ⟨v351, rfl, ho0, hb⟩; refine ⟨_, rfl, ?_⟩; have n0_ := Aside0.mk (Kd.R_elder' (by (with_reducible repeat (first | apply Kd.R_alloc | apply Kd.R_drewN | apply Kd.R_drew)); exact HO344.out) (Kd.R_base ho0) hb); have n1_ := Aside0.mk (Kd.R_below (by (with_reducible repeat (first | apply Kd.R_alloc | apply Kd.R_drewN | apply Kd.R_drew)); exact HO347.out) hb); have n2_ := Aside0.mk (Kd.R_lower (Kd.R_new' ho0 (Kd.R_lt (by (with_reducible repeat (first | apply Kd.R_alloc | apply Kd.R_drewN | apply Kd.R_drew)); exact HO344.out))) (below_size (by repeat (first | (with_reducible first | exact HB.out | apply below_alloc | apply pw_below_drewN | apply below_drew1 | refine below_set ?_ GE341.out) | exact HB.out)))); have n3_ := Aside0.mk (blk_below (g := gb341) (o := .cells #[.int .i64 a0_0, .string a0_1, .int .i64 a0_2, .int .u64 a0_3, .slice A0_4 l0_4.length c0_4, .int .i64 a0_5] 54 (0, 0)) (by (with_reducible repeat (first | refine blk_drewN ?_ _ | refine blk_drew ?_ | refine blk_alloc ?_ _)); exact BK341.out) hb); have n4_ := Aside0.mk (below_step (by repeat (first | (with_reducible first | exact HB.out | apply below_alloc | apply pw_below_drewN | apply below_drew1 | refine below_set ?_ GE341.out) | exact HB.out)) hb); clear HO344; clear HO347; clear BK341; clear HB; have HO344 := n0_; have HO347 := n1_; have HO352 := n2_; have BK341 := n3_; have HB := n4_; clear n0_ n1_ n2_ n3_ n4_; (try clear hb); (try clear hb2); (try clear hk); (try clear hi); (try clear ho0); have hcz31_0 : w30.cell? ⟨gb341, 0, none⟩ = some (.int .i64 a0_0) := (blk_cell BK341.out 0).trans rfl; have hcz31_1 : w30.cell? ⟨gb341, 1, none⟩ = some (.string a0_1) := (blk_cell BK341.out 1).trans rfl; have hcz31_2 : w30.cell? ⟨gb341, 2, none⟩ = some (.int .i64 a0_2) := (blk_cell BK341.out 2).trans rfl; have hcz31_3 : w30.cell? ⟨gb341, 3, none⟩ = some (.int .u64 a0_3) := (blk_cell BK341.out 3).trans rfl; have hcz31_4 : w30.cell? ⟨gb341, 4, none⟩ = some (.slice A0_4 l0_4.length c0_4) := (blk_cell BK341.out 4).trans rfl; have hcz31_5 : w30.cell? ⟨gb341, 5, none⟩ = some (.int .i64 a0_5) := (blk_cell BK341.out 5).trans rfl; have hfz31_0 := blk_frozen BK341.out 0; have hfz31_1 := blk_frozen BK341.out 1; have hfz31_2 := blk_frozen BK341.out 2; have hfz31_3 := blk_frozen BK341.out 3; have hfz31_4 := blk_frozen BK341.out 4; have hfz31_5 := blk_frozen BK341.out 5))
                      go_meet
                      case rel => exact ⟨_, (t349), (1), (by first | rfl | (simp; done) | (simp [*]; done)), H', ⟨by have := HJ1.out; first | omega | exact Nat.le_refl _⟩, ⟨by (with_reducible repeat (first | apply Kd.R_alloc | apply Kd.R_drewN | apply Kd.R_drew)); exact Kd.R_mono HO352.out (fun _ hk => trivial)⟩, ⟨by (with_reducible repeat (first | refine blk_drewN ?_ _ | refine blk_drew ?_ | refine blk_alloc ?_ _)); exact BK341.out⟩, ⟨by repeat (first | (with_reducible first | exact HB.out | apply below_alloc | apply pw_below_drewN | apply below_drew1 | refine below_set ?_ GE341.out) | exact HB.out)⟩⟩
                  · replace c18 := Bool.eq_false_iff.mpr c18
                    subst c18
                    have H1 : (some (0, a0_5, 34)) = some (r1, r2, r3) := by rw [if_neg (show ¬ (false = true) by decide)] at H; exact H
                    clear H
                    have H := H1
                    clear H1
                    simp only [Option.some.injEq, Prod.mk.injEq] at H
                    obtain ⟨rfl, rfl, rfl⟩ := H
                    try go_wp2
                    have n0_ := Aside0.mk (Kd.R_drew HO344.out)
                    have n1_ := Aside0.mk (blk_drew BK341.out)
                    have n2_ := Aside0.mk (below_drew1 HB.out)
                    clear HO344
                    clear BK341
                    clear HB
                    have HO344 := n0_
                    have BK341 := n1_
                    have HB := n2_
                    clear n0_ n1_ n2_
                    refine start_ (n := 5) (S := fun w' => w'.cell? ⟨gb341, 0, none⟩ = some (.int .i64 a0_0) ∧ w'.cell? ⟨gb341, 1, none⟩ = some (.string a0_1) ∧ w'.cell? ⟨gb341, 2, none⟩ = some (.int .i64 a0_2) ∧ w'.cell? ⟨gb341, 3, none⟩ = some (.int .u64 a0_3) ∧ w'.cell? ⟨gb341, 4, none⟩ = some (.slice A0_4 l0_4.length c0_4) ∧ w'.cell? ⟨gb341, 5, none⟩ = some (.int .i64 a0_5)) (ds := []) #[false, false, false, false, false] (by kernel_rfl) rfl rfl ⟨(blk_cell BK341.out 0).trans rfl, (blk_cell BK341.out 1).trans rfl, (blk_cell BK341.out 2).trans rfl, (blk_cell BK341.out 3).trans rfl, (blk_cell BK341.out 4).trans rfl, (blk_cell BK341.out 5).trans rfl⟩ (fun hHeld => ?_)
                    generalize w10.drew = w32 at HO344 BK341 HB hHeld ⊢
                    refine pure_ (i := 0) (N := some 26) (v := ?_) (a' := ?_) #[true, false, false, false, false] rfl rfl (by kernel_rfl) (fun _ _ _ h => h) (Or.inl ⟨by rfl, ?_⟩) ?_ ?_
                    rotate_left
                    · intro w'
                      go_simp
                      with_reducible rfl
                    rotate_left
                    · simp only [Act.put, List.setIfInBounds_toArray, List.set_cons_zero, List.set_cons_succ, i64_w, i32_w]
                      rfl
                    refine take_ (i := 1) (N := some 27) (v := ?_) (a' := ?_) #[true, true, false, false, false] rfl rfl (by kernel_rfl) (fun _ _ _ h => h) (Or.inl ⟨by rfl, ?_⟩) hHeld ?_ ?_
                    rotate_left
                    · rintro w' ⟨s0, s1, s2, s3, s4, s5⟩
                      go_simp
                      with_reducible rfl
                    rotate_left
                    · simp only [Act.put, List.setIfInBounds_toArray, List.set_cons_zero, List.set_cons_succ, i64_w, i32_w]
                      rfl
                    refine one_ (i := 2) (N := some 28) #[true, true, true, false, false] rfl rfl (by kernel_rfl) (by decide) (fun K hK => ?_)
                    refine goes_ Tryd.func35 (by kernel_rfl) rfl #[] (by rfl) rfl rfl (by (try simp only [List.map_toArray, List.map_cons, List.map_nil]); first | done | rfl | (simp only [List.length_drop, List.length_take]; rfl)) ?_
                    with_reducible refine (forebearref24_Names.calls  t345 _ A14.out).mono ?_
                    rintro e w33 ⟨v346, rfl, ho0, hb⟩
                    refine ⟨_, rfl, ?_⟩
                    have n0_ := Aside0.mk (Kd.R_below (by (with_reducible repeat (first | apply Kd.R_alloc | apply Kd.R_drewN | apply Kd.R_drew)); exact HO344.out) hb)
                    have n1_ := Aside0.mk (Kd.R_lower ho0 (below_size (by repeat (first | (with_reducible first | exact HB.out | apply below_alloc | apply pw_below_drewN | apply below_drew1 | refine below_set ?_ GE341.out) | exact HB.out))))
                    have n2_ := Aside0.mk (blk_below (g := gb341) (o := .cells #[.int .i64 a0_0, .string a0_1, .int .i64 a0_2, .int .u64 a0_3, .slice A0_4 l0_4.length c0_4, .int .i64 a0_5] 54 (0, 0)) (by (with_reducible repeat (first | refine blk_drewN ?_ _ | refine blk_drew ?_ | refine blk_alloc ?_ _)); exact BK341.out) hb)
                    have n3_ := Aside0.mk (below_step (by repeat (first | (with_reducible first | exact HB.out | apply below_alloc | apply pw_below_drewN | apply below_drew1 | refine below_set ?_ GE341.out) | exact HB.out)) hb)
                    clear HO344
                    clear BK341
                    clear HB
                    have HO344 := n0_
                    have HO347 := n1_
                    have BK341 := n2_
                    have HB := n3_
                    clear n0_ n1_ n2_ n3_
                    (try clear hb)
                    (try clear hb2)
                    (try clear hk)
                    (try clear hi)
                    (try clear ho0)
                    obtain ⟨Ao34, co34, eo34⟩ := Kd.R_slice HO347.out
                    (first | subst eo34 | (injection eo34 with f1_ f2_ f3_; have f4_ := f1_.symm; have f5_ := f3_.symm; clear f1_ f2_ f3_; subst f4_; subst f5_))
                    refine hK.out _ _ ⟨(blk_cell BK341.out 0).trans rfl, (blk_cell BK341.out 1).trans rfl, (blk_cell BK341.out 2).trans rfl, (blk_cell BK341.out 3).trans rfl, (blk_cell BK341.out 4).trans rfl, (blk_cell BK341.out 5).trans rfl⟩ (fun hHeld => ?_)
                    clear hK K
                    refine norm_ (a' := ?_) ?_ ?_
                    rotate_left
                    · show Act.put _ (some 28) _ = _
                      simp only [Act.put, List.setIfInBounds_toArray, List.set_cons_zero, List.set_cons_succ, i64_w, i32_w]
                      rfl
                    refine one_ (i := 3) (N := some 29) #[true, true, true, true, false] rfl rfl (by kernel_rfl) (by decide) (fun K hK => ?_)
                    refine goes_ Tryd.func54 (by kernel_rfl) rfl #[.string a0_1, .slice Ao34 t345.length co34] (by rfl) rfl rfl (by (try simp only [List.map_toArray, List.map_cons, List.map_nil]); first | done | rfl | (simp only [List.length_drop, List.length_take]; rfl)) ?_
                    with_reducible refine (forebearref24_among.calls kj1 a0_1 _ _ t345 true _ ?side1 ?side2 A15.out).mono ?_
                    (case side1 => repeat (first | exact (Kd.R_reads' HO347.out).2.2 | (with_reducible refine Kd.C_alloc ?_ _) | (with_reducible refine Kd.C_drewN ?_ _) | (with_reducible refine Kd.C_drew ?_)))
                    (case side2 => exact (Kd.R_reads' HO347.out).2.1)
                    rintro e w' ⟨rfl, ⟨nd, rfl⟩⟩
                    refine ⟨_, rfl, ?_⟩
                    refine hK.out _ _ ⟨(blk_cell BK341.out 0).trans rfl, (blk_cell BK341.out 1).trans rfl, (blk_cell BK341.out 2).trans rfl, (blk_cell BK341.out 3).trans rfl, (blk_cell BK341.out 4).trans rfl, (blk_cell BK341.out 5).trans rfl⟩ (fun hHeld => ?_)
                    clear hK K
                    refine norm_ (a' := ?_) ?_ ?_
                    rotate_left
                    · show Act.put _ (some 29) _ = _
                      simp only [Act.put, List.setIfInBounds_toArray, List.set_cons_zero, List.set_cons_succ, i64_w, i32_w]
                      rfl
                    refine pure_ (i := 4) (N := some 30) (v := ?_) (a' := ?_) #[true, true, true, true, true] rfl rfl (by kernel_rfl) (fun _ _ _ h => h) (Or.inl ⟨by rfl, ?_⟩) ?_ ?_
                    rotate_left
                    · intro w'
                      go_simp
                      with_reducible rfl
                    rotate_left
                    · simp only [Act.put, List.setIfInBounds_toArray, List.set_cons_zero, List.set_cons_succ, i64_w, i32_w]
                      rfl
                    refine done_ (by kernel_rfl) ?_
                    have hcz35_0 : w33.cell? ⟨gb341, 0, none⟩ = some (.int .i64 a0_0) := (blk_cell BK341.out 0).trans rfl
                    have hcz35_1 : w33.cell? ⟨gb341, 1, none⟩ = some (.string a0_1) := (blk_cell BK341.out 1).trans rfl
                    have hcz35_2 : w33.cell? ⟨gb341, 2, none⟩ = some (.int .i64 a0_2) := (blk_cell BK341.out 2).trans rfl
                    have hcz35_3 : w33.cell? ⟨gb341, 3, none⟩ = some (.int .u64 a0_3) := (blk_cell BK341.out 3).trans rfl
                    have hcz35_4 : w33.cell? ⟨gb341, 4, none⟩ = some (.slice A0_4 l0_4.length c0_4) := (blk_cell BK341.out 4).trans rfl
                    have hcz35_5 : w33.cell? ⟨gb341, 5, none⟩ = some (.int .i64 a0_5) := (blk_cell BK341.out 5).trans rfl
                    have hfz35_0 := blk_frozen BK341.out 0
                    have hfz35_1 := blk_frozen BK341.out 1
                    have hfz35_2 := blk_frozen BK341.out 2
                    have hfz35_3 := blk_frozen BK341.out 3
                    have hfz35_4 := blk_frozen BK341.out 4
                    have hfz35_5 := blk_frozen BK341.out 5
                    try go_wp2_with (first | ((with_reducible refine gate_callee (f := 55) rfl ?_); refine goesL_ (some 39) rfl rfl Tryd.func55 (by kernel_rfl) rfl #[.string a0_1, .int .i64 (l0_4.length : Int)] rfl (by (try simp only [List.map_toArray, List.map_cons, List.map_nil]); first | done | rfl | (simp only [List.length_drop, List.length_take]; rfl)) ?_; (with_reducible refine (forebearref24_takes.calls kj1 a0_1 (l0_4.length : Int) t349 false _ A17.out).mono ?_); rintro e w36 ⟨v351, rfl, ho0, hb⟩; refine ⟨_, rfl, ?_⟩; have n0_ := Aside0.mk (Kd.R_elder' (by (with_reducible repeat (first | apply Kd.R_alloc | apply Kd.R_drewN | apply Kd.R_drew)); exact HO344.out) (Kd.R_base ho0) hb); have n1_ := Aside0.mk (Kd.R_below (by (with_reducible repeat (first | apply Kd.R_alloc | apply Kd.R_drewN | apply Kd.R_drew)); exact HO347.out) hb); have n2_ := Aside0.mk (Kd.R_lower (Kd.R_new' ho0 (Kd.R_lt (by (with_reducible repeat (first | apply Kd.R_alloc | apply Kd.R_drewN | apply Kd.R_drew)); exact HO344.out))) (below_size (by repeat (first | (with_reducible first | exact HB.out | apply below_alloc | apply pw_below_drewN | apply below_drew1 | refine below_set ?_ GE341.out) | exact HB.out)))); have n3_ := Aside0.mk (blk_below (g := gb341) (o := .cells #[.int .i64 a0_0, .string a0_1, .int .i64 a0_2, .int .u64 a0_3, .slice A0_4 l0_4.length c0_4, .int .i64 a0_5] 54 (0, 0)) (by (with_reducible repeat (first | refine blk_drewN ?_ _ | refine blk_drew ?_ | refine blk_alloc ?_ _)); exact BK341.out) hb); have n4_ := Aside0.mk (below_step (by repeat (first | (with_reducible first | exact HB.out | apply below_alloc | apply pw_below_drewN | apply below_drew1 | refine below_set ?_ GE341.out) | exact HB.out)) hb); clear HO344; clear HO347; clear BK341; clear HB; have HO344 := n0_; have HO347 := n1_; have HO352 := n2_; have BK341 := n3_; have HB := n4_; clear n0_ n1_ n2_ n3_ n4_; (try clear hb); (try clear hb2); (try clear hk); (try clear hi); (try clear ho0)))
                    have n0_ := Aside0.mk (Kd.R_drew HO344.out)
                    have n1_ := Aside0.mk (Kd.R_drew HO347.out)
                    have n2_ := Aside0.mk (Kd.R_drew HO352.out)
                    have n3_ := Aside0.mk (blk_drew BK341.out)
                    have n4_ := Aside0.mk (below_drew1 HB.out)
                    clear HO344
                    clear HO347
                    clear HO352
                    clear BK341
                    clear HB
                    have HO344 := n0_
                    have HO347 := n1_
                    have HO352 := n2_
                    have BK341 := n3_
                    have HB := n4_
                    clear n0_ n1_ n2_ n3_ n4_
                    refine start_ (n := 5) (S := fun w' => w'.cell? ⟨gb341, 0, none⟩ = some (.int .i64 a0_0) ∧ w'.cell? ⟨gb341, 1, none⟩ = some (.string a0_1) ∧ w'.cell? ⟨gb341, 2, none⟩ = some (.int .i64 a0_2) ∧ w'.cell? ⟨gb341, 3, none⟩ = some (.int .u64 a0_3) ∧ w'.cell? ⟨gb341, 4, none⟩ = some (.slice A0_4 l0_4.length c0_4) ∧ w'.cell? ⟨gb341, 5, none⟩ = some (.int .i64 a0_5)) (ds := []) #[false, false, false, false, false] (by kernel_rfl) rfl rfl ⟨(blk_cell BK341.out 0).trans rfl, (blk_cell BK341.out 1).trans rfl, (blk_cell BK341.out 2).trans rfl, (blk_cell BK341.out 3).trans rfl, (blk_cell BK341.out 4).trans rfl, (blk_cell BK341.out 5).trans rfl⟩ (fun hHeld => ?_)
                    generalize w36.drew = w37 at HO344 HO347 HO352 BK341 HB hHeld ⊢
                    refine pure_ (i := 0) (N := some 44) (v := ?_) (a' := ?_) #[true, false, false, false, false] rfl rfl (by kernel_rfl) (fun _ _ _ h => h) (Or.inl ⟨by rfl, ?_⟩) ?_ ?_
                    rotate_left
                    · intro w'
                      go_simp
                      with_reducible rfl
                    rotate_left
                    · simp only [Act.put, List.setIfInBounds_toArray, List.set_cons_zero, List.set_cons_succ, i64_w, i32_w]
                      rfl
                    refine pure_ (i := 2) (N := some 2) (v := ?_) (a' := ?_) #[true, false, true, false, false] rfl rfl (by kernel_rfl) (fun _ _ _ h => h) (Or.inl ⟨by rfl, ?_⟩) ?_ ?_
                    rotate_left
                    · intro w'
                      go_simp
                      with_reducible rfl
                    rotate_left
                    · simp only [Act.put, List.setIfInBounds_toArray, List.set_cons_zero, List.set_cons_succ, i64_w, i32_w]
                      rfl
                    refine take_ (i := 1) (N := some 45) (v := ?_) (a' := ?_) #[true, true, true, false, false] rfl rfl (by kernel_rfl) (fun _ _ _ h => h) (Or.inl ⟨by rfl, ?_⟩) hHeld ?_ ?_
                    rotate_left
                    · rintro w' ⟨s0, s1, s2, s3, s4, s5⟩
                      go_simp
                      with_reducible rfl
                    rotate_left
                    · simp only [Act.put, List.setIfInBounds_toArray, List.set_cons_zero, List.set_cons_succ, i64_w, i32_w]
                      rfl
                    refine pure_ (i := 3) (N := some 3) (v := ?_) (a' := ?_) #[true, true, true, true, false] rfl rfl (by kernel_rfl) (fun _ _ _ h => h) (Or.inl ⟨by rfl, ?_⟩) ?_ ?_
                    rotate_left
                    · intro w'
                      go_simp
                      with_reducible rfl
                    rotate_left
                    · simp only [Act.put, List.setIfInBounds_toArray, List.set_cons_zero, List.set_cons_succ, i64_w, i32_w]
                      rfl
                    refine pure_ (i := 4) (N := some 4) (v := ?_) (a' := ?_) #[true, true, true, true, true] rfl rfl (by kernel_rfl) (fun _ _ _ h => h) (Or.inl ⟨by rfl, ?_⟩) ?_ ?_
                    rotate_left
                    · intro w'
                      go_simp
                      with_reducible rfl
                    rotate_left
                    · simp only [Act.put, List.setIfInBounds_toArray, List.set_cons_zero, List.set_cons_succ, i64_w, i32_w]
                      rfl
                    refine done_ (by kernel_rfl) ?_
                    try go_wp2
                    go_ret3
                    exact ⟨by first | rfl | (simp [errW_none, errW_some] <;> rfl) | (simp [*, errW_none, errW_some] <;> rfl), by repeat (first | (with_reducible first | exact HB.out | apply below_alloc | apply pw_below_drewN | apply below_drew1 | refine below_set ?_ GE341.out) | exact HB.out)⟩
                · replace c16 := Bool.eq_false_iff.mpr c16
                  subst c16
                  have H1 : (some (0, a0_5, 33)) = some (r1, r2, r3) := by rw [if_neg (show ¬ (false = true) by decide)] at H; exact H
                  clear H
                  have H := H1
                  clear H1
                  simp only [Option.some.injEq, Prod.mk.injEq] at H
                  obtain ⟨rfl, rfl, rfl⟩ := H
                  try go_wp2
                  have n0_ := Aside0.mk (Kd.R_drew HO344.out)
                  have n1_ := Aside0.mk (blk_drew BK341.out)
                  have n2_ := Aside0.mk (below_drew1 HB.out)
                  clear HO344
                  clear BK341
                  clear HB
                  have HO344 := n0_
                  have BK341 := n1_
                  have HB := n2_
                  clear n0_ n1_ n2_
                  refine start_ (n := 5) (S := fun w' => w'.cell? ⟨gb341, 0, none⟩ = some (.int .i64 a0_0) ∧ w'.cell? ⟨gb341, 1, none⟩ = some (.string a0_1) ∧ w'.cell? ⟨gb341, 2, none⟩ = some (.int .i64 a0_2) ∧ w'.cell? ⟨gb341, 3, none⟩ = some (.int .u64 a0_3) ∧ w'.cell? ⟨gb341, 4, none⟩ = some (.slice A0_4 l0_4.length c0_4) ∧ w'.cell? ⟨gb341, 5, none⟩ = some (.int .i64 a0_5)) (ds := []) #[false, false, false, false, false] (by kernel_rfl) rfl rfl ⟨(blk_cell BK341.out 0).trans rfl, (blk_cell BK341.out 1).trans rfl, (blk_cell BK341.out 2).trans rfl, (blk_cell BK341.out 3).trans rfl, (blk_cell BK341.out 4).trans rfl, (blk_cell BK341.out 5).trans rfl⟩ (fun hHeld => ?_)
                  generalize w10.drew = w38 at HO344 BK341 HB hHeld ⊢
                  refine pure_ (i := 0) (N := some 26) (v := ?_) (a' := ?_) #[true, false, false, false, false] rfl rfl (by kernel_rfl) (fun _ _ _ h => h) (Or.inl ⟨by rfl, ?_⟩) ?_ ?_
                  rotate_left
                  · intro w'
                    go_simp
                    with_reducible rfl
                  rotate_left
                  · simp only [Act.put, List.setIfInBounds_toArray, List.set_cons_zero, List.set_cons_succ, i64_w, i32_w]
                    rfl
                  refine take_ (i := 1) (N := some 27) (v := ?_) (a' := ?_) #[true, true, false, false, false] rfl rfl (by kernel_rfl) (fun _ _ _ h => h) (Or.inl ⟨by rfl, ?_⟩) hHeld ?_ ?_
                  rotate_left
                  · rintro w' ⟨s0, s1, s2, s3, s4, s5⟩
                    go_simp
                    with_reducible rfl
                  rotate_left
                  · simp only [Act.put, List.setIfInBounds_toArray, List.set_cons_zero, List.set_cons_succ, i64_w, i32_w]
                    rfl
                  refine one_ (i := 2) (N := some 28) #[true, true, true, false, false] rfl rfl (by kernel_rfl) (by decide) (fun K hK => ?_)
                  refine goes_ Tryd.func35 (by kernel_rfl) rfl #[] (by rfl) rfl rfl (by (try simp only [List.map_toArray, List.map_cons, List.map_nil]); first | done | rfl | (simp only [List.length_drop, List.length_take]; rfl)) ?_
                  with_reducible refine (forebearref24_Names.calls  t345 _ A14.out).mono ?_
                  rintro e w39 ⟨v346, rfl, ho0, hb⟩
                  refine ⟨_, rfl, ?_⟩
                  have n0_ := Aside0.mk (Kd.R_below (by (with_reducible repeat (first | apply Kd.R_alloc | apply Kd.R_drewN | apply Kd.R_drew)); exact HO344.out) hb)
                  have n1_ := Aside0.mk (Kd.R_lower ho0 (below_size (by repeat (first | (with_reducible first | exact HB.out | apply below_alloc | apply pw_below_drewN | apply below_drew1 | refine below_set ?_ GE341.out) | exact HB.out))))
                  have n2_ := Aside0.mk (blk_below (g := gb341) (o := .cells #[.int .i64 a0_0, .string a0_1, .int .i64 a0_2, .int .u64 a0_3, .slice A0_4 l0_4.length c0_4, .int .i64 a0_5] 54 (0, 0)) (by (with_reducible repeat (first | refine blk_drewN ?_ _ | refine blk_drew ?_ | refine blk_alloc ?_ _)); exact BK341.out) hb)
                  have n3_ := Aside0.mk (below_step (by repeat (first | (with_reducible first | exact HB.out | apply below_alloc | apply pw_below_drewN | apply below_drew1 | refine below_set ?_ GE341.out) | exact HB.out)) hb)
                  clear HO344
                  clear BK341
                  clear HB
                  have HO344 := n0_
                  have HO347 := n1_
                  have BK341 := n2_
                  have HB := n3_
                  clear n0_ n1_ n2_ n3_
                  (try clear hb)
                  (try clear hb2)
                  (try clear hk)
                  (try clear hi)
                  (try clear ho0)
                  obtain ⟨Ao40, co40, eo40⟩ := Kd.R_slice HO347.out
                  (first | subst eo40 | (injection eo40 with f1_ f2_ f3_; have f4_ := f1_.symm; have f5_ := f3_.symm; clear f1_ f2_ f3_; subst f4_; subst f5_))
                  refine hK.out _ _ ⟨(blk_cell BK341.out 0).trans rfl, (blk_cell BK341.out 1).trans rfl, (blk_cell BK341.out 2).trans rfl, (blk_cell BK341.out 3).trans rfl, (blk_cell BK341.out 4).trans rfl, (blk_cell BK341.out 5).trans rfl⟩ (fun hHeld => ?_)
                  clear hK K
                  refine norm_ (a' := ?_) ?_ ?_
                  rotate_left
                  · show Act.put _ (some 28) _ = _
                    simp only [Act.put, List.setIfInBounds_toArray, List.set_cons_zero, List.set_cons_succ, i64_w, i32_w]
                    rfl
                  refine one_ (i := 3) (N := some 29) #[true, true, true, true, false] rfl rfl (by kernel_rfl) (by decide) (fun K hK => ?_)
                  refine goes_ Tryd.func54 (by kernel_rfl) rfl #[.string a0_1, .slice Ao40 t345.length co40] (by rfl) rfl rfl (by (try simp only [List.map_toArray, List.map_cons, List.map_nil]); first | done | rfl | (simp only [List.length_drop, List.length_take]; rfl)) ?_
                  with_reducible refine (forebearref24_among.calls kj1 a0_1 _ _ t345 false _ ?side1 ?side2 A15.out).mono ?_
                  (case side1 => repeat (first | exact (Kd.R_reads' HO347.out).2.2 | (with_reducible refine Kd.C_alloc ?_ _) | (with_reducible refine Kd.C_drewN ?_ _) | (with_reducible refine Kd.C_drew ?_)))
                  (case side2 => exact (Kd.R_reads' HO347.out).2.1)
                  rintro e w' ⟨rfl, ⟨nd, rfl⟩⟩
                  refine ⟨_, rfl, ?_⟩
                  refine hK.out _ _ ⟨(blk_cell BK341.out 0).trans rfl, (blk_cell BK341.out 1).trans rfl, (blk_cell BK341.out 2).trans rfl, (blk_cell BK341.out 3).trans rfl, (blk_cell BK341.out 4).trans rfl, (blk_cell BK341.out 5).trans rfl⟩ (fun hHeld => ?_)
                  clear hK K
                  refine norm_ (a' := ?_) ?_ ?_
                  rotate_left
                  · show Act.put _ (some 29) _ = _
                    simp only [Act.put, List.setIfInBounds_toArray, List.set_cons_zero, List.set_cons_succ, i64_w, i32_w]
                    rfl
                  refine pure_ (i := 4) (N := some 30) (v := ?_) (a' := ?_) #[true, true, true, true, true] rfl rfl (by kernel_rfl) (fun _ _ _ h => h) (Or.inl ⟨by rfl, ?_⟩) ?_ ?_
                  rotate_left
                  · intro w'
                    go_simp
                    with_reducible rfl
                  rotate_left
                  · simp only [Act.put, List.setIfInBounds_toArray, List.set_cons_zero, List.set_cons_succ, i64_w, i32_w]
                    rfl
                  refine done_ (by kernel_rfl) ?_
                  try go_wp2
                  (try (rw [drewN_self w39]; generalize hq_ : World.drewN w39 _ = w39; have n0_ : Aside0 (Kd.R (Kd.int .i64) 3 w39 w.heap.size (fun _ => True) v343 y342) := ⟨by rw [← hq_]; exact (by (with_reducible repeat (first | apply Kd.R_alloc | apply Kd.R_drewN | apply Kd.R_drew)); exact HO344.out)⟩; have n1_ : Aside0 (Kd.R Kd.string 9 w39 w.heap.size (fun _ => True) (.slice Ao40 t345.length co40) t345) := ⟨by rw [← hq_]; exact (by (with_reducible repeat (first | apply Kd.R_alloc | apply Kd.R_drewN | apply Kd.R_drew)); exact HO347.out)⟩; have n2_ : Aside0 (w39.heap[gb341]? = some (.cells #[.int .i64 a0_0, .string a0_1, .int .i64 a0_2, .int .u64 a0_3, .slice A0_4 l0_4.length c0_4, .int .i64 a0_5] 54 (0, 0))) := ⟨by rw [← hq_]; exact (by (with_reducible repeat (first | refine blk_drewN ?_ _ | refine blk_drew ?_ | refine blk_alloc ?_ _)); exact BK341.out)⟩; have n3_ : Aside0 (Below w.heap.size w w39) := ⟨by rw [← hq_]; exact (by repeat (first | (with_reducible first | exact HB.out | apply below_alloc | apply pw_below_drewN | apply below_drew1 | refine below_set ?_ GE341.out) | exact HB.out))⟩; clear HO344 HO347 BK341 HB hq_; have HO344 := n0_; have HO347 := n1_; have BK341 := n2_; have HB := n3_; clear n0_ n1_ n2_ n3_))
                  have n0_ := Aside0.mk (Kd.R_drew HO344.out)
                  have n1_ := Aside0.mk (Kd.R_drew HO347.out)
                  have n2_ := Aside0.mk (blk_drew BK341.out)
                  have n3_ := Aside0.mk (below_drew1 HB.out)
                  clear HO344
                  clear HO347
                  clear BK341
                  clear HB
                  have HO344 := n0_
                  have HO347 := n1_
                  have BK341 := n2_
                  have HB := n3_
                  clear n0_ n1_ n2_ n3_
                  refine start_ (n := 5) (S := fun w' => w'.cell? ⟨gb341, 0, none⟩ = some (.int .i64 a0_0) ∧ w'.cell? ⟨gb341, 1, none⟩ = some (.string a0_1) ∧ w'.cell? ⟨gb341, 2, none⟩ = some (.int .i64 a0_2) ∧ w'.cell? ⟨gb341, 3, none⟩ = some (.int .u64 a0_3) ∧ w'.cell? ⟨gb341, 4, none⟩ = some (.slice A0_4 l0_4.length c0_4) ∧ w'.cell? ⟨gb341, 5, none⟩ = some (.int .i64 a0_5)) (ds := []) #[false, false, false, false, false] (by kernel_rfl) rfl rfl ⟨(blk_cell BK341.out 0).trans rfl, (blk_cell BK341.out 1).trans rfl, (blk_cell BK341.out 2).trans rfl, (blk_cell BK341.out 3).trans rfl, (blk_cell BK341.out 4).trans rfl, (blk_cell BK341.out 5).trans rfl⟩ (fun hHeld => ?_)
                  generalize w39.drew = w41 at HO344 HO347 BK341 HB hHeld ⊢
                  refine pure_ (i := 0) (N := some 31) (v := ?_) (a' := ?_) #[true, false, false, false, false] rfl rfl (by kernel_rfl) (fun _ _ _ h => h) (Or.inl ⟨by rfl, ?_⟩) ?_ ?_
                  rotate_left
                  · intro w'
                    go_simp
                    with_reducible rfl
                  rotate_left
                  · simp only [Act.put, List.setIfInBounds_toArray, List.set_cons_zero, List.set_cons_succ, i64_w, i32_w]
                    rfl
                  refine pure_ (i := 2) (N := some 2) (v := ?_) (a' := ?_) #[true, false, true, false, false] rfl rfl (by kernel_rfl) (fun _ _ _ h => h) (Or.inl ⟨by rfl, ?_⟩) ?_ ?_
                  rotate_left
                  · intro w'
                    go_simp
                    with_reducible rfl
                  rotate_left
                  · simp only [Act.put, List.setIfInBounds_toArray, List.set_cons_zero, List.set_cons_succ, i64_w, i32_w]
                    rfl
                  refine take_ (i := 1) (N := some 32) (v := ?_) (a' := ?_) #[true, true, true, false, false] rfl rfl (by kernel_rfl) (fun _ _ _ h => h) (Or.inl ⟨by rfl, ?_⟩) hHeld ?_ ?_
                  rotate_left
                  · rintro w' ⟨s0, s1, s2, s3, s4, s5⟩
                    go_simp
                    with_reducible rfl
                  rotate_left
                  · simp only [Act.put, List.setIfInBounds_toArray, List.set_cons_zero, List.set_cons_succ, i64_w, i32_w]
                    rfl
                  refine pure_ (i := 3) (N := some 3) (v := ?_) (a' := ?_) #[true, true, true, true, false] rfl rfl (by kernel_rfl) (fun _ _ _ h => h) (Or.inl ⟨by rfl, ?_⟩) ?_ ?_
                  rotate_left
                  · intro w'
                    go_simp
                    with_reducible rfl
                  rotate_left
                  · simp only [Act.put, List.setIfInBounds_toArray, List.set_cons_zero, List.set_cons_succ, i64_w, i32_w]
                    rfl
                  refine pure_ (i := 4) (N := some 4) (v := ?_) (a' := ?_) #[true, true, true, true, true] rfl rfl (by kernel_rfl) (fun _ _ _ h => h) (Or.inl ⟨by rfl, ?_⟩) ?_ ?_
                  rotate_left
                  · intro w'
                    go_simp
                    with_reducible rfl
                  rotate_left
                  · simp only [Act.put, List.setIfInBounds_toArray, List.set_cons_zero, List.set_cons_succ, i64_w, i32_w]
                    rfl
                  refine done_ (by kernel_rfl) ?_
                  try go_wp2
                  go_ret3
                  exact ⟨by first | rfl | (simp [errW_none, errW_some] <;> rfl) | (simp [*, errW_none, errW_some] <;> rfl), by repeat (first | (with_reducible first | exact HB.out | apply below_alloc | apply pw_below_drewN | apply below_drew1 | refine below_set ?_ GE341.out) | exact HB.out)⟩
              · rw [if_neg c13] at H
                have c13b0 : (a0_0 == 5) = false := beq_eq_false_iff_ne.mpr c13
                have c13b1 : (a0_0 != 5) = true := bne_iff_ne.mpr c13
                (first | rw [c13b0] | (simp only [i64_w, i32_w]; rw [c13b0]) | skip)
                have H' := Aside0.mk H
                clear H
                go_wp2
                go_meet
                case rel => exact ⟨_, (y342), (1), (by first | rfl | (simp; done) | (simp [*]; done)), H', ⟨by have := HJ1.out; first | omega | exact Nat.le_refl _⟩, ⟨by (with_reducible repeat (first | apply Kd.R_alloc | apply Kd.R_drewN | apply Kd.R_drew)); exact HO344.out⟩, ⟨by (with_reducible repeat (first | refine blk_drewN ?_ _ | refine blk_drew ?_ | refine blk_alloc ?_ _)); exact BK341.out⟩, ⟨by repeat (first | (with_reducible first | exact HB.out | apply below_alloc | apply pw_below_drewN | apply below_drew1 | refine below_set ?_ GE341.out) | exact HB.out)⟩⟩
            case rest =>
              clear HC9
              obtain ⟨kq, x5_8, x6_8, rfl, HA, HJ8, HO_5, BK341, HB⟩ := hcut
              cases kq with
              | zero => exact absurd HA.out (by simp [forebearref24_Check.j1])
              | succ kj8 =>
                have H := HA.out
                clear HA
                simp only [forebearref24_Check.j1] at H
                have H' := Aside0.mk H
                clear H
                go_wp2
                go_loopg [9] kj8 (fun kq v9 w' => ∃ (x9_3 : Int), v9 = .int .i64 x9_3 ∧ Aside0 (forebearref24_Check.l0 kq x5_8 x6_8 x9_3 a0_0 a0_1 a0_2 a0_3 l0_4 a0_5 = some (r1, r2, r3)) ∧ Aside0 (kq ≤ kj8) ∧ Aside0 (Kd.R (Kd.int .i64) 3 w' w.heap.size (fun _ => True) u5 x5_8) ∧ Aside0 (w'.heap[gb341]? = some (.cells #[.int .i64 a0_0, .string a0_1, .int .i64 a0_2, .int .u64 a0_3, (.slice A0_4 l0_4.length c0_4), .int .i64 a0_5] 54 (0, 0))) ∧ Aside0 (Below w.heap.size w w'))
                case atStart => exact ⟨(0), (by first | rfl | (simp; done) | (simp [*]; done)), H', ⟨Nat.le_refl _⟩, ⟨by (with_reducible repeat (first | apply Kd.R_alloc | apply Kd.R_drewN | apply Kd.R_drew)); exact HO_5.out⟩, ⟨by (with_reducible repeat (first | refine blk_drewN ?_ _ | refine blk_drew ?_ | refine blk_alloc ?_ _)); exact BK341.out⟩, ⟨by repeat (first | (with_reducible first | exact HB.out | apply below_alloc | apply pw_below_drewN | apply below_drew1 | refine below_set ?_ GE341.out) | exact HB.out)⟩⟩
                case round =>
                  clear H'
                  obtain ⟨x9_3, rfl, HA, HK3, HO_5, BK341, HB⟩ := hrel
                  cases gk with
                  | zero => exact absurd HA.out (by simp [forebearref24_Check.l0])
                  | succ k3 =>
                    have H := HA.out
                    clear HA
                    simp only [forebearref24_Check.l0] at H
                    by_cases c42 : x9_3 < (l0_4.length : Int)
                    · rw [if_pos c42] at H
                      have c42b0 : decide (x9_3 < (l0_4.length : Int)) = true := decide_eq_true c42
                      clear c42
                      by_cases c43 : 0 ≤ x9_3
                      · rw [if_pos c43] at H
                        have c43b0 : decide (0 ≤ x9_3) = true := decide_eq_true c43
                        clear c43
                        replace H := Option.bind_eq_some_iff.mp H
                        obtain ⟨⟨t354, t355, t356⟩, A440, H⟩ := H
                        replace H : (if t356 = 0 then (if x9_3 < (x5_8.length : Int) then (if t354 = (rd x5_8 x9_3) then (forebearref24_Check.l0 k3 x5_8 x6_8 (wrap64 (x9_3 + 1)) a0_0 a0_1 a0_2 a0_3 l0_4 a0_5) else (some (0, (rd_T54 l0_4 x9_3).f5, 35))) else (none)) else (some (0, t355, t356))) = some (r1, r2, r3) := H
                        have A44 := Aside0.mk A440
                        clear A440
                        by_cases c45 : t356 = 0
                        · rw [if_pos c45] at H
                          have c45b0 : (t356 == 0) = true := beq_iff_eq.mpr c45
                          have c45b1 : (t356 != 0) = false := bne_eq_false_iff_eq.mpr c45
                          clear c45
                          by_cases c46 : x9_3 < (x5_8.length : Int)
                          · rw [if_pos c46] at H
                            have c46b0 : decide (x9_3 < (x5_8.length : Int)) = true := decide_eq_true c46
                            clear c46
                            by_cases c47 : t354 = (rd x5_8 x9_3)
                            · rw [if_pos c47] at H
                              have c47b0 : (t354 == (rd x5_8 x9_3)) = true := beq_iff_eq.mpr c47
                              have c47b1 : (t354 != (rd x5_8 x9_3)) = false := bne_eq_false_iff_eq.mpr c47
                              clear c47
                              have H' := Aside0.mk H
                              clear H
                              have hcz48_0 : wr.cell? ⟨gb341, 0, none⟩ = some (.int .i64 a0_0) := (blk_cell BK341.out 0).trans rfl
                              have hcz48_1 : wr.cell? ⟨gb341, 1, none⟩ = some (.string a0_1) := (blk_cell BK341.out 1).trans rfl
                              have hcz48_2 : wr.cell? ⟨gb341, 2, none⟩ = some (.int .i64 a0_2) := (blk_cell BK341.out 2).trans rfl
                              have hcz48_3 : wr.cell? ⟨gb341, 3, none⟩ = some (.int .u64 a0_3) := (blk_cell BK341.out 3).trans rfl
                              have hcz48_4 : wr.cell? ⟨gb341, 4, none⟩ = some (.slice A0_4 l0_4.length c0_4) := (blk_cell BK341.out 4).trans rfl
                              have hcz48_5 : wr.cell? ⟨gb341, 5, none⟩ = some (.int .i64 a0_5) := (blk_cell BK341.out 5).trans rfl
                              have hfz48_0 := blk_frozen BK341.out 0
                              have hfz48_1 := blk_frozen BK341.out 1
                              have hfz48_2 := blk_frozen BK341.out 2
                              have hfz48_3 := blk_frozen BK341.out 3
                              have hfz48_4 := blk_frozen BK341.out 4
                              have hfz48_5 := blk_frozen BK341.out 5
                              have p353 : 0 ≤ (x9_3 : Int) := of_decide_eq_true (by first | (with_reducible assumption) | assumption)
                              have q353 : x9_3 < (l0_4.length : Int) := of_decide_eq_true (by first | (with_reducible assumption) | assumption)
                              obtain ⟨ad353, A353_4, c353_4, e353, hx353_0, hx353_1, hx353_2, hx353_3, hx353_4, hx353_5, hl353_4, hi353_4⟩ := at_T54 HR0_4.out x9_3 p353 q353
                              cases e353
                              replace hx353_0 := (HB.out.cell (World.block_lt_of_cell? w _ hx353_0)).trans hx353_0
                              replace hx353_1 := (HB.out.cell (World.block_lt_of_cell? w _ hx353_1)).trans hx353_1
                              replace hx353_2 := (HB.out.cell (World.block_lt_of_cell? w _ hx353_2)).trans hx353_2
                              replace hx353_3 := (HB.out.cell (World.block_lt_of_cell? w _ hx353_3)).trans hx353_3
                              replace hx353_4 := (HB.out.cell (World.block_lt_of_cell? w _ hx353_4)).trans hx353_4
                              replace hx353_5 := (HB.out.cell (World.block_lt_of_cell? w _ hx353_5)).trans hx353_5
                              have HR353_4 := Aside0.mk hi353_4
                              have HC353_4 := Aside0.mk hl353_4
                              clear hi353_4 hl353_4
                              replace p353 := eq_true p353
                              replace q353 := eq_true q353
                              go_wp2_with (first | ((with_reducible refine gate_callee (f := 24) rfl ?_); refine goesL_ (some 63) rfl rfl Tryd.func24 (by kernel_rfl) rfl #[.agg #[.int .i64 ((rd_T54 l0_4 x9_3).f0), .string ((rd_T54 l0_4 x9_3).f1), .int .i64 ((rd_T54 l0_4 x9_3).f2), .int .u64 ((rd_T54 l0_4 x9_3).f3), .slice A353_4 ((rd_T54 l0_4 x9_3).f4).length c353_4, .int .i64 ((rd_T54 l0_4 x9_3).f5)]] rfl (by (try simp only [List.map_toArray, List.map_cons, List.map_nil]); first | done | rfl | (simp only [List.length_drop, List.length_take]; rfl)) ?_; (with_reducible refine (ih k3 (by have := HJ1.out; have := HJ8.out; have := HK3.out; omega) ((rd_T54 l0_4 x9_3).f0) ((rd_T54 l0_4 x9_3).f1) ((rd_T54 l0_4 x9_3).f2) ((rd_T54 l0_4 x9_3).f3) _ _ ((rd_T54 l0_4 x9_3).f4) ((rd_T54 l0_4 x9_3).f5) t354 t355 t356 _ ?side1 ?side2 A44.out).mono ?_); (case side1 => repeat (first | exact (Kd.C_below HR353_4.out HB.out) | (with_reducible refine Kd.C_alloc ?_ _) | (with_reducible refine Kd.C_drewN ?_ _) | (with_reducible refine Kd.C_drew ?_))); (case side2 => exact HC353_4.out); rintro e w49 ⟨rfl, hb⟩; refine ⟨_, rfl, ?_⟩; have n0_ := Aside0.mk (Kd.R_below (by (with_reducible repeat (first | apply Kd.R_alloc | apply Kd.R_drewN | apply Kd.R_drew)); exact HO_5.out) hb); have n1_ := Aside0.mk (blk_below (g := gb341) (o := .cells #[.int .i64 a0_0, .string a0_1, .int .i64 a0_2, .int .u64 a0_3, .slice (some ad353) l0_4.length c0_4, .int .i64 a0_5] 54 (0, 0)) (by (with_reducible repeat (first | refine blk_drewN ?_ _ | refine blk_drew ?_ | refine blk_alloc ?_ _)); exact BK341.out) hb); have n2_ := Aside0.mk (below_step (by repeat (first | (with_reducible first | exact HB.out | apply below_alloc | apply pw_below_drewN | apply below_drew1 | refine below_set ?_ GE341.out) | exact HB.out)) hb); clear HO_5; clear BK341; clear HB; have HO_5 := n0_; have BK341 := n1_; have HB := n2_; clear n0_ n1_ n2_; (try clear hb); (try clear hb2); (try clear hk); (try clear hi); obtain ⟨Ao50, co50, eo50⟩ := Kd.R_slice HO_5.out; subst eo50; have p357 : 0 ≤ (x9_3 : Int) := of_decide_eq_true (by first | (with_reducible assumption) | assumption); have q357 : x9_3 < (x5_8.length : Int) := of_decide_eq_true (by first | (with_reducible assumption) | assumption); obtain ⟨ad357, e357, hx357_0⟩ := Kd.at_int (Kd.R_reads' HO_5.out).2.2 x9_3 p357 q357; cases e357; replace p357 := eq_true p357; replace q357 := eq_true q357))
                              go_roundg k3
                              case measure => have := HJ1.out; have := HJ8.out; have := HK3.out; omega
                              case rel => exact ⟨(wrap64 (x9_3 + 1)), (by first | rfl | (simp; done) | (simp [*]; done)), H', ⟨by have := HJ1.out; have := HJ8.out; have := HK3.out; omega⟩, ⟨by (with_reducible repeat (first | apply Kd.R_alloc | apply Kd.R_drewN | apply Kd.R_drew)); exact HO_5.out⟩, ⟨by (with_reducible repeat (first | refine blk_drewN ?_ _ | refine blk_drew ?_ | refine blk_alloc ?_ _)); exact BK341.out⟩, ⟨by repeat (first | (with_reducible first | exact HB.out | apply below_alloc | apply pw_below_drewN | apply below_drew1 | refine below_set ?_ GE341.out) | exact HB.out)⟩⟩
                            · rw [if_neg c47] at H
                              have c47b0 : (t354 == (rd x5_8 x9_3)) = false := beq_eq_false_iff_ne.mpr c47
                              have c47b1 : (t354 != (rd x5_8 x9_3)) = true := bne_iff_ne.mpr c47
                              simp only [Option.some.injEq, Prod.mk.injEq] at H
                              obtain ⟨rfl, rfl, rfl⟩ := H
                              have hcz51_0 : wr.cell? ⟨gb341, 0, none⟩ = some (.int .i64 a0_0) := (blk_cell BK341.out 0).trans rfl
                              have hcz51_1 : wr.cell? ⟨gb341, 1, none⟩ = some (.string a0_1) := (blk_cell BK341.out 1).trans rfl
                              have hcz51_2 : wr.cell? ⟨gb341, 2, none⟩ = some (.int .i64 a0_2) := (blk_cell BK341.out 2).trans rfl
                              have hcz51_3 : wr.cell? ⟨gb341, 3, none⟩ = some (.int .u64 a0_3) := (blk_cell BK341.out 3).trans rfl
                              have hcz51_4 : wr.cell? ⟨gb341, 4, none⟩ = some (.slice A0_4 l0_4.length c0_4) := (blk_cell BK341.out 4).trans rfl
                              have hcz51_5 : wr.cell? ⟨gb341, 5, none⟩ = some (.int .i64 a0_5) := (blk_cell BK341.out 5).trans rfl
                              have hfz51_0 := blk_frozen BK341.out 0
                              have hfz51_1 := blk_frozen BK341.out 1
                              have hfz51_2 := blk_frozen BK341.out 2
                              have hfz51_3 := blk_frozen BK341.out 3
                              have hfz51_4 := blk_frozen BK341.out 4
                              have hfz51_5 := blk_frozen BK341.out 5
                              have p353 : 0 ≤ (x9_3 : Int) := of_decide_eq_true (by first | (with_reducible assumption) | assumption)
                              have q353 : x9_3 < (l0_4.length : Int) := of_decide_eq_true (by first | (with_reducible assumption) | assumption)
                              obtain ⟨ad353, A353_4, c353_4, e353, hx353_0, hx353_1, hx353_2, hx353_3, hx353_4, hx353_5, hl353_4, hi353_4⟩ := at_T54 HR0_4.out x9_3 p353 q353
                              cases e353
                              replace hx353_0 := (HB.out.cell (World.block_lt_of_cell? w _ hx353_0)).trans hx353_0
                              replace hx353_1 := (HB.out.cell (World.block_lt_of_cell? w _ hx353_1)).trans hx353_1
                              replace hx353_2 := (HB.out.cell (World.block_lt_of_cell? w _ hx353_2)).trans hx353_2
                              replace hx353_3 := (HB.out.cell (World.block_lt_of_cell? w _ hx353_3)).trans hx353_3
                              replace hx353_4 := (HB.out.cell (World.block_lt_of_cell? w _ hx353_4)).trans hx353_4
                              replace hx353_5 := (HB.out.cell (World.block_lt_of_cell? w _ hx353_5)).trans hx353_5
                              have HR353_4 := Aside0.mk hi353_4
                              have HC353_4 := Aside0.mk hl353_4
                              clear hi353_4 hl353_4
                              replace p353 := eq_true p353
                              replace q353 := eq_true q353
                              try go_wp2_with (first | ((with_reducible refine gate_callee (f := 24) rfl ?_); refine goesL_ (some 63) rfl rfl Tryd.func24 (by kernel_rfl) rfl #[.agg #[.int .i64 ((rd_T54 l0_4 x9_3).f0), .string ((rd_T54 l0_4 x9_3).f1), .int .i64 ((rd_T54 l0_4 x9_3).f2), .int .u64 ((rd_T54 l0_4 x9_3).f3), .slice A353_4 ((rd_T54 l0_4 x9_3).f4).length c353_4, .int .i64 ((rd_T54 l0_4 x9_3).f5)]] rfl (by (try simp only [List.map_toArray, List.map_cons, List.map_nil]); first | done | rfl | (simp only [List.length_drop, List.length_take]; rfl)) ?_; (with_reducible refine (ih k3 (by have := HJ1.out; have := HJ8.out; have := HK3.out; omega) ((rd_T54 l0_4 x9_3).f0) ((rd_T54 l0_4 x9_3).f1) ((rd_T54 l0_4 x9_3).f2) ((rd_T54 l0_4 x9_3).f3) _ _ ((rd_T54 l0_4 x9_3).f4) ((rd_T54 l0_4 x9_3).f5) t354 t355 t356 _ ?side1 ?side2 A44.out).mono ?_); (case side1 => repeat (first | exact (Kd.C_below HR353_4.out HB.out) | (with_reducible refine Kd.C_alloc ?_ _) | (with_reducible refine Kd.C_drewN ?_ _) | (with_reducible refine Kd.C_drew ?_))); (case side2 => exact HC353_4.out); rintro e w52 ⟨rfl, hb⟩; refine ⟨_, rfl, ?_⟩; have n0_ := Aside0.mk (Kd.R_below (by (with_reducible repeat (first | apply Kd.R_alloc | apply Kd.R_drewN | apply Kd.R_drew)); exact HO_5.out) hb); have n1_ := Aside0.mk (blk_below (g := gb341) (o := .cells #[.int .i64 a0_0, .string a0_1, .int .i64 a0_2, .int .u64 a0_3, .slice (some ad353) l0_4.length c0_4, .int .i64 a0_5] 54 (0, 0)) (by (with_reducible repeat (first | refine blk_drewN ?_ _ | refine blk_drew ?_ | refine blk_alloc ?_ _)); exact BK341.out) hb); have n2_ := Aside0.mk (below_step (by repeat (first | (with_reducible first | exact HB.out | apply below_alloc | apply pw_below_drewN | apply below_drew1 | refine below_set ?_ GE341.out) | exact HB.out)) hb); clear HO_5; clear BK341; clear HB; have HO_5 := n0_; have BK341 := n1_; have HB := n2_; clear n0_ n1_ n2_; (try clear hb); (try clear hb2); (try clear hk); (try clear hi); obtain ⟨Ao53, co53, eo53⟩ := Kd.R_slice HO_5.out; subst eo53; have p357 : 0 ≤ (x9_3 : Int) := of_decide_eq_true (by first | (with_reducible assumption) | assumption); have q357 : x9_3 < (x5_8.length : Int) := of_decide_eq_true (by first | (with_reducible assumption) | assumption); obtain ⟨ad357, e357, hx357_0⟩ := Kd.at_int (Kd.R_reads' HO_5.out).2.2 x9_3 p357 q357; cases e357; replace p357 := eq_true p357; replace q357 := eq_true q357))
                              have n0_ := Aside0.mk (Kd.R_drew HO_5.out)
                              have n1_ := Aside0.mk (blk_drew BK341.out)
                              have n2_ := Aside0.mk (below_drew1 HB.out)
                              clear HO_5
                              clear BK341
                              clear HB
                              have HO_5 := n0_
                              have BK341 := n1_
                              have HB := n2_
                              clear n0_ n1_ n2_
                              have p358 : 0 ≤ (x9_3 : Int) := of_decide_eq_true (by first | (with_reducible assumption) | assumption)
                              have q358 : x9_3 < (l0_4.length : Int) := of_decide_eq_true (by first | (with_reducible assumption) | assumption)
                              obtain ⟨ad358, A358_4, c358_4, e358, hx358_0, hx358_1, hx358_2, hx358_3, hx358_4, hx358_5, hl358_4, hi358_4⟩ := at_T54 HR0_4.out x9_3 p358 q358
                              have hw358_5 := hx358_5
                              have hw358_4 := hx358_4
                              have hw358_3 := hx358_3
                              have hw358_2 := hx358_2
                              have hw358_1 := hx358_1
                              have hw358_0 := hx358_0
                              obtain rfl : ad353 = ad358 := (by injection e358)
                              replace hx358_0 := (HB.out.cell (World.block_lt_of_cell? w _ hx358_0)).trans hx358_0
                              replace hx358_1 := (HB.out.cell (World.block_lt_of_cell? w _ hx358_1)).trans hx358_1
                              replace hx358_2 := (HB.out.cell (World.block_lt_of_cell? w _ hx358_2)).trans hx358_2
                              replace hx358_3 := (HB.out.cell (World.block_lt_of_cell? w _ hx358_3)).trans hx358_3
                              replace hx358_4 := (HB.out.cell (World.block_lt_of_cell? w _ hx358_4)).trans hx358_4
                              replace hx358_5 := (HB.out.cell (World.block_lt_of_cell? w _ hx358_5)).trans hx358_5
                              have HR358_4 := Aside0.mk hi358_4
                              have HC358_4 := Aside0.mk hl358_4
                              clear hi358_4 hl358_4
                              replace p358 := eq_true p358
                              replace q358 := eq_true q358
                              refine start_ (n := 9) (S := fun w' => w'.cell? ⟨gb341, 0, none⟩ = some (.int .i64 a0_0) ∧ w'.cell? ⟨gb341, 1, none⟩ = some (.string a0_1) ∧ w'.cell? ⟨gb341, 2, none⟩ = some (.int .i64 a0_2) ∧ w'.cell? ⟨gb341, 3, none⟩ = some (.int .u64 a0_3) ∧ w'.cell? ⟨gb341, 4, none⟩ = some (.slice (some ad353) l0_4.length c0_4) ∧ w'.cell? ⟨gb341, 5, none⟩ = some (.int .i64 a0_5) ∧ w'.cell? (ad353.add ((x9_3).toNat * 6)) = some (.int .i64 ((rd_T54 l0_4 x9_3).f0)) ∧ w'.cell? ⟨(ad353.add ((x9_3).toNat * 6)).block, (ad353.add ((x9_3).toNat * 6)).off + 1, none⟩ = some (.string ((rd_T54 l0_4 x9_3).f1)) ∧ w'.cell? ⟨(ad353.add ((x9_3).toNat * 6)).block, (ad353.add ((x9_3).toNat * 6)).off + 2, none⟩ = some (.int .i64 ((rd_T54 l0_4 x9_3).f2)) ∧ w'.cell? ⟨(ad353.add ((x9_3).toNat * 6)).block, (ad353.add ((x9_3).toNat * 6)).off + 3, none⟩ = some (.int .u64 ((rd_T54 l0_4 x9_3).f3)) ∧ w'.cell? ⟨(ad353.add ((x9_3).toNat * 6)).block, (ad353.add ((x9_3).toNat * 6)).off + 4, none⟩ = some (.slice A358_4 ((rd_T54 l0_4 x9_3).f4).length c358_4) ∧ w'.cell? ⟨(ad353.add ((x9_3).toNat * 6)).block, (ad353.add ((x9_3).toNat * 6)).off + 5, none⟩ = some (.int .i64 ((rd_T54 l0_4 x9_3).f5))) (ds := []) #[false, false, false, false, false, false, false, false, false] (by kernel_rfl) rfl rfl ⟨(blk_cell BK341.out 0).trans rfl, (blk_cell BK341.out 1).trans rfl, (blk_cell BK341.out 2).trans rfl, (blk_cell BK341.out 3).trans rfl, (blk_cell BK341.out 4).trans rfl, (blk_cell BK341.out 5).trans rfl, ((HB.out.cell (World.block_lt_of_cell? w _ hw358_0)).trans hw358_0), ((HB.out.cell (World.block_lt_of_cell? w _ hw358_1)).trans hw358_1), ((HB.out.cell (World.block_lt_of_cell? w _ hw358_2)).trans hw358_2), ((HB.out.cell (World.block_lt_of_cell? w _ hw358_3)).trans hw358_3), ((HB.out.cell (World.block_lt_of_cell? w _ hw358_4)).trans hw358_4), ((HB.out.cell (World.block_lt_of_cell? w _ hw358_5)).trans hw358_5)⟩ (fun hHeld => ?_); refine with_tabW forebearref24_Check.tab27 forebearref24_Check.bits27 (fun HT_ HW_ => ?_)
                              generalize w52.drew = w54 at HO_5 BK341 HB HR358_4 hx358_0 hx358_1 hx358_2 hx358_3 hx358_4 hx358_5 hHeld ⊢
                              refine pure_ (i := 0) (N := some 77) (v := ?_) (a' := ?_) #[true, false, false, false, false, false, false, false, false] rfl rfl (any_of HT_.out (by kernel_rfl)) (fun _ _ _ h => h) (Or.inl ⟨by rfl, ?_⟩) ?_ ?_
                              rotate_left
                              · intro w'
                                go_simp
                                with_reducible rfl
                              rotate_left
                              · simp only [Act.put, List.setIfInBounds_toArray, List.set_cons_zero, List.set_cons_succ, i64_w, i32_w]
                                rfl
                              refine pure_ (i := 2) (N := some 79) (v := ?_) (a' := ?_) #[true, false, true, false, false, false, false, false, false] rfl rfl (any_of HT_.out (by kernel_rfl)) (fun _ _ _ h => h) (Or.inl ⟨by rfl, ?_⟩) ?_ ?_
                              rotate_left
                              · intro w'
                                go_simp
                                with_reducible rfl
                              rotate_left
                              · simp only [Act.put, List.setIfInBounds_toArray, List.set_cons_zero, List.set_cons_succ, i64_w, i32_w]
                                rfl
                              refine pure_ (i := 6) (N := some 2) (v := ?_) (a' := ?_) #[true, false, true, false, false, false, true, false, false] rfl rfl (any_of HT_.out (by kernel_rfl)) (fun _ _ _ h => h) (Or.inl ⟨by rfl, ?_⟩) ?_ ?_
                              rotate_left
                              · intro w'
                                go_simp
                                with_reducible rfl
                              rotate_left
                              · simp only [Act.put, List.setIfInBounds_toArray, List.set_cons_zero, List.set_cons_succ, i64_w, i32_w]
                                rfl
                              refine take_ (i := 1) (N := some 78) (v := ?_) (a' := ?_) #[true, true, true, false, false, false, true, false, false] rfl rfl (take_ofW HT_.out HW_.out (by kernel_rfl)) (fun _ _ _ h => h) (Or.inl ⟨by rfl, ?_⟩) hHeld ?_ ?_
                              rotate_left
                              · rintro w' ⟨s0, s1, s2, s3, s4, s5, s6, s7, s8, s9, s10, s11⟩
                                go_simp
                                with_reducible rfl
                              rotate_left
                              · simp only [Act.put, List.setIfInBounds_toArray, List.set_cons_zero, List.set_cons_succ, i64_w, i32_w]
                                rfl
                              refine pure_ (i := 3) (N := some 80) (v := ?_) (a' := ?_) #[true, true, true, true, false, false, true, false, false] rfl rfl (any_of HT_.out (by kernel_rfl)) (fun _ _ _ h => h) (Or.inl ⟨by rfl, ?_⟩) ?_ ?_
                              rotate_left
                              · intro w'
                                go_simp
                                with_reducible rfl
                              rotate_left
                              · simp only [Act.put, List.setIfInBounds_toArray, List.set_cons_zero, List.set_cons_succ, i64_w, i32_w]
                                rfl
                              refine pure_ (i := 4) (N := some 81) (v := ?_) (a' := ?_) #[true, true, true, true, true, false, true, false, false] rfl rfl (any_of HT_.out (by kernel_rfl)) (fun _ _ _ h => h) (Or.inl ⟨by rfl, ?_⟩) ?_ ?_
                              rotate_left
                              · intro w'
                                go_simp
                                with_reducible rfl
                              rotate_left
                              · simp only [Act.put, List.setIfInBounds_toArray, List.set_cons_zero, List.set_cons_succ, i64_w, i32_w]
                                rfl
                              refine take_ (i := 5) (N := some 82) (v := ?_) (a' := ?_) #[true, true, true, true, true, true, true, false, false] rfl rfl (take_ofW HT_.out HW_.out (by kernel_rfl)) (fun _ _ _ h => h) (Or.inl ⟨by rfl, ?_⟩) hHeld ?_ ?_
                              rotate_left
                              · rintro w' ⟨s0, s1, s2, s3, s4, s5, s6, s7, s8, s9, s10, s11⟩
                                go_simp
                                with_reducible rfl
                              rotate_left
                              · simp only [Act.put, List.setIfInBounds_toArray, List.set_cons_zero, List.set_cons_succ, i64_w, i32_w]
                                rfl
                              refine pure_ (i := 7) (N := some 3) (v := ?_) (a' := ?_) #[true, true, true, true, true, true, true, true, false] rfl rfl (any_of HT_.out (by kernel_rfl)) (fun _ _ _ h => h) (Or.inl ⟨by rfl, ?_⟩) ?_ ?_
                              rotate_left
                              · intro w'
                                go_simp
                                with_reducible rfl
                              rotate_left
                              · simp only [Act.put, List.setIfInBounds_toArray, List.set_cons_zero, List.set_cons_succ, i64_w, i32_w]
                                rfl
                              refine pure_ (i := 8) (N := some 4) (v := ?_) (a' := ?_) #[true, true, true, true, true, true, true, true, true] rfl rfl (any_of HT_.out (by kernel_rfl)) (fun _ _ _ h => h) (Or.inl ⟨by rfl, ?_⟩) ?_ ?_
                              rotate_left
                              · intro w'
                                go_simp
                                with_reducible rfl
                              rotate_left
                              · simp only [Act.put, List.setIfInBounds_toArray, List.set_cons_zero, List.set_cons_succ, i64_w, i32_w]
                                rfl
                              refine done_ (done_of HT_.out (by kernel_rfl)) ?_
                              try go_wp2
                              go_ret3
                              exact ⟨by first | rfl | (simp [errW_none, errW_some] <;> rfl) | (simp [*, errW_none, errW_some] <;> rfl), by repeat (first | (with_reducible first | exact HB.out | apply below_alloc | apply pw_below_drewN | apply below_drew1 | refine below_set ?_ GE341.out) | exact HB.out)⟩
                          · rw [if_neg c46] at H
                            exact absurd H (by simp)
                        · rw [if_neg c45] at H
                          have c45b0 : (t356 == 0) = false := beq_eq_false_iff_ne.mpr c45
                          have c45b1 : (t356 != 0) = true := bne_iff_ne.mpr c45
                          simp only [Option.some.injEq, Prod.mk.injEq] at H
                          obtain ⟨rfl, rfl, rfl⟩ := H
                          have hcz55_0 : wr.cell? ⟨gb341, 0, none⟩ = some (.int .i64 a0_0) := (blk_cell BK341.out 0).trans rfl
                          have hcz55_1 : wr.cell? ⟨gb341, 1, none⟩ = some (.string a0_1) := (blk_cell BK341.out 1).trans rfl
                          have hcz55_2 : wr.cell? ⟨gb341, 2, none⟩ = some (.int .i64 a0_2) := (blk_cell BK341.out 2).trans rfl
                          have hcz55_3 : wr.cell? ⟨gb341, 3, none⟩ = some (.int .u64 a0_3) := (blk_cell BK341.out 3).trans rfl
                          have hcz55_4 : wr.cell? ⟨gb341, 4, none⟩ = some (.slice A0_4 l0_4.length c0_4) := (blk_cell BK341.out 4).trans rfl
                          have hcz55_5 : wr.cell? ⟨gb341, 5, none⟩ = some (.int .i64 a0_5) := (blk_cell BK341.out 5).trans rfl
                          have hfz55_0 := blk_frozen BK341.out 0
                          have hfz55_1 := blk_frozen BK341.out 1
                          have hfz55_2 := blk_frozen BK341.out 2
                          have hfz55_3 := blk_frozen BK341.out 3
                          have hfz55_4 := blk_frozen BK341.out 4
                          have hfz55_5 := blk_frozen BK341.out 5
                          have p353 : 0 ≤ (x9_3 : Int) := of_decide_eq_true (by first | (with_reducible assumption) | assumption)
                          have q353 : x9_3 < (l0_4.length : Int) := of_decide_eq_true (by first | (with_reducible assumption) | assumption)
                          obtain ⟨ad353, A353_4, c353_4, e353, hx353_0, hx353_1, hx353_2, hx353_3, hx353_4, hx353_5, hl353_4, hi353_4⟩ := at_T54 HR0_4.out x9_3 p353 q353
                          cases e353
                          replace hx353_0 := (HB.out.cell (World.block_lt_of_cell? w _ hx353_0)).trans hx353_0
                          replace hx353_1 := (HB.out.cell (World.block_lt_of_cell? w _ hx353_1)).trans hx353_1
                          replace hx353_2 := (HB.out.cell (World.block_lt_of_cell? w _ hx353_2)).trans hx353_2
                          replace hx353_3 := (HB.out.cell (World.block_lt_of_cell? w _ hx353_3)).trans hx353_3
                          replace hx353_4 := (HB.out.cell (World.block_lt_of_cell? w _ hx353_4)).trans hx353_4
                          replace hx353_5 := (HB.out.cell (World.block_lt_of_cell? w _ hx353_5)).trans hx353_5
                          have HR353_4 := Aside0.mk hi353_4
                          have HC353_4 := Aside0.mk hl353_4
                          clear hi353_4 hl353_4
                          replace p353 := eq_true p353
                          replace q353 := eq_true q353
                          go_wp2_with (first | ((with_reducible refine gate_callee (f := 24) rfl ?_); refine goesL_ (some 63) rfl rfl Tryd.func24 (by kernel_rfl) rfl #[.agg #[.int .i64 ((rd_T54 l0_4 x9_3).f0), .string ((rd_T54 l0_4 x9_3).f1), .int .i64 ((rd_T54 l0_4 x9_3).f2), .int .u64 ((rd_T54 l0_4 x9_3).f3), .slice A353_4 ((rd_T54 l0_4 x9_3).f4).length c353_4, .int .i64 ((rd_T54 l0_4 x9_3).f5)]] rfl (by (try simp only [List.map_toArray, List.map_cons, List.map_nil]); first | done | rfl | (simp only [List.length_drop, List.length_take]; rfl)) ?_; (with_reducible refine (ih k3 (by have := HJ1.out; have := HJ8.out; have := HK3.out; omega) ((rd_T54 l0_4 x9_3).f0) ((rd_T54 l0_4 x9_3).f1) ((rd_T54 l0_4 x9_3).f2) ((rd_T54 l0_4 x9_3).f3) _ _ ((rd_T54 l0_4 x9_3).f4) ((rd_T54 l0_4 x9_3).f5) t354 t355 t356 _ ?side1 ?side2 A44.out).mono ?_); (case side1 => repeat (first | exact (Kd.C_below HR353_4.out HB.out) | (with_reducible refine Kd.C_alloc ?_ _) | (with_reducible refine Kd.C_drewN ?_ _) | (with_reducible refine Kd.C_drew ?_))); (case side2 => exact HC353_4.out); rintro e w56 ⟨rfl, hb⟩; refine ⟨_, rfl, ?_⟩; have n0_ := Aside0.mk (Kd.R_below (by (with_reducible repeat (first | apply Kd.R_alloc | apply Kd.R_drewN | apply Kd.R_drew)); exact HO_5.out) hb); have n1_ := Aside0.mk (blk_below (g := gb341) (o := .cells #[.int .i64 a0_0, .string a0_1, .int .i64 a0_2, .int .u64 a0_3, .slice (some ad353) l0_4.length c0_4, .int .i64 a0_5] 54 (0, 0)) (by (with_reducible repeat (first | refine blk_drewN ?_ _ | refine blk_drew ?_ | refine blk_alloc ?_ _)); exact BK341.out) hb); have n2_ := Aside0.mk (below_step (by repeat (first | (with_reducible first | exact HB.out | apply below_alloc | apply pw_below_drewN | apply below_drew1 | refine below_set ?_ GE341.out) | exact HB.out)) hb); clear HO_5; clear BK341; clear HB; have HO_5 := n0_; have BK341 := n1_; have HB := n2_; clear n0_ n1_ n2_; (try clear hb); (try clear hb2); (try clear hk); (try clear hi)))
                          go_ret3
                          exact ⟨by first | rfl | (simp [errW_none, errW_some] <;> rfl) | (simp [*, errW_none, errW_some] <;> rfl), by repeat (first | (with_reducible first | exact HB.out | apply below_alloc | apply pw_below_drewN | apply below_drew1 | refine below_set ?_ GE341.out) | exact HB.out)⟩
                      · rw [if_neg c43] at H
                        exact absurd H (by simp)
                    · rw [if_neg c42] at H
                      have c42b0 : decide (x9_3 < (l0_4.length : Int)) = false := decide_eq_false c42
                      clear c42
                      simp only [Option.some.injEq, Prod.mk.injEq] at H
                      obtain ⟨rfl, rfl, rfl⟩ := H
                      have hcz57_0 : wr.cell? ⟨gb341, 0, none⟩ = some (.int .i64 a0_0) := (blk_cell BK341.out 0).trans rfl
                      have hcz57_1 : wr.cell? ⟨gb341, 1, none⟩ = some (.string a0_1) := (blk_cell BK341.out 1).trans rfl
                      have hcz57_2 : wr.cell? ⟨gb341, 2, none⟩ = some (.int .i64 a0_2) := (blk_cell BK341.out 2).trans rfl
                      have hcz57_3 : wr.cell? ⟨gb341, 3, none⟩ = some (.int .u64 a0_3) := (blk_cell BK341.out 3).trans rfl
                      have hcz57_4 : wr.cell? ⟨gb341, 4, none⟩ = some (.slice A0_4 l0_4.length c0_4) := (blk_cell BK341.out 4).trans rfl
                      have hcz57_5 : wr.cell? ⟨gb341, 5, none⟩ = some (.int .i64 a0_5) := (blk_cell BK341.out 5).trans rfl
                      have hfz57_0 := blk_frozen BK341.out 0
                      have hfz57_1 := blk_frozen BK341.out 1
                      have hfz57_2 := blk_frozen BK341.out 2
                      have hfz57_3 := blk_frozen BK341.out 3
                      have hfz57_4 := blk_frozen BK341.out 4
                      have hfz57_5 := blk_frozen BK341.out 5
                      go_wp2
                      go_ret3
                      exact ⟨by first | rfl | (simp [errW_none, errW_some] <;> rfl) | (simp [*, errW_none, errW_some] <;> rfl), by repeat (first | (with_reducible first | exact HB.out | apply below_alloc | apply pw_below_drewN | apply below_drew1 | refine below_set ?_ GE341.out) | exact HB.out)⟩

end Go.Proofs.YtfgfoofojofnmaaDoor.Q
