-- Written by a program of this session's (wip/tools/hprint.py, over the kit's print.py). Not trusted: Lean checks it.
import Derived.Test.YtfgfoofojofnmaaDoorQ0
import Derived.Test.YtfgfoofojofnmaaDoorQF54
namespace Go.Proofs.YtfgfoofojofnmaaDoor.Q
open Go.RowKit Go.Proofs.YtfgfoofojofnmaaDoorW.PrintWords Go.Proofs.YtfgfoofojofnmaaDoorW.PrintLast Go.Proofs.YtfgfoofojofnmaaDoorW.PrintMore
attribute [local go_sem] Go.Proofs.YtfgfoofojofnmaaDoor.Hand.w64_mod256 Go.Proofs.YtfgfoofojofnmaaDoor.Hand.w64_mod32 max2_int min2_int max_two min_two max_three min_three max_four min_four   -- for this text's walks alone
set_option linter.unusedVariables false
set_option linter.unusedSimpArgs false

/-! ### forebearref24_takes: function 55 -/
mutual
def forebearref24_takes.j0 : Nat → ByteArray → Int → Bool → Option (List Int × Bool)
  | 0, _, _, _ => none
  | k + 1, x0, x1, x14 => if x14 = true then (some ((([3] : List Int)), (x1 == 1))) else (if x0.toList = ([97, 110, 99, 101, 115, 116, 111, 114, 115] : List UInt8) then ((some (([1, 2] : List Int) : List Int)).bind fun y322 => (if x1 = 1 then (some (y322, true)) else (some (y322, (x1 == 2))))) else (if x0.toList = ([116, 111, 117, 99, 104, 105, 110, 103] : List UInt8) then (some ((([1, 3] : List Int)), (x1 == 2))) else ((forebearref24_among.f k x0 (([(⟨#[108, 97, 116, 101, 115, 116]⟩ : ByteArray), (⟨#[98, 101, 102, 111, 114, 101]⟩ : ByteArray), (⟨#[115, 105, 110, 99, 101]⟩ : ByteArray)] : List ByteArray))).bind fun t331 => (if t331 = true then (some ((([1, 2] : List Int)), (x1 == 2))) else (if x0.toList = ([117, 110, 105, 111, 110] : List UInt8) then (forebearref24_takes.j1 k x1 true) else (forebearref24_takes.j1 k x1 (x0.toList == ([99, 111, 109, 109, 111, 110] : List UInt8))))))))
def forebearref24_takes.j1 : Nat → Int → Bool → Option (List Int × Bool)
  | 0, _, _ => none
  | k + 1, x1, x47 => if x47 = true then (forebearref24_takes.l0 k x1 ([] : List Int) 0) else (some ((([1] : List Int)), (x1 == 1)))
def forebearref24_takes.l0 : Nat → Int → List Int → Int → Option (List Int × Bool)
  | 0, _, _, _ => none
  | k + 1, x1, x6, x7 => if x7 < x1 then (if x6.length < 17592186044416 then (forebearref24_takes.l0 k x1 (x6 ++ [1]) (wrap64 (x7 + 1))) else (none)) else (some (x6, decide (x1 ≥ 1)))
end
def forebearref24_takes.f (k : Nat) (a0 : ByteArray) (a1 : Int) : Option (List Int × Bool) := (forebearref24_among.f k a0 (([(⟨#[97, 108, 108]⟩ : ByteArray), (⟨#[110, 111, 110, 101]⟩ : ByteArray), (⟨#[114, 101, 102, 115]⟩ : ByteArray), (⟨#[116, 97, 103, 115]⟩ : ByteArray)] : List ByteArray))).bind fun t318 => (if t318 = true then (some (([] : List Int), (a1 == 0))) else (if a0.toList = ([114, 101, 102] : List UInt8) then (forebearref24_takes.j0 k a0 a1 true) else (forebearref24_takes.j0 k a0 a1 (a0.toList == ([116, 97, 103] : List UInt8)))))
theorem forebearref24_takes.mono_l : ∀ k, (∀ y0 y1 y2, LeO (forebearref24_takes.j0 k y0 y1 y2) (forebearref24_takes.j0 (k + 1) y0 y1 y2)) ∧ (∀ y0 y1, LeO (forebearref24_takes.j1 k y0 y1) (forebearref24_takes.j1 (k + 1) y0 y1)) ∧ (∀ y0 y1 y2, LeO (forebearref24_takes.l0 k y0 y1 y2) (forebearref24_takes.l0 (k + 1) y0 y1 y2))
  | 0 => ⟨fun _ _ _ r h => by simp [forebearref24_takes.j0] at h, fun _ _ r h => by simp [forebearref24_takes.j1] at h, fun _ _ _ r h => by simp [forebearref24_takes.l0] at h⟩
  | k + 1 => by
    obtain ⟨ih0, ih1, ih2⟩ := forebearref24_takes.mono_l k
    refine ⟨?_, ?_, ?_⟩
    · intro y0 y1 y2
      unfold forebearref24_takes.j0
      repeat' first
      | (with_reducible exact ih0 _ _ _)
      | (with_reducible exact ih1 _ _)
      | (with_reducible exact ih2 _ _ _)
      | (with_reducible exact forebearref24_among.mono _ _ _)
      | (with_reducible exact LeO.refl _)
      | (with_reducible exact LeO.none _)
      | (with_reducible refine LeO.ite ?_ ?_)
      | (with_reducible refine LeO.bind ?_ (fun _ => ?_))
      | exact ih0 _ _ _
      | exact ih1 _ _
      | exact ih2 _ _ _
      | exact forebearref24_among.mono _ _ _
      | exact LeO.none _
      | refine LeO.ite ?_ ?_
      | refine LeO.bind ?_ (fun _ => ?_)
    · intro y0 y1
      unfold forebearref24_takes.j1
      repeat' first
      | (with_reducible exact ih0 _ _ _)
      | (with_reducible exact ih1 _ _)
      | (with_reducible exact ih2 _ _ _)
      | (with_reducible exact forebearref24_among.mono _ _ _)
      | (with_reducible exact LeO.refl _)
      | (with_reducible exact LeO.none _)
      | (with_reducible refine LeO.ite ?_ ?_)
      | (with_reducible refine LeO.bind ?_ (fun _ => ?_))
      | exact ih0 _ _ _
      | exact ih1 _ _
      | exact ih2 _ _ _
      | exact forebearref24_among.mono _ _ _
      | exact LeO.none _
      | refine LeO.ite ?_ ?_
      | refine LeO.bind ?_ (fun _ => ?_)
    · intro y0 y1 y2
      unfold forebearref24_takes.l0
      repeat' first
      | (with_reducible exact ih0 _ _ _)
      | (with_reducible exact ih1 _ _)
      | (with_reducible exact ih2 _ _ _)
      | (with_reducible exact forebearref24_among.mono _ _ _)
      | (with_reducible exact LeO.refl _)
      | (with_reducible exact LeO.none _)
      | (with_reducible refine LeO.ite ?_ ?_)
      | (with_reducible refine LeO.bind ?_ (fun _ => ?_))
      | exact ih0 _ _ _
      | exact ih1 _ _
      | exact ih2 _ _ _
      | exact forebearref24_among.mono _ _ _
      | exact LeO.none _
      | refine LeO.ite ?_ ?_
      | refine LeO.bind ?_ (fun _ => ?_)
theorem forebearref24_takes.mono : ∀ a0 a1 k, LeO (forebearref24_takes.f k a0 a1) (forebearref24_takes.f (k + 1) a0 a1) := by
  intro a0 a1 k
  obtain ⟨ih0, ih1, ih2⟩ := forebearref24_takes.mono_l k
  unfold forebearref24_takes.f
  repeat' first
      | (with_reducible exact ih0 _ _ _)
      | (with_reducible exact ih1 _ _)
      | (with_reducible exact ih2 _ _ _)
      | (with_reducible exact forebearref24_among.mono _ _ _)
      | (with_reducible exact LeO.refl _)
      | (with_reducible exact LeO.none _)
      | (with_reducible refine LeO.ite ?_ ?_)
      | (with_reducible refine LeO.bind ?_ (fun _ => ?_))
      | exact ih0 _ _ _
      | exact ih1 _ _
      | exact ih2 _ _ _
      | exact forebearref24_among.mono _ _ _
      | exact LeO.none _
      | refine LeO.ite ?_ ?_
      | refine LeO.bind ?_ (fun _ => ?_)
set_option maxHeartbeats 8000000 in
set_option maxRecDepth 100000 in
theorem forebearref24_takes.calls (k : Nat) (a0 : ByteArray) (a1 : Int) (r1 : List Int) (r2 : Bool) (w : World) (h : forebearref24_takes.f k a0 a1 = some (r1, r2)) :
    Calls Tryd.prog 55 #[.string a0, .int .i64 a1] w fun e w' => ∃ v0_ : Value, e = .returned (.tuple #[v0_, .bool r2]) ∧ Kd.R (Kd.int .i64) 3 w' w.heap.size (fun _ => True) v0_ r1 ∧ Below w.heap.size w w' := by
  have HB := Aside0.mk (Below.refl w.heap.size w)
  have H : ((forebearref24_among.f k a0 (([(⟨#[97, 108, 108]⟩ : ByteArray), (⟨#[110, 111, 110, 101]⟩ : ByteArray), (⟨#[114, 101, 102, 115]⟩ : ByteArray), (⟨#[116, 97, 103, 115]⟩ : ByteArray)] : List ByteArray))).bind fun t318 => (if t318 = true then (some (([] : List Int), (a1 == 0))) else (if a0.toList = ([114, 101, 102] : List UInt8) then (forebearref24_takes.j0 k a0 a1 true) else (forebearref24_takes.j0 k a0 a1 (a0.toList == ([116, 97, 103] : List UInt8)))))) = some (r1, r2) := h
  clear h
  obtain ⟨y315, hy315⟩ : ∃ y_ : List ByteArray, y_ = (([(⟨#[97, 108, 108]⟩ : ByteArray), (⟨#[110, 111, 110, 101]⟩ : ByteArray), (⟨#[114, 101, 102, 115]⟩ : ByteArray), (⟨#[116, 97, 103, 115]⟩ : ByteArray)] : List ByteArray)) := ⟨_, rfl⟩
  replace H : ((forebearref24_among.f k a0 y315).bind fun t318 => (if t318 = true then (some (([] : List Int), (a1 == 0))) else (if a0.toList = ([114, 101, 102] : List UInt8) then (forebearref24_takes.j0 k a0 a1 true) else (forebearref24_takes.j0 k a0 a1 (a0.toList == ([116, 97, 103] : List UInt8)))))) = some (r1, r2) := by first | (rw [hy315]; with_reducible exact H) | (have H2_ := (Option.bind_some _ _).symm.trans H; rw [hy315]; with_reducible exact H2_) | (have H2_ := (Option.bind_some _ _).symm.trans H; with_reducible exact H2_) | with_reducible exact H | (rw [hy315]; exact H) | exact H
  have Ny315 := Aside0.mk hy315
  clear hy315
  replace H := Option.bind_eq_some_iff.mp H
  obtain ⟨t318, A30, H⟩ := H
  replace H : (if t318 = true then (some (([] : List Int), (a1 == 0))) else (if a0.toList = ([114, 101, 102] : List UInt8) then (forebearref24_takes.j0 k a0 a1 true) else (forebearref24_takes.j0 k a0 a1 (a0.toList == ([116, 97, 103] : List UInt8))))) = some (r1, r2) := H
  have A3 := Aside0.mk A30
  clear A30
  by_cases c4 : t318 = true
  · subst c4
    have H1 : (some (([] : List Int), (a1 == 0))) = some (r1, r2) := by rw [if_pos rfl] at H; exact H
    clear H
    have H := H1
    clear H1
    simp only [Option.some.injEq, Prod.mk.injEq] at H
    obtain ⟨rfl, rfl⟩ := H
    go_enter Tryd.func55, Tryd.ntmps55
    go_wp2_with (first | ((with_reducible refine gate_dst (N := 10) rfl ?_); refine Kd.R_lit Kd.string _ 9 ?hg (N := 10) ?hd (xs := ([(⟨#[97, 108, 108]⟩ : ByteArray), (⟨#[110, 111, 110, 101]⟩ : ByteArray), (⟨#[114, 101, 102, 115]⟩ : ByteArray), (⟨#[116, 97, 103, 115]⟩ : ByteArray)] : List ByteArray)) (inner := [.string (⟨#[97, 108, 108]⟩ : ByteArray), .string (⟨#[110, 111, 110, 101]⟩ : ByteArray), .string (⟨#[114, 101, 102, 115]⟩ : ByteArray), .string (⟨#[116, 97, 103, 115]⟩ : ByteArray)]) (ok := fun _ => True) (okp := fun _ => True) ?hr ?hp (fun _ hk => hk) trivial (Below.refl _ _) (Nat.le_refl _) (by simp) ?_; (case hd => rfl); (case hg => rfl); (case hr => first | (go_simp; done) | (go_simp; rfl)); (case hp => exact (Reps.one (show Kd.M Kd.string _ _ _ (⟨#[97, 108, 108]⟩ : ByteArray) [.string (⟨#[97, 108, 108]⟩ : ByteArray)] from rfl) (Reps.one (show Kd.M Kd.string _ _ _ (⟨#[110, 111, 110, 101]⟩ : ByteArray) [.string (⟨#[110, 111, 110, 101]⟩ : ByteArray)] from rfl) (Reps.one (show Kd.M Kd.string _ _ _ (⟨#[114, 101, 102, 115]⟩ : ByteArray) [.string (⟨#[114, 101, 102, 115]⟩ : ByteArray)] from rfl) (Reps.one (show Kd.M Kd.string _ _ _ (⟨#[116, 97, 103, 115]⟩ : ByteArray) [.string (⟨#[116, 97, 103, 115]⟩ : ByteArray)] from rfl) (Reps.none _ _)))))); intro v316 w5 ho6 hb hg_ hnew_; clear hg_ hnew_; (first | rw [← Ny315.out] at ho6 | (simp only [Int.reduceToNat] at ho6; rw [← Ny315.out] at ho6)); have n0_ := Aside0.mk (Kd.R_lower ho6 (below_size (by repeat (first | (with_reducible first | exact HB.out | apply below_alloc | apply pw_below_drewN | apply below_drew1) | exact HB.out)))); have n1_ := Aside0.mk (below_step (by repeat (first | (with_reducible first | exact HB.out | apply below_alloc | apply pw_below_drewN | apply below_drew1) | exact HB.out)) hb); clear HB; have HO317 := n0_; have HB := n1_; clear n0_ n1_; clear hb ho6; obtain ⟨Ao7, co7, eo7⟩ := Kd.R_slice HO317.out; subst eo7) | ((with_reducible refine gate_callee (f := 54) rfl ?_); refine goesL_ (some 11) rfl rfl Tryd.func54 (by kernel_rfl) rfl #[.string a0, .slice Ao7 y315.length co7] rfl (by (try simp only [List.map_toArray, List.map_cons, List.map_nil]); first | done | rfl | (simp only [List.length_drop, List.length_take]; rfl)) ?_; (with_reducible refine (forebearref24_among.calls k a0 _ _ y315 true _ ?side1 ?side2 A3.out).mono ?_); (case side1 => repeat (first | exact (Kd.R_reads' HO317.out).2.2 | (with_reducible refine Kd.C_alloc ?_ _) | (with_reducible refine Kd.C_drewN ?_ _) | (with_reducible refine Kd.C_drew ?_))); (case side2 => exact (Kd.R_reads' HO317.out).2.1); rintro e w' ⟨rfl, ⟨nd, rfl⟩⟩; refine ⟨_, rfl, ?_⟩))
    go_ret2
    exact ⟨_, by first | rfl | (simp [errW_none, errW_some] <;> rfl) | (simp [*, errW_none, errW_some] <;> rfl), by first | exact Kd.R_nil _ _ _ _ _ | exact Kd.N_nil _ _ _ _ _ | exact Kd.V_nil _ _ _ _ _ | exact Kd.Q_nil _ _ _ _ _ | exact Kd.S_nil _ _ _ _ _, by repeat (first | (with_reducible first | exact HB.out | apply below_alloc | apply pw_below_drewN | apply below_drew1) | exact HB.out)⟩
  · replace c4 := Bool.eq_false_iff.mpr c4
    subst c4
    have H1 : (if a0.toList = ([114, 101, 102] : List UInt8) then (forebearref24_takes.j0 k a0 a1 true) else (forebearref24_takes.j0 k a0 a1 (a0.toList == ([116, 97, 103] : List UInt8)))) = some (r1, r2) := by rw [if_neg (show ¬ (false = true) by decide)] at H; exact H
    clear H
    have H := H1
    clear H1
    have HC8 := Aside0.mk H
    clear H
    go_enter Tryd.func55, Tryd.ntmps55
    go_upto_region 3 with (first | ((with_reducible refine gate_dst (N := 10) rfl ?_); refine Kd.R_lit Kd.string _ 9 ?hg (N := 10) ?hd (xs := ([(⟨#[97, 108, 108]⟩ : ByteArray), (⟨#[110, 111, 110, 101]⟩ : ByteArray), (⟨#[114, 101, 102, 115]⟩ : ByteArray), (⟨#[116, 97, 103, 115]⟩ : ByteArray)] : List ByteArray)) (inner := [.string (⟨#[97, 108, 108]⟩ : ByteArray), .string (⟨#[110, 111, 110, 101]⟩ : ByteArray), .string (⟨#[114, 101, 102, 115]⟩ : ByteArray), .string (⟨#[116, 97, 103, 115]⟩ : ByteArray)]) (ok := fun _ => True) (okp := fun _ => True) ?hr ?hp (fun _ hk => hk) trivial (Below.refl _ _) (Nat.le_refl _) (by simp) ?_; (case hd => rfl); (case hg => rfl); (case hr => first | (go_simp; done) | (go_simp; rfl)); (case hp => exact (Reps.one (show Kd.M Kd.string _ _ _ (⟨#[97, 108, 108]⟩ : ByteArray) [.string (⟨#[97, 108, 108]⟩ : ByteArray)] from rfl) (Reps.one (show Kd.M Kd.string _ _ _ (⟨#[110, 111, 110, 101]⟩ : ByteArray) [.string (⟨#[110, 111, 110, 101]⟩ : ByteArray)] from rfl) (Reps.one (show Kd.M Kd.string _ _ _ (⟨#[114, 101, 102, 115]⟩ : ByteArray) [.string (⟨#[114, 101, 102, 115]⟩ : ByteArray)] from rfl) (Reps.one (show Kd.M Kd.string _ _ _ (⟨#[116, 97, 103, 115]⟩ : ByteArray) [.string (⟨#[116, 97, 103, 115]⟩ : ByteArray)] from rfl) (Reps.none _ _)))))); intro v316 w9 ho10 hb hg_ hnew_; clear hg_ hnew_; (first | rw [← Ny315.out] at ho10 | (simp only [Int.reduceToNat] at ho10; rw [← Ny315.out] at ho10)); have n0_ := Aside0.mk (Kd.R_lower ho10 (below_size (by repeat (first | (with_reducible first | exact HB.out | apply below_alloc | apply pw_below_drewN | apply below_drew1) | exact HB.out)))); have n1_ := Aside0.mk (below_step (by repeat (first | (with_reducible first | exact HB.out | apply below_alloc | apply pw_below_drewN | apply below_drew1) | exact HB.out)) hb); clear HB; have HO317 := n0_; have HB := n1_; clear n0_ n1_; clear hb ho10; obtain ⟨Ao11, co11, eo11⟩ := Kd.R_slice HO317.out; subst eo11) | ((with_reducible refine gate_callee (f := 54) rfl ?_); refine goesL_ (some 11) rfl rfl Tryd.func54 (by kernel_rfl) rfl #[.string a0, .slice Ao11 y315.length co11] rfl (by (try simp only [List.map_toArray, List.map_cons, List.map_nil]); first | done | rfl | (simp only [List.length_drop, List.length_take]; rfl)) ?_; (with_reducible refine (forebearref24_among.calls k a0 _ _ y315 false _ ?side1 ?side2 A3.out).mono ?_); (case side1 => repeat (first | exact (Kd.R_reads' HO317.out).2.2 | (with_reducible refine Kd.C_alloc ?_ _) | (with_reducible refine Kd.C_drewN ?_ _) | (with_reducible refine Kd.C_drew ?_))); (case side2 => exact (Kd.R_reads' HO317.out).2.1); rintro e w' ⟨rfl, ⟨nd, rfl⟩⟩; refine ⟨_, rfl, ?_⟩))
    (try simp only [Act.put, List.setIfInBounds_toArray, List.set_cons_zero, List.set_cons_succ])
    go_cut [14] (fun v14 wc => ∃ (kq : Nat) (x14_7 : Bool), v14 = .bool x14_7 ∧ Aside0 (forebearref24_takes.j0 kq a0 a1 x14_7 = some (r1, r2)) ∧ Aside0 (kq ≤ k) ∧ Aside0 (Below w.heap.size w wc))
    case first =>
      have H := HC8.out
      clear HC8
      by_cases c12 : a0.toList = ([114, 101, 102] : List UInt8)
      · rw [if_pos c12] at H
        have c12b0 : (a0.toList == ([114, 101, 102] : List UInt8)) = true := beq_iff_eq.mpr c12
        have c12b1 : (a0.toList != ([114, 101, 102] : List UInt8)) = false := bne_eq_false_iff_eq.mpr c12
        clear c12
        (first | rw [c12b0] | (simp only [i64_w, i32_w]; rw [c12b0]) | skip)
        have H' := Aside0.mk H
        clear H
        go_wp2
        go_meet
        case rel => exact ⟨_, (true), (by first | rfl | (simp; done) | (simp [*]; done)), H', ⟨by first | omega | exact Nat.le_refl _⟩, ⟨by repeat (first | (with_reducible first | exact HB.out | apply below_alloc | apply pw_below_drewN | apply below_drew1) | exact HB.out)⟩⟩
      · rw [if_neg c12] at H
        have c12b0 : (a0.toList == ([114, 101, 102] : List UInt8)) = false := beq_eq_false_iff_ne.mpr c12
        have c12b1 : (a0.toList != ([114, 101, 102] : List UInt8)) = true := bne_iff_ne.mpr c12
        (first | rw [c12b0] | (simp only [i64_w, i32_w]; rw [c12b0]) | skip)
        have H' := Aside0.mk H
        clear H
        go_wp2
        go_meet
        case rel => exact ⟨_, ((a0.toList == ([116, 97, 103] : List UInt8))), (by first | rfl | (simp; done) | (simp [*]; done)), H', ⟨by first | omega | exact Nat.le_refl _⟩, ⟨by repeat (first | (with_reducible first | exact HB.out | apply below_alloc | apply pw_below_drewN | apply below_drew1) | exact HB.out)⟩⟩
    case rest =>
      clear HC8
      obtain ⟨kq, x14_7, rfl, HA, HJ7, HB⟩ := hcut
      cases kq with
      | zero => exact absurd HA.out (by simp [forebearref24_takes.j0])
      | succ kj7 =>
        have H := HA.out
        clear HA
        simp only [forebearref24_takes.j0] at H
        by_cases c13 : x14_7 = true
        · subst c13
          have H1 : (some ((([3] : List Int)), (a1 == 1))) = some (r1, r2) := by rw [if_pos rfl] at H; exact H
          clear H
          have H := H1
          clear H1
          obtain ⟨y319, hy319⟩ : ∃ y_ : List Int, y_ = (([3] : List Int)) := ⟨_, rfl⟩
          replace H : (some (y319, (a1 == 1))) = some (r1, r2) := by first | (rw [hy319]; with_reducible exact H) | (have H2_ := (Option.bind_some _ _).symm.trans H; rw [hy319]; with_reducible exact H2_) | (have H2_ := (Option.bind_some _ _).symm.trans H; with_reducible exact H2_) | with_reducible exact H | (rw [hy319]; exact H) | exact H
          have Ny319 := Aside0.mk hy319
          clear hy319
          simp only [Option.some.injEq, Prod.mk.injEq] at H
          obtain ⟨rfl, rfl⟩ := H
          go_wp2_with (first | ((with_reducible refine gate_dst (N := 21) rfl ?_); refine Kd.R_lit (Kd.int .i64) _ 3 ?hg (N := 21) ?hd (xs := ([3] : List Int)) (inner := [.int .i64 3]) (ok := fun _ => True) (okp := fun _ => True) ?hr ?hp (fun _ hk => hk) trivial (Below.refl _ _) (Nat.le_refl _) (by simp) ?_; (case hd => rfl); (case hg => rfl); (case hr => first | (go_simp; done) | (go_simp; rfl)); (case hp => exact (Reps.one (show Kd.M (Kd.int .i64) _ _ _ 3 [.int .i64 3] from rfl) (Reps.none _ _))); intro v320 w14 ho15 hb hg_ hnew_; clear hg_ hnew_; (first | rw [← Ny319.out] at ho15 | (simp only [Int.reduceToNat] at ho15; rw [← Ny319.out] at ho15)); have n0_ := Aside0.mk (Kd.R_lower ho15 (below_size (by repeat (first | (with_reducible first | exact HB.out | apply below_alloc | apply pw_below_drewN | apply below_drew1) | exact HB.out)))); have n1_ := Aside0.mk (below_step (by repeat (first | (with_reducible first | exact HB.out | apply below_alloc | apply pw_below_drewN | apply below_drew1) | exact HB.out)) hb); clear HB; have HO321 := n0_; have HB := n1_; clear n0_ n1_; clear hb ho15))
          go_ret2
          exact ⟨_, by first | rfl | (simp [errW_none, errW_some] <;> rfl) | (simp [*, errW_none, errW_some] <;> rfl), by (with_reducible repeat (first | apply Kd.R_alloc | apply Kd.R_drewN | apply Kd.R_drew)); exact HO321.out, by repeat (first | (with_reducible first | exact HB.out | apply below_alloc | apply pw_below_drewN | apply below_drew1) | exact HB.out)⟩
        · replace c13 := Bool.eq_false_iff.mpr c13
          subst c13
          have H1 : (if a0.toList = ([97, 110, 99, 101, 115, 116, 111, 114, 115] : List UInt8) then ((some (([1, 2] : List Int) : List Int)).bind fun y322 => (if a1 = 1 then (some (y322, true)) else (some (y322, (a1 == 2))))) else (if a0.toList = ([116, 111, 117, 99, 104, 105, 110, 103] : List UInt8) then (some ((([1, 3] : List Int)), (a1 == 2))) else ((forebearref24_among.f kj7 a0 (([(⟨#[108, 97, 116, 101, 115, 116]⟩ : ByteArray), (⟨#[98, 101, 102, 111, 114, 101]⟩ : ByteArray), (⟨#[115, 105, 110, 99, 101]⟩ : ByteArray)] : List ByteArray))).bind fun t331 => (if t331 = true then (some ((([1, 2] : List Int)), (a1 == 2))) else (if a0.toList = ([117, 110, 105, 111, 110] : List UInt8) then (forebearref24_takes.j1 kj7 a1 true) else (forebearref24_takes.j1 kj7 a1 (a0.toList == ([99, 111, 109, 109, 111, 110] : List UInt8)))))))) = some (r1, r2) := by rw [if_neg (show ¬ (false = true) by decide)] at H; exact H
          clear H
          have H := H1
          clear H1
          by_cases c16 : a0.toList = ([97, 110, 99, 101, 115, 116, 111, 114, 115] : List UInt8)
          · rw [if_pos c16] at H
            have c16b0 : (a0.toList == ([97, 110, 99, 101, 115, 116, 111, 114, 115] : List UInt8)) = true := beq_iff_eq.mpr c16
            have c16b1 : (a0.toList != ([97, 110, 99, 101, 115, 116, 111, 114, 115] : List UInt8)) = false := bne_eq_false_iff_eq.mpr c16
            clear c16
            obtain ⟨y322, hy322⟩ : ∃ y_ : List Int, y_ = (([1, 2] : List Int)) := ⟨_, rfl⟩
            replace H : (if a1 = 1 then (some (y322, true)) else (some (y322, (a1 == 2)))) = some (r1, r2) := by first | (rw [hy322]; with_reducible exact H) | (have H2_ := (Option.bind_some _ _).symm.trans H; rw [hy322]; with_reducible exact H2_) | (have H2_ := (Option.bind_some _ _).symm.trans H; with_reducible exact H2_) | with_reducible exact H | (rw [hy322]; exact H) | exact H
            have Ny322 := Aside0.mk hy322
            clear hy322
            by_cases c17 : a1 = 1
            · rw [if_pos c17] at H
              have c17b0 : (a1 == 1) = true := beq_iff_eq.mpr c17
              have c17b1 : (a1 != 1) = false := bne_eq_false_iff_eq.mpr c17
              clear c17
              simp only [Option.some.injEq, Prod.mk.injEq] at H
              obtain ⟨rfl, rfl⟩ := H
              go_wp2_with (first | ((with_reducible refine gate_dst (N := 27) rfl ?_); refine Kd.R_lit (Kd.int .i64) _ 3 ?hg (N := 27) ?hd (xs := ([1, 2] : List Int)) (inner := [.int .i64 1, .int .i64 2]) (ok := fun _ => True) (okp := fun _ => True) ?hr ?hp (fun _ hk => hk) trivial (Below.refl _ _) (Nat.le_refl _) (by simp) ?_; (case hd => rfl); (case hg => rfl); (case hr => first | (go_simp; done) | (go_simp; rfl)); (case hp => exact (Reps.one (show Kd.M (Kd.int .i64) _ _ _ 1 [.int .i64 1] from rfl) (Reps.one (show Kd.M (Kd.int .i64) _ _ _ 2 [.int .i64 2] from rfl) (Reps.none _ _)))); intro v323 w18 ho19 hb hg_ hnew_; clear hg_ hnew_; (first | rw [← Ny322.out] at ho19 | (simp only [Int.reduceToNat] at ho19; rw [← Ny322.out] at ho19)); have n0_ := Aside0.mk (Kd.R_lower ho19 (below_size (by repeat (first | (with_reducible first | exact HB.out | apply below_alloc | apply pw_below_drewN | apply below_drew1) | exact HB.out)))); have n1_ := Aside0.mk (below_step (by repeat (first | (with_reducible first | exact HB.out | apply below_alloc | apply pw_below_drewN | apply below_drew1) | exact HB.out)) hb); clear HB; have HO324 := n0_; have HB := n1_; clear n0_ n1_; clear hb ho19))
              go_ret2
              exact ⟨_, by first | rfl | (simp [errW_none, errW_some] <;> rfl) | (simp [*, errW_none, errW_some] <;> rfl), by (with_reducible repeat (first | apply Kd.R_alloc | apply Kd.R_drewN | apply Kd.R_drew)); exact HO324.out, by repeat (first | (with_reducible first | exact HB.out | apply below_alloc | apply pw_below_drewN | apply below_drew1) | exact HB.out)⟩
            · rw [if_neg c17] at H
              have c17b0 : (a1 == 1) = false := beq_eq_false_iff_ne.mpr c17
              have c17b1 : (a1 != 1) = true := bne_iff_ne.mpr c17
              simp only [Option.some.injEq, Prod.mk.injEq] at H
              obtain ⟨rfl, rfl⟩ := H
              go_wp2_with (first | ((with_reducible refine gate_dst (N := 27) rfl ?_); refine Kd.R_lit (Kd.int .i64) _ 3 ?hg (N := 27) ?hd (xs := ([1, 2] : List Int)) (inner := [.int .i64 1, .int .i64 2]) (ok := fun _ => True) (okp := fun _ => True) ?hr ?hp (fun _ hk => hk) trivial (Below.refl _ _) (Nat.le_refl _) (by simp) ?_; (case hd => rfl); (case hg => rfl); (case hr => first | (go_simp; done) | (go_simp; rfl)); (case hp => exact (Reps.one (show Kd.M (Kd.int .i64) _ _ _ 1 [.int .i64 1] from rfl) (Reps.one (show Kd.M (Kd.int .i64) _ _ _ 2 [.int .i64 2] from rfl) (Reps.none _ _)))); intro v323 w20 ho21 hb hg_ hnew_; clear hg_ hnew_; (first | rw [← Ny322.out] at ho21 | (simp only [Int.reduceToNat] at ho21; rw [← Ny322.out] at ho21)); have n0_ := Aside0.mk (Kd.R_lower ho21 (below_size (by repeat (first | (with_reducible first | exact HB.out | apply below_alloc | apply pw_below_drewN | apply below_drew1) | exact HB.out)))); have n1_ := Aside0.mk (below_step (by repeat (first | (with_reducible first | exact HB.out | apply below_alloc | apply pw_below_drewN | apply below_drew1) | exact HB.out)) hb); clear HB; have HO324 := n0_; have HB := n1_; clear n0_ n1_; clear hb ho21))
              go_ret2
              exact ⟨_, by first | rfl | (simp [errW_none, errW_some] <;> rfl) | (simp [*, errW_none, errW_some] <;> rfl), by (with_reducible repeat (first | apply Kd.R_alloc | apply Kd.R_drewN | apply Kd.R_drew)); exact HO324.out, by repeat (first | (with_reducible first | exact HB.out | apply below_alloc | apply pw_below_drewN | apply below_drew1) | exact HB.out)⟩
          · rw [if_neg c16] at H
            have c16b0 : (a0.toList == ([97, 110, 99, 101, 115, 116, 111, 114, 115] : List UInt8)) = false := beq_eq_false_iff_ne.mpr c16
            have c16b1 : (a0.toList != ([97, 110, 99, 101, 115, 116, 111, 114, 115] : List UInt8)) = true := bne_iff_ne.mpr c16
            by_cases c22 : a0.toList = ([116, 111, 117, 99, 104, 105, 110, 103] : List UInt8)
            · rw [if_pos c22] at H
              have c22b0 : (a0.toList == ([116, 111, 117, 99, 104, 105, 110, 103] : List UInt8)) = true := beq_iff_eq.mpr c22
              have c22b1 : (a0.toList != ([116, 111, 117, 99, 104, 105, 110, 103] : List UInt8)) = false := bne_eq_false_iff_eq.mpr c22
              clear c22
              obtain ⟨y325, hy325⟩ : ∃ y_ : List Int, y_ = (([1, 3] : List Int)) := ⟨_, rfl⟩
              replace H : (some (y325, (a1 == 2))) = some (r1, r2) := by first | (rw [hy325]; with_reducible exact H) | (have H2_ := (Option.bind_some _ _).symm.trans H; rw [hy325]; with_reducible exact H2_) | (have H2_ := (Option.bind_some _ _).symm.trans H; with_reducible exact H2_) | with_reducible exact H | (rw [hy325]; exact H) | exact H
              have Ny325 := Aside0.mk hy325
              clear hy325
              simp only [Option.some.injEq, Prod.mk.injEq] at H
              obtain ⟨rfl, rfl⟩ := H
              go_wp2_with (first | ((with_reducible refine gate_dst (N := 37) rfl ?_); refine Kd.R_lit (Kd.int .i64) _ 3 ?hg (N := 37) ?hd (xs := ([1, 3] : List Int)) (inner := [.int .i64 1, .int .i64 3]) (ok := fun _ => True) (okp := fun _ => True) ?hr ?hp (fun _ hk => hk) trivial (Below.refl _ _) (Nat.le_refl _) (by simp) ?_; (case hd => rfl); (case hg => rfl); (case hr => first | (go_simp; done) | (go_simp; rfl)); (case hp => exact (Reps.one (show Kd.M (Kd.int .i64) _ _ _ 1 [.int .i64 1] from rfl) (Reps.one (show Kd.M (Kd.int .i64) _ _ _ 3 [.int .i64 3] from rfl) (Reps.none _ _)))); intro v326 w23 ho24 hb hg_ hnew_; clear hg_ hnew_; (first | rw [← Ny325.out] at ho24 | (simp only [Int.reduceToNat] at ho24; rw [← Ny325.out] at ho24)); have n0_ := Aside0.mk (Kd.R_lower ho24 (below_size (by repeat (first | (with_reducible first | exact HB.out | apply below_alloc | apply pw_below_drewN | apply below_drew1) | exact HB.out)))); have n1_ := Aside0.mk (below_step (by repeat (first | (with_reducible first | exact HB.out | apply below_alloc | apply pw_below_drewN | apply below_drew1) | exact HB.out)) hb); clear HB; have HO327 := n0_; have HB := n1_; clear n0_ n1_; clear hb ho24))
              go_ret2
              exact ⟨_, by first | rfl | (simp [errW_none, errW_some] <;> rfl) | (simp [*, errW_none, errW_some] <;> rfl), by (with_reducible repeat (first | apply Kd.R_alloc | apply Kd.R_drewN | apply Kd.R_drew)); exact HO327.out, by repeat (first | (with_reducible first | exact HB.out | apply below_alloc | apply pw_below_drewN | apply below_drew1) | exact HB.out)⟩
            · rw [if_neg c22] at H
              have c22b0 : (a0.toList == ([116, 111, 117, 99, 104, 105, 110, 103] : List UInt8)) = false := beq_eq_false_iff_ne.mpr c22
              have c22b1 : (a0.toList != ([116, 111, 117, 99, 104, 105, 110, 103] : List UInt8)) = true := bne_iff_ne.mpr c22
              obtain ⟨y328, hy328⟩ : ∃ y_ : List ByteArray, y_ = (([(⟨#[108, 97, 116, 101, 115, 116]⟩ : ByteArray), (⟨#[98, 101, 102, 111, 114, 101]⟩ : ByteArray), (⟨#[115, 105, 110, 99, 101]⟩ : ByteArray)] : List ByteArray)) := ⟨_, rfl⟩
              replace H : ((forebearref24_among.f kj7 a0 y328).bind fun t331 => (if t331 = true then (some ((([1, 2] : List Int)), (a1 == 2))) else (if a0.toList = ([117, 110, 105, 111, 110] : List UInt8) then (forebearref24_takes.j1 kj7 a1 true) else (forebearref24_takes.j1 kj7 a1 (a0.toList == ([99, 111, 109, 109, 111, 110] : List UInt8)))))) = some (r1, r2) := by first | (rw [hy328]; with_reducible exact H) | (have H2_ := (Option.bind_some _ _).symm.trans H; rw [hy328]; with_reducible exact H2_) | (have H2_ := (Option.bind_some _ _).symm.trans H; with_reducible exact H2_) | with_reducible exact H | (rw [hy328]; exact H) | exact H
              have Ny328 := Aside0.mk hy328
              clear hy328
              replace H := Option.bind_eq_some_iff.mp H
              obtain ⟨t331, A250, H⟩ := H
              replace H : (if t331 = true then (some ((([1, 2] : List Int)), (a1 == 2))) else (if a0.toList = ([117, 110, 105, 111, 110] : List UInt8) then (forebearref24_takes.j1 kj7 a1 true) else (forebearref24_takes.j1 kj7 a1 (a0.toList == ([99, 111, 109, 109, 111, 110] : List UInt8))))) = some (r1, r2) := H
              have A25 := Aside0.mk A250
              clear A250
              by_cases c26 : t331 = true
              · subst c26
                have H1 : (some ((([1, 2] : List Int)), (a1 == 2))) = some (r1, r2) := by rw [if_pos rfl] at H; exact H
                clear H
                have H := H1
                clear H1
                obtain ⟨y332, hy332⟩ : ∃ y_ : List Int, y_ = (([1, 2] : List Int)) := ⟨_, rfl⟩
                replace H : (some (y332, (a1 == 2))) = some (r1, r2) := by first | (rw [hy332]; with_reducible exact H) | (have H2_ := (Option.bind_some _ _).symm.trans H; rw [hy332]; with_reducible exact H2_) | (have H2_ := (Option.bind_some _ _).symm.trans H; with_reducible exact H2_) | with_reducible exact H | (rw [hy332]; exact H) | exact H
                have Ny332 := Aside0.mk hy332
                clear hy332
                simp only [Option.some.injEq, Prod.mk.injEq] at H
                obtain ⟨rfl, rfl⟩ := H
                go_wp2_with (first | ((with_reducible refine gate_dst (N := 42) rfl ?_); refine Kd.R_lit Kd.string _ 9 ?hg (N := 42) ?hd (xs := ([(⟨#[108, 97, 116, 101, 115, 116]⟩ : ByteArray), (⟨#[98, 101, 102, 111, 114, 101]⟩ : ByteArray), (⟨#[115, 105, 110, 99, 101]⟩ : ByteArray)] : List ByteArray)) (inner := [.string (⟨#[108, 97, 116, 101, 115, 116]⟩ : ByteArray), .string (⟨#[98, 101, 102, 111, 114, 101]⟩ : ByteArray), .string (⟨#[115, 105, 110, 99, 101]⟩ : ByteArray)]) (ok := fun _ => True) (okp := fun _ => True) ?hr ?hp (fun _ hk => hk) trivial (Below.refl _ _) (Nat.le_refl _) (by simp) ?_; (case hd => rfl); (case hg => rfl); (case hr => first | (go_simp; done) | (go_simp; rfl)); (case hp => exact (Reps.one (show Kd.M Kd.string _ _ _ (⟨#[108, 97, 116, 101, 115, 116]⟩ : ByteArray) [.string (⟨#[108, 97, 116, 101, 115, 116]⟩ : ByteArray)] from rfl) (Reps.one (show Kd.M Kd.string _ _ _ (⟨#[98, 101, 102, 111, 114, 101]⟩ : ByteArray) [.string (⟨#[98, 101, 102, 111, 114, 101]⟩ : ByteArray)] from rfl) (Reps.one (show Kd.M Kd.string _ _ _ (⟨#[115, 105, 110, 99, 101]⟩ : ByteArray) [.string (⟨#[115, 105, 110, 99, 101]⟩ : ByteArray)] from rfl) (Reps.none _ _))))); intro v329 w27 ho28 hb hg_ hnew_; clear hg_ hnew_; (first | rw [← Ny328.out] at ho28 | (simp only [Int.reduceToNat] at ho28; rw [← Ny328.out] at ho28)); have n0_ := Aside0.mk (Kd.R_lower ho28 (below_size (by repeat (first | (with_reducible first | exact HB.out | apply below_alloc | apply pw_below_drewN | apply below_drew1) | exact HB.out)))); have n1_ := Aside0.mk (below_step (by repeat (first | (with_reducible first | exact HB.out | apply below_alloc | apply pw_below_drewN | apply below_drew1) | exact HB.out)) hb); clear HB; have HO330 := n0_; have HB := n1_; clear n0_ n1_; clear hb ho28; obtain ⟨Ao29, co29, eo29⟩ := Kd.R_slice HO330.out; subst eo29) | ((with_reducible refine gate_callee (f := 54) rfl ?_); refine goesL_ (some 43) rfl rfl Tryd.func54 (by kernel_rfl) rfl #[.string a0, .slice Ao29 y328.length co29] rfl (by (try simp only [List.map_toArray, List.map_cons, List.map_nil]); first | done | rfl | (simp only [List.length_drop, List.length_take]; rfl)) ?_; (with_reducible refine (forebearref24_among.calls kj7 a0 _ _ y328 true _ ?side1 ?side2 A25.out).mono ?_); (case side1 => repeat (first | exact (Kd.R_reads' HO330.out).2.2 | (with_reducible refine Kd.C_alloc ?_ _) | (with_reducible refine Kd.C_drewN ?_ _) | (with_reducible refine Kd.C_drew ?_))); (case side2 => exact (Kd.R_reads' HO330.out).2.1); rintro e w' ⟨rfl, ⟨nd, rfl⟩⟩; refine ⟨_, rfl, ?_⟩) | ((with_reducible refine gate_dst (N := 44) rfl ?_); refine Kd.R_lit (Kd.int .i64) _ 3 ?hg (N := 44) ?hd (xs := ([1, 2] : List Int)) (inner := [.int .i64 1, .int .i64 2]) (ok := fun _ => True) (okp := fun _ => True) ?hr ?hp (fun _ hk => hk) trivial (Below.refl _ _) (Nat.le_refl _) (by simp) ?_; (case hd => rfl); (case hg => rfl); (case hr => first | (go_simp; done) | (go_simp; rfl)); (case hp => exact (Reps.one (show Kd.M (Kd.int .i64) _ _ _ 1 [.int .i64 1] from rfl) (Reps.one (show Kd.M (Kd.int .i64) _ _ _ 2 [.int .i64 2] from rfl) (Reps.none _ _)))); intro v333 w30 ho31 hb hg_ hnew_; clear hg_ hnew_; (first | rw [← Ny332.out] at ho31 | (simp only [Int.reduceToNat] at ho31; rw [← Ny332.out] at ho31)); have n0_ := Aside0.mk (Kd.R_below (by (with_reducible repeat (first | apply Kd.R_alloc | apply Kd.R_drewN | apply Kd.R_drew)); exact HO330.out) hb); have n1_ := Aside0.mk (Kd.R_lower ho31 (below_size (by repeat (first | (with_reducible first | exact HB.out | apply below_alloc | apply pw_below_drewN | apply below_drew1) | exact HB.out)))); have n2_ := Aside0.mk (below_step (by repeat (first | (with_reducible first | exact HB.out | apply below_alloc | apply pw_below_drewN | apply below_drew1) | exact HB.out)) hb); clear HO330; clear HB; have HO330 := n0_; have HO334 := n1_; have HB := n2_; clear n0_ n1_ n2_; clear hb ho31))
                go_ret2
                exact ⟨_, by first | rfl | (simp [errW_none, errW_some] <;> rfl) | (simp [*, errW_none, errW_some] <;> rfl), by (with_reducible repeat (first | apply Kd.R_alloc | apply Kd.R_drewN | apply Kd.R_drew)); exact HO334.out, by repeat (first | (with_reducible first | exact HB.out | apply below_alloc | apply pw_below_drewN | apply below_drew1) | exact HB.out)⟩
              · replace c26 := Bool.eq_false_iff.mpr c26
                subst c26
                have H1 : (if a0.toList = ([117, 110, 105, 111, 110] : List UInt8) then (forebearref24_takes.j1 kj7 a1 true) else (forebearref24_takes.j1 kj7 a1 (a0.toList == ([99, 111, 109, 109, 111, 110] : List UInt8)))) = some (r1, r2) := by rw [if_neg (show ¬ (false = true) by decide)] at H; exact H
                clear H
                have H := H1
                clear H1
                have HC32 := Aside0.mk H
                clear H
                go_upto_region 11 with (first | ((with_reducible refine gate_dst (N := 42) rfl ?_); refine Kd.R_lit Kd.string _ 9 ?hg (N := 42) ?hd (xs := ([(⟨#[108, 97, 116, 101, 115, 116]⟩ : ByteArray), (⟨#[98, 101, 102, 111, 114, 101]⟩ : ByteArray), (⟨#[115, 105, 110, 99, 101]⟩ : ByteArray)] : List ByteArray)) (inner := [.string (⟨#[108, 97, 116, 101, 115, 116]⟩ : ByteArray), .string (⟨#[98, 101, 102, 111, 114, 101]⟩ : ByteArray), .string (⟨#[115, 105, 110, 99, 101]⟩ : ByteArray)]) (ok := fun _ => True) (okp := fun _ => True) ?hr ?hp (fun _ hk => hk) trivial (Below.refl _ _) (Nat.le_refl _) (by simp) ?_; (case hd => rfl); (case hg => rfl); (case hr => first | (go_simp; done) | (go_simp; rfl)); (case hp => exact (Reps.one (show Kd.M Kd.string _ _ _ (⟨#[108, 97, 116, 101, 115, 116]⟩ : ByteArray) [.string (⟨#[108, 97, 116, 101, 115, 116]⟩ : ByteArray)] from rfl) (Reps.one (show Kd.M Kd.string _ _ _ (⟨#[98, 101, 102, 111, 114, 101]⟩ : ByteArray) [.string (⟨#[98, 101, 102, 111, 114, 101]⟩ : ByteArray)] from rfl) (Reps.one (show Kd.M Kd.string _ _ _ (⟨#[115, 105, 110, 99, 101]⟩ : ByteArray) [.string (⟨#[115, 105, 110, 99, 101]⟩ : ByteArray)] from rfl) (Reps.none _ _))))); intro v329 w33 ho34 hb hg_ hnew_; clear hg_ hnew_; (first | rw [← Ny328.out] at ho34 | (simp only [Int.reduceToNat] at ho34; rw [← Ny328.out] at ho34)); have n0_ := Aside0.mk (Kd.R_lower ho34 (below_size (by repeat (first | (with_reducible first | exact HB.out | apply below_alloc | apply pw_below_drewN | apply below_drew1) | exact HB.out)))); have n1_ := Aside0.mk (below_step (by repeat (first | (with_reducible first | exact HB.out | apply below_alloc | apply pw_below_drewN | apply below_drew1) | exact HB.out)) hb); clear HB; have HO330 := n0_; have HB := n1_; clear n0_ n1_; clear hb ho34; obtain ⟨Ao35, co35, eo35⟩ := Kd.R_slice HO330.out; subst eo35) | ((with_reducible refine gate_callee (f := 54) rfl ?_); refine goesL_ (some 43) rfl rfl Tryd.func54 (by kernel_rfl) rfl #[.string a0, .slice Ao35 y328.length co35] rfl (by (try simp only [List.map_toArray, List.map_cons, List.map_nil]); first | done | rfl | (simp only [List.length_drop, List.length_take]; rfl)) ?_; (with_reducible refine (forebearref24_among.calls kj7 a0 _ _ y328 false _ ?side1 ?side2 A25.out).mono ?_); (case side1 => repeat (first | exact (Kd.R_reads' HO330.out).2.2 | (with_reducible refine Kd.C_alloc ?_ _) | (with_reducible refine Kd.C_drewN ?_ _) | (with_reducible refine Kd.C_drew ?_))); (case side2 => exact (Kd.R_reads' HO330.out).2.1); rintro e w' ⟨rfl, ⟨nd, rfl⟩⟩; refine ⟨_, rfl, ?_⟩))
                (try simp only [Act.put, List.setIfInBounds_toArray, List.set_cons_zero, List.set_cons_succ])
                go_cut [47] (fun v47 wc => ∃ (kq : Nat) (x47_31 : Bool), v47 = .bool x47_31 ∧ Aside0 (forebearref24_takes.j1 kq a1 x47_31 = some (r1, r2)) ∧ Aside0 (kq ≤ kj7) ∧ Aside0 (Below w.heap.size w wc))
                case first =>
                  have H := HC32.out
                  clear HC32
                  by_cases c36 : a0.toList = ([117, 110, 105, 111, 110] : List UInt8)
                  · rw [if_pos c36] at H
                    have c36b0 : (a0.toList == ([117, 110, 105, 111, 110] : List UInt8)) = true := beq_iff_eq.mpr c36
                    have c36b1 : (a0.toList != ([117, 110, 105, 111, 110] : List UInt8)) = false := bne_eq_false_iff_eq.mpr c36
                    clear c36
                    (first | rw [c36b0] | (simp only [i64_w, i32_w]; rw [c36b0]) | skip)
                    have H' := Aside0.mk H
                    clear H
                    go_wp2
                    go_meet
                    case rel => exact ⟨_, (true), (by first | rfl | (simp; done) | (simp [*]; done)), H', ⟨by have := HJ7.out; first | omega | exact Nat.le_refl _⟩, ⟨by repeat (first | (with_reducible first | exact HB.out | apply below_alloc | apply pw_below_drewN | apply below_drew1) | exact HB.out)⟩⟩
                  · rw [if_neg c36] at H
                    have c36b0 : (a0.toList == ([117, 110, 105, 111, 110] : List UInt8)) = false := beq_eq_false_iff_ne.mpr c36
                    have c36b1 : (a0.toList != ([117, 110, 105, 111, 110] : List UInt8)) = true := bne_iff_ne.mpr c36
                    (first | rw [c36b0] | (simp only [i64_w, i32_w]; rw [c36b0]) | skip)
                    have H' := Aside0.mk H
                    clear H
                    go_wp2
                    go_meet
                    case rel => exact ⟨_, ((a0.toList == ([99, 111, 109, 109, 111, 110] : List UInt8))), (by first | rfl | (simp; done) | (simp [*]; done)), H', ⟨by have := HJ7.out; first | omega | exact Nat.le_refl _⟩, ⟨by repeat (first | (with_reducible first | exact HB.out | apply below_alloc | apply pw_below_drewN | apply below_drew1) | exact HB.out)⟩⟩
                case rest =>
                  clear HC32
                  obtain ⟨kq, x47_31, rfl, HA, HJ31, HB⟩ := hcut
                  cases kq with
                  | zero => exact absurd HA.out (by simp [forebearref24_takes.j1])
                  | succ kj31 =>
                    have H := HA.out
                    clear HA
                    simp only [forebearref24_takes.j1] at H
                    by_cases c37 : x47_31 = true
                    · subst c37
                      have H1 : (forebearref24_takes.l0 kj31 a1 ([] : List Int) 0) = some (r1, r2) := by rw [if_pos rfl] at H; exact H
                      clear H
                      have H := H1
                      clear H1
                      have H' := Aside0.mk H
                      clear H
                      go_wp2
                      go_loopg [6, 7] kj31 (fun kq v6 v7 w' => ∃ (x6_3 : List Int) (x7_3 : Int), v7 = .int .i64 x7_3 ∧ Aside0 (forebearref24_takes.l0 kq a1 x6_3 x7_3 = some (r1, r2)) ∧ Aside0 (kq ≤ kj31) ∧ Aside0 (Kd.R (Kd.int .i64) 3 w' w.heap.size (fun _ => True) v6 x6_3) ∧ Aside0 (Below w.heap.size w w'))
                      case atStart => exact ⟨(([] : List Int)), (0), (by first | rfl | (simp; done) | (simp [*]; done)), H', ⟨Nat.le_refl _⟩, ⟨by first | exact Kd.R_nil _ _ _ _ _ | exact Kd.N_nil _ _ _ _ _ | exact Kd.V_nil _ _ _ _ _ | exact Kd.Q_nil _ _ _ _ _ | exact Kd.S_nil _ _ _ _ _⟩, ⟨by repeat (first | (with_reducible first | exact HB.out | apply below_alloc | apply pw_below_drewN | apply below_drew1) | exact HB.out)⟩⟩
                      case round =>
                        clear H'
                        obtain ⟨x6_3, x7_3, rfl, HA, HK3, HO_6, HB⟩ := hrel
                        cases gk with
                        | zero => exact absurd HA.out (by simp [forebearref24_takes.l0])
                        | succ k3 =>
                          have H := HA.out
                          clear HA
                          simp only [forebearref24_takes.l0] at H
                          by_cases c38 : x7_3 < a1
                          · rw [if_pos c38] at H
                            have c38b0 : decide (x7_3 < a1) = true := decide_eq_true c38
                            clear c38
                            by_cases c39 : x6_3.length < 17592186044416
                            · rw [if_pos c39] at H
                              have LMc39 := Aside0.mk c39
                              clear c39
                              obtain ⟨y335, hy335⟩ : ∃ y_ : List Int, y_ = (x6_3 ++ [1]) := ⟨_, rfl⟩
                              replace H : (forebearref24_takes.l0 k3 a1 y335 (wrap64 (x7_3 + 1))) = some (r1, r2) := by first | (rw [hy335]; with_reducible exact H) | (have H2_ := (Option.bind_some _ _).symm.trans H; rw [hy335]; with_reducible exact H2_) | (have H2_ := (Option.bind_some _ _).symm.trans H; with_reducible exact H2_) | with_reducible exact H | (rw [hy335]; exact H) | exact H
                              have Ny335 := Aside0.mk hy335
                              clear hy335
                              have H' := Aside0.mk H
                              clear H
                              go_wp2_with (first | ((with_reducible refine gate_builtin (b := .append) (xs := #[.tmp 59, .tmp 60]) rfl ?_); at_builtin; refine Kd.R_append (Kd.int .i64) (w0 := w) w.heap.size rfl (.tmp 59) (.tmp 60) 67 3 (.int .i64 0) 8 rfl Tryd.underlying67 info3 rfl (by decide) (by omega) u6 x6_3 1 [.int .i64 1] (fun _ => True) (fun _ => False) rfl rfl ?aP (fun _ hk => hk.elim) ?aF ?aO ?aB ?aS ?aL ?_; (case aP => exact rfl); (case aB => exact (by repeat (first | (with_reducible first | exact HB.out | apply below_alloc | apply pw_below_drewN | apply below_drew1) | exact HB.out))); (case aF => exact (fun _ _ => trivial)); (case aO => exact (by (with_reducible repeat (first | apply Kd.R_alloc | apply Kd.R_drewN | apply Kd.R_drew)); exact HO_6.out)); (case aS => exact (below_size (by repeat (first | (with_reducible first | exact HB.out | apply below_alloc | apply pw_below_drewN | apply below_drew1) | exact HB.out)))); (case aL => have := LMc39.out; omega); intro v336 w40 ho hb hg hat; rw [← Ny335.out] at ho; have n0_ := Aside0.mk (hb); have n1_ := Aside0.mk (ho); clear HB; clear HO_6; have HB := n0_; have HO337 := n1_; clear n0_ n1_; clear ho hb hg hat))
                              go_roundg k3
                              case measure => have := HJ7.out; have := HJ31.out; have := HK3.out; omega
                              case rel => exact ⟨(y335), (wrap64 (x7_3 + 1)), (by first | rfl | (simp; done) | (simp [*]; done)), H', ⟨by have := HJ7.out; have := HJ31.out; have := HK3.out; omega⟩, ⟨by (with_reducible repeat (first | apply Kd.R_alloc | apply Kd.R_drewN | apply Kd.R_drew)); exact HO337.out⟩, ⟨by repeat (first | (with_reducible first | exact HB.out | apply below_alloc | apply pw_below_drewN | apply below_drew1) | exact HB.out)⟩⟩
                            · rw [if_neg c39] at H
                              exact absurd H (by simp)
                          · rw [if_neg c38] at H
                            have c38b0 : decide (x7_3 < a1) = false := decide_eq_false c38
                            clear c38
                            simp only [Option.some.injEq, Prod.mk.injEq] at H
                            obtain ⟨rfl, rfl⟩ := H
                            go_wp2
                            go_ret2
                            exact ⟨_, by first | rfl | (simp [errW_none, errW_some] <;> rfl) | (simp [*, errW_none, errW_some] <;> rfl), by (with_reducible repeat (first | apply Kd.R_alloc | apply Kd.R_drewN | apply Kd.R_drew)); exact HO_6.out, by repeat (first | (with_reducible first | exact HB.out | apply below_alloc | apply pw_below_drewN | apply below_drew1) | exact HB.out)⟩
                    · replace c37 := Bool.eq_false_iff.mpr c37
                      subst c37
                      have H1 : (some ((([1] : List Int)), (a1 == 1))) = some (r1, r2) := by rw [if_neg (show ¬ (false = true) by decide)] at H; exact H
                      clear H
                      have H := H1
                      clear H1
                      obtain ⟨y338, hy338⟩ : ∃ y_ : List Int, y_ = (([1] : List Int)) := ⟨_, rfl⟩
                      replace H : (some (y338, (a1 == 1))) = some (r1, r2) := by first | (rw [hy338]; with_reducible exact H) | (have H2_ := (Option.bind_some _ _).symm.trans H; rw [hy338]; with_reducible exact H2_) | (have H2_ := (Option.bind_some _ _).symm.trans H; with_reducible exact H2_) | with_reducible exact H | (rw [hy338]; exact H) | exact H
                      have Ny338 := Aside0.mk hy338
                      clear hy338
                      simp only [Option.some.injEq, Prod.mk.injEq] at H
                      obtain ⟨rfl, rfl⟩ := H
                      go_wp2_with (first | ((with_reducible refine gate_dst (N := 65) rfl ?_); refine Kd.R_lit (Kd.int .i64) _ 3 ?hg (N := 65) ?hd (xs := ([1] : List Int)) (inner := [.int .i64 1]) (ok := fun _ => True) (okp := fun _ => True) ?hr ?hp (fun _ hk => hk) trivial (Below.refl _ _) (Nat.le_refl _) (by simp) ?_; (case hd => rfl); (case hg => rfl); (case hr => first | (go_simp; done) | (go_simp; rfl)); (case hp => exact (Reps.one (show Kd.M (Kd.int .i64) _ _ _ 1 [.int .i64 1] from rfl) (Reps.none _ _))); intro v339 w41 ho42 hb hg_ hnew_; clear hg_ hnew_; (first | rw [← Ny338.out] at ho42 | (simp only [Int.reduceToNat] at ho42; rw [← Ny338.out] at ho42)); have n0_ := Aside0.mk (Kd.R_lower ho42 (below_size (by repeat (first | (with_reducible first | exact HB.out | apply below_alloc | apply pw_below_drewN | apply below_drew1) | exact HB.out)))); have n1_ := Aside0.mk (below_step (by repeat (first | (with_reducible first | exact HB.out | apply below_alloc | apply pw_below_drewN | apply below_drew1) | exact HB.out)) hb); clear HB; have HO340 := n0_; have HB := n1_; clear n0_ n1_; clear hb ho42))
                      go_ret2
                      exact ⟨_, by first | rfl | (simp [errW_none, errW_some] <;> rfl) | (simp [*, errW_none, errW_some] <;> rfl), by (with_reducible repeat (first | apply Kd.R_alloc | apply Kd.R_drewN | apply Kd.R_drew)); exact HO340.out, by repeat (first | (with_reducible first | exact HB.out | apply below_alloc | apply pw_below_drewN | apply below_drew1) | exact HB.out)⟩

end Go.Proofs.YtfgfoofojofnmaaDoor.Q
