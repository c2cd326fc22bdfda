-- Written by a program of this session's (wip/tools/hprint.py, over the kit's print.py). Not trusted: Lean checks it.
import Derived.Test.YtfgfoofojofnmaaDoorQ0
import Derived.Test.YtfgfoofojofnmaaDoorQF22
import Derived.Test.YtfgfoofojofnmaaDoorQF25
import Derived.Test.YtfgfoofojofnmaaDoorQF26
import Derived.Test.YtfgfoofojofnmaaDoorQF31
namespace Go.Proofs.YtfgfoofojofnmaaDoor.Q
open Go.RowKit Go.Proofs.YtfgfoofojofnmaaDoorW.PrintWords Go.Proofs.YtfgfoofojofnmaaDoorW.PrintLast Go.Proofs.YtfgfoofojofnmaaDoorW.PrintMore
attribute [local go_sem] Go.Proofs.YtfgfoofojofnmaaDoor.Hand.w64_mod256 Go.Proofs.YtfgfoofojofnmaaDoor.Hand.w64_mod32 max2_int min2_int max_two min_two max_three min_three max_four min_four   -- for this text's walks alone
set_option linter.unusedVariables false
set_option linter.unusedSimpArgs false

/-! ### forebearlaw23_ParseDeep: function 10 -/
mutual
def forebearlaw23_ParseDeep.l0 : Nat → Int → Int → ByteArray → Int → Option (Bool)
  | 0, _, _, _, _ => none
  | k + 1, x0, x1, x5, x6 => if x6 < x0 then (if x5.size + 1 ≤ 9223372036854775807 then (forebearlaw23_ParseDeep.l0 k x0 x1 (x5 ++ (⟨#[33]⟩ : ByteArray)) (wrap64 (x6 + 1))) else (none)) else (forebearlaw23_ParseDeep.l1 k x0 x1 x5 0)
def forebearlaw23_ParseDeep.l1 : Nat → Int → Int → ByteArray → Int → Option (Bool)
  | 0, _, _, _, _ => none
  | k + 1, x0, x1, x5, x7 => if x7 < x1 then (if x5.size + 1 ≤ 9223372036854775807 then (forebearlaw23_ParseDeep.l1 k x0 x1 (x5 ++ (⟨#[40]⟩ : ByteArray)) (wrap64 (x7 + 1))) else (none)) else (if x5.size + 1 ≤ 9223372036854775807 then (forebearlaw23_ParseDeep.l2 k x0 x1 (x5 ++ (⟨#[97]⟩ : ByteArray)) 0) else (none))
def forebearlaw23_ParseDeep.l2 : Nat → Int → Int → ByteArray → Int → Option (Bool)
  | 0, _, _, _, _ => none
  | k + 1, x0, x1, x5, x8 => if x8 < x1 then (if x5.size + 1 ≤ 9223372036854775807 then (forebearlaw23_ParseDeep.l2 k x0 x1 (x5 ++ (⟨#[41]⟩ : ByteArray)) (wrap64 (x8 + 1))) else (none)) else ((parse_Parse.f x5).bind fun bt608 => (if x0 ≥ 24 then (if bt608.2.2.2.2.2.2.2 = 32 then (if bt608.2.2.2.2.2.2.1 = 0 then (some (bt608.1 == 0)) else (some false)) else (some false)) else (if bt608.2.2.2.2.2.2.2 = 0 then ((forebearlaw23_Node.f k bt608.1 bt608.2.1 bt608.2.2.1 bt608.2.2.2.1 bt608.2.2.2.2.1 bt608.2.2.2.2.2.1).bind fun bt619 => ((forebearref23_Depth.f k bt619.1 bt619.2.1 bt619.2.2.1 bt619.2.2.2.1 bt619.2.2.2.2.1 bt619.2.2.2.2.2).bind fun t627 => (some (t627 == (wrap64 (x0 + 1)))))) else (some false))))
end
def forebearlaw23_ParseDeep.f (k : Nat) (a0 : Int) (a1 : Int) : Option (Bool) := (forebearlaw23_awake.f).bind fun t607 => (if t607 = true then (forebearlaw23_ParseDeep.l0 k (wrap64 (Int.tmod (IntKind.u64.wrap (a0)) 40)) (wrap64 (Int.tmod (IntKind.u64.wrap (a1)) 300)) (⟨#[]⟩ : ByteArray) 0) else (some false))
theorem forebearlaw23_ParseDeep.mono_l : ∀ k, (∀ y0 y1 y2 y3, LeO (forebearlaw23_ParseDeep.l0 k y0 y1 y2 y3) (forebearlaw23_ParseDeep.l0 (k + 1) y0 y1 y2 y3)) ∧ (∀ y0 y1 y2 y3, LeO (forebearlaw23_ParseDeep.l1 k y0 y1 y2 y3) (forebearlaw23_ParseDeep.l1 (k + 1) y0 y1 y2 y3)) ∧ (∀ y0 y1 y2 y3, LeO (forebearlaw23_ParseDeep.l2 k y0 y1 y2 y3) (forebearlaw23_ParseDeep.l2 (k + 1) y0 y1 y2 y3))
  | 0 => ⟨fun _ _ _ _ r h => by simp [forebearlaw23_ParseDeep.l0] at h, fun _ _ _ _ r h => by simp [forebearlaw23_ParseDeep.l1] at h, fun _ _ _ _ r h => by simp [forebearlaw23_ParseDeep.l2] at h⟩
  | k + 1 => by
    obtain ⟨ih0, ih1, ih2⟩ := forebearlaw23_ParseDeep.mono_l k
    refine ⟨?_, ?_, ?_⟩
    · intro y0 y1 y2 y3
      unfold forebearlaw23_ParseDeep.l0
      repeat' first
      | (with_reducible exact ih0 _ _ _ _)
      | (with_reducible exact ih1 _ _ _ _)
      | (with_reducible exact ih2 _ _ _ _)
      | (with_reducible exact forebearlaw23_Node.mono _ _ _ _ _ _ _)
      | (with_reducible exact forebearref23_Depth.mono _ _ _ _ _ _ _)
      | (with_reducible exact LeO.refl _)
      | (with_reducible exact LeO.none _)
      | (with_reducible refine LeO.ite ?_ ?_)
      | (with_reducible refine LeO.bind ?_ (fun _ => ?_))
      | exact ih0 _ _ _ _
      | exact ih1 _ _ _ _
      | exact ih2 _ _ _ _
      | exact forebearlaw23_Node.mono _ _ _ _ _ _ _
      | exact forebearref23_Depth.mono _ _ _ _ _ _ _
      | exact LeO.none _
      | refine LeO.ite ?_ ?_
      | refine LeO.bind ?_ (fun _ => ?_)
    · intro y0 y1 y2 y3
      unfold forebearlaw23_ParseDeep.l1
      repeat' first
      | (with_reducible exact ih0 _ _ _ _)
      | (with_reducible exact ih1 _ _ _ _)
      | (with_reducible exact ih2 _ _ _ _)
      | (with_reducible exact forebearlaw23_Node.mono _ _ _ _ _ _ _)
      | (with_reducible exact forebearref23_Depth.mono _ _ _ _ _ _ _)
      | (with_reducible exact LeO.refl _)
      | (with_reducible exact LeO.none _)
      | (with_reducible refine LeO.ite ?_ ?_)
      | (with_reducible refine LeO.bind ?_ (fun _ => ?_))
      | exact ih0 _ _ _ _
      | exact ih1 _ _ _ _
      | exact ih2 _ _ _ _
      | exact forebearlaw23_Node.mono _ _ _ _ _ _ _
      | exact forebearref23_Depth.mono _ _ _ _ _ _ _
      | exact LeO.none _
      | refine LeO.ite ?_ ?_
      | refine LeO.bind ?_ (fun _ => ?_)
    · intro y0 y1 y2 y3
      unfold forebearlaw23_ParseDeep.l2
      repeat' first
      | (with_reducible exact ih0 _ _ _ _)
      | (with_reducible exact ih1 _ _ _ _)
      | (with_reducible exact ih2 _ _ _ _)
      | (with_reducible exact forebearlaw23_Node.mono _ _ _ _ _ _ _)
      | (with_reducible exact forebearref23_Depth.mono _ _ _ _ _ _ _)
      | (with_reducible exact LeO.refl _)
      | (with_reducible exact LeO.none _)
      | (with_reducible refine LeO.ite ?_ ?_)
      | (with_reducible refine LeO.bind ?_ (fun _ => ?_))
      | exact ih0 _ _ _ _
      | exact ih1 _ _ _ _
      | exact ih2 _ _ _ _
      | exact forebearlaw23_Node.mono _ _ _ _ _ _ _
      | exact forebearref23_Depth.mono _ _ _ _ _ _ _
      | exact LeO.none _
      | refine LeO.ite ?_ ?_
      | refine LeO.bind ?_ (fun _ => ?_)
theorem forebearlaw23_ParseDeep.mono : ∀ a0 a1 k, LeO (forebearlaw23_ParseDeep.f k a0 a1) (forebearlaw23_ParseDeep.f (k + 1) a0 a1) := by
  intro a0 a1 k
  obtain ⟨ih0, ih1, ih2⟩ := forebearlaw23_ParseDeep.mono_l k
  unfold forebearlaw23_ParseDeep.f
  repeat' first
      | (with_reducible exact ih0 _ _ _ _)
      | (with_reducible exact ih1 _ _ _ _)
      | (with_reducible exact ih2 _ _ _ _)
      | (with_reducible exact forebearlaw23_Node.mono _ _ _ _ _ _ _)
      | (with_reducible exact forebearref23_Depth.mono _ _ _ _ _ _ _)
      | (with_reducible exact LeO.refl _)
      | (with_reducible exact LeO.none _)
      | (with_reducible refine LeO.ite ?_ ?_)
      | (with_reducible refine LeO.bind ?_ (fun _ => ?_))
      | exact ih0 _ _ _ _
      | exact ih1 _ _ _ _
      | exact ih2 _ _ _ _
      | exact forebearlaw23_Node.mono _ _ _ _ _ _ _
      | exact forebearref23_Depth.mono _ _ _ _ _ _ _
      | exact LeO.none _
      | refine LeO.ite ?_ ?_
      | refine LeO.bind ?_ (fun _ => ?_)
set_option maxHeartbeats 8000000 in
set_option maxRecDepth 100000 in
theorem forebearlaw23_ParseDeep.calls (k : Nat) (a0 : Int) (a1 : Int) (r : Bool) (w : World) (h : forebearlaw23_ParseDeep.f k a0 a1 = some r) :
    Calls Tryd.prog 10 #[.int .i64 a0, .int .i64 a1] w fun e w' => e = .returned (.bool r) ∧ Below w.heap.size w w' := by
  have hu44 := Tryd.underlying44
  have HB := Aside0.mk (Below.refl w.heap.size w)
  have H : ((forebearlaw23_awake.f).bind fun t607 => (if t607 = true then (forebearlaw23_ParseDeep.l0 k (wrap64 (Int.tmod (IntKind.u64.wrap (a0)) 40)) (wrap64 (Int.tmod (IntKind.u64.wrap (a1)) 300)) (⟨#[]⟩ : ByteArray) 0) else (some false))) = some r := h
  clear h
  replace H := Option.bind_eq_some_iff.mp H
  obtain ⟨t607, A30, H⟩ := H
  replace H : (if t607 = true then (forebearlaw23_ParseDeep.l0 k (wrap64 (Int.tmod (IntKind.u64.wrap (a0)) 40)) (wrap64 (Int.tmod (IntKind.u64.wrap (a1)) 300)) (⟨#[]⟩ : ByteArray) 0) else (some false)) = some r := H
  have A3 := Aside0.mk A30
  clear A30
  by_cases c4 : t607 = true
  · subst c4
    have H1 : (forebearlaw23_ParseDeep.l0 k (wrap64 (Int.tmod (IntKind.u64.wrap (a0)) 40)) (wrap64 (Int.tmod (IntKind.u64.wrap (a1)) 300)) (⟨#[]⟩ : ByteArray) 0) = some r := by rw [if_pos rfl] at H; exact H
    clear H
    have H := H1
    clear H1
    have H' := Aside0.mk H
    clear H
    go_enter Tryd.func10, Tryd.ntmps10
    go_wp2_with (first | ((with_reducible refine gate_callee (f := 26) rfl ?_); refine goesL_ (some 12) rfl rfl Tryd.func26 (by kernel_rfl) rfl #[] rfl (by (try simp only [List.map_toArray, List.map_cons, List.map_nil]); first | done | rfl | (simp only [List.length_drop, List.length_take]; rfl)) ?_; (with_reducible refine (forebearlaw23_awake.calls  true _ A3.out).mono ?_); rintro e w5 ⟨rfl, hb⟩; refine ⟨_, rfl, ?_⟩; have n0_ := Aside0.mk (below_step (by repeat (first | (with_reducible first | exact HB.out | apply below_alloc | apply pw_below_drewN | apply below_drew1) | exact HB.out)) hb); clear HB; have HB := n0_; clear n0_; (try clear hb); (try clear hb2); (try clear hk); (try clear hi)))
    go_loopg [5, 6] k (fun kq v5 v6 w' => ∃ (x5_1 : ByteArray) (x6_1 : Int), v5 = .string x5_1 ∧ v6 = .int .i64 x6_1 ∧ Aside0 (forebearlaw23_ParseDeep.l0 kq (wrap64 (Int.tmod (IntKind.u64.wrap (a0)) 40)) (wrap64 (Int.tmod (IntKind.u64.wrap (a1)) 300)) x5_1 x6_1 = some r) ∧ Aside0 (kq ≤ k) ∧ Aside0 (Below w.heap.size w w'))
    case atStart => exact ⟨((⟨#[]⟩ : ByteArray)), (0), (by first | rfl | (simp; done) | (simp [*]; done)), (by first | rfl | (simp; done) | (simp [*]; done)), H', ⟨Nat.le_refl _⟩, ⟨by repeat (first | (with_reducible first | exact HB.out | apply below_alloc | apply pw_below_drewN | apply below_drew1) | exact HB.out)⟩⟩
    case round =>
      clear H'
      obtain ⟨x5_1, x6_1, rfl, rfl, HA, HK1, HB⟩ := hrel
      cases gk with
      | zero => exact absurd HA.out (by simp [forebearlaw23_ParseDeep.l0])
      | succ k1 =>
        have H := HA.out
        clear HA
        simp only [forebearlaw23_ParseDeep.l0] at H
        by_cases c6 : x6_1 < (wrap64 (Int.tmod (IntKind.u64.wrap (a0)) 40))
        · rw [if_pos c6] at H
          have c6b0 : decide (x6_1 < (wrap64 (Int.tmod (IntKind.u64.wrap (a0)) 40))) = true := decide_eq_true c6
          clear c6
          by_cases c7 : x5_1.size + 1 ≤ 9223372036854775807
          · rw [if_pos c7] at H
            have c7b0 := eq_true c7
            have c7b1 : decide (x5_1.size + 1 ≤ 9223372036854775807) = true := decide_eq_true c7
            try have c7b2 : (9223372036854775807 < x5_1.size + 1) = False := eq_false (Nat.not_lt.2 c7)
            have H' := Aside0.mk H
            clear H
            go_wp2
            go_roundg k1
            case measure => have := HK1.out; omega
            case rel => exact ⟨(x5_1 ++ (⟨#[33]⟩ : ByteArray)), (wrap64 (x6_1 + 1)), (by first | rfl | (simp; done) | (simp [*]; done)), (by first | rfl | (simp; done) | (simp [*]; done)), H', ⟨by have := HK1.out; omega⟩, ⟨by repeat (first | (with_reducible first | exact HB.out | apply below_alloc | apply pw_below_drewN | apply below_drew1) | exact HB.out)⟩⟩
          · rw [if_neg c7] at H
            exact absurd H (by simp)
        · rw [if_neg c6] at H
          have c6b0 : decide (x6_1 < (wrap64 (Int.tmod (IntKind.u64.wrap (a0)) 40))) = false := decide_eq_false c6
          clear c6
          have H' := Aside0.mk H
          clear H
          go_wp2
          go_loopg [5, 7] k1 (fun kq v5 v7 w' => ∃ (x5_2 : ByteArray) (x7_2 : Int), v5 = .string x5_2 ∧ v7 = .int .i64 x7_2 ∧ Aside0 (forebearlaw23_ParseDeep.l1 kq (wrap64 (Int.tmod (IntKind.u64.wrap (a0)) 40)) (wrap64 (Int.tmod (IntKind.u64.wrap (a1)) 300)) x5_2 x7_2 = some r) ∧ Aside0 (kq ≤ k1) ∧ Aside0 (Below w.heap.size w w'))
          case atStart => exact ⟨(x5_1), (0), (by first | rfl | (simp; done) | (simp [*]; done)), (by first | rfl | (simp; done) | (simp [*]; done)), H', ⟨Nat.le_refl _⟩, ⟨by repeat (first | (with_reducible first | exact HB.out | apply below_alloc | apply pw_below_drewN | apply below_drew1) | exact HB.out)⟩⟩
          case round =>
            clear H'
            obtain ⟨x5_2, x7_2, rfl, rfl, HA, HK2, HB⟩ := hrel
            cases gk with
            | zero => exact absurd HA.out (by simp [forebearlaw23_ParseDeep.l1])
            | succ k2 =>
              have H := HA.out
              clear HA
              simp only [forebearlaw23_ParseDeep.l1] at H
              by_cases c8 : x7_2 < (wrap64 (Int.tmod (IntKind.u64.wrap (a1)) 300))
              · rw [if_pos c8] at H
                have c8b0 : decide (x7_2 < (wrap64 (Int.tmod (IntKind.u64.wrap (a1)) 300))) = true := decide_eq_true c8
                clear c8
                by_cases c9 : x5_2.size + 1 ≤ 9223372036854775807
                · rw [if_pos c9] at H
                  have c9b0 := eq_true c9
                  have c9b1 : decide (x5_2.size + 1 ≤ 9223372036854775807) = true := decide_eq_true c9
                  try have c9b2 : (9223372036854775807 < x5_2.size + 1) = False := eq_false (Nat.not_lt.2 c9)
                  have H' := Aside0.mk H
                  clear H
                  go_wp2
                  go_roundg k2
                  case measure => have := HK1.out; have := HK2.out; omega
                  case rel => exact ⟨(x5_2 ++ (⟨#[40]⟩ : ByteArray)), (wrap64 (x7_2 + 1)), (by first | rfl | (simp; done) | (simp [*]; done)), (by first | rfl | (simp; done) | (simp [*]; done)), H', ⟨by have := HK1.out; have := HK2.out; omega⟩, ⟨by repeat (first | (with_reducible first | exact HB.out | apply below_alloc | apply pw_below_drewN | apply below_drew1) | exact HB.out)⟩⟩
                · rw [if_neg c9] at H
                  exact absurd H (by simp)
              · rw [if_neg c8] at H
                have c8b0 : decide (x7_2 < (wrap64 (Int.tmod (IntKind.u64.wrap (a1)) 300))) = false := decide_eq_false c8
                clear c8
                by_cases c10 : x5_2.size + 1 ≤ 9223372036854775807
                · rw [if_pos c10] at H
                  have c10b0 := eq_true c10
                  have c10b1 : decide (x5_2.size + 1 ≤ 9223372036854775807) = true := decide_eq_true c10
                  try have c10b2 : (9223372036854775807 < x5_2.size + 1) = False := eq_false (Nat.not_lt.2 c10)
                  have H' := Aside0.mk H
                  clear H
                  go_wp2
                  go_loopg [5, 8] k2 (fun kq v5 v8 w' => ∃ (x5_3 : ByteArray) (x8_3 : Int), v5 = .string x5_3 ∧ v8 = .int .i64 x8_3 ∧ Aside0 (forebearlaw23_ParseDeep.l2 kq (wrap64 (Int.tmod (IntKind.u64.wrap (a0)) 40)) (wrap64 (Int.tmod (IntKind.u64.wrap (a1)) 300)) x5_3 x8_3 = some r) ∧ Aside0 (kq ≤ k2) ∧ Aside0 (Below w.heap.size w w'))
                  case atStart => exact ⟨(x5_2 ++ (⟨#[97]⟩ : ByteArray)), (0), (by first | rfl | (simp; done) | (simp [*]; done)), (by first | rfl | (simp; done) | (simp [*]; done)), H', ⟨Nat.le_refl _⟩, ⟨by repeat (first | (with_reducible first | exact HB.out | apply below_alloc | apply pw_below_drewN | apply below_drew1) | exact HB.out)⟩⟩
                  case round =>
                    clear H'
                    obtain ⟨x5_3, x8_3, rfl, rfl, HA, HK3, HB⟩ := hrel
                    cases gk with
                    | zero => exact absurd HA.out (by simp [forebearlaw23_ParseDeep.l2])
                    | succ k3 =>
                      have H := HA.out
                      clear HA
                      simp only [forebearlaw23_ParseDeep.l2] at H
                      by_cases c11 : x8_3 < (wrap64 (Int.tmod (IntKind.u64.wrap (a1)) 300))
                      · rw [if_pos c11] at H
                        have c11b0 : decide (x8_3 < (wrap64 (Int.tmod (IntKind.u64.wrap (a1)) 300))) = true := decide_eq_true c11
                        clear c11
                        by_cases c12 : x5_3.size + 1 ≤ 9223372036854775807
                        · rw [if_pos c12] at H
                          have c12b0 := eq_true c12
                          have c12b1 : decide (x5_3.size + 1 ≤ 9223372036854775807) = true := decide_eq_true c12
                          try have c12b2 : (9223372036854775807 < x5_3.size + 1) = False := eq_false (Nat.not_lt.2 c12)
                          have H' := Aside0.mk H
                          clear H
                          go_wp2
                          go_roundg k3
                          case measure => have := HK1.out; have := HK2.out; have := HK3.out; omega
                          case rel => exact ⟨(x5_3 ++ (⟨#[41]⟩ : ByteArray)), (wrap64 (x8_3 + 1)), (by first | rfl | (simp; done) | (simp [*]; done)), (by first | rfl | (simp; done) | (simp [*]; done)), H', ⟨by have := HK1.out; have := HK2.out; have := HK3.out; omega⟩, ⟨by repeat (first | (with_reducible first | exact HB.out | apply below_alloc | apply pw_below_drewN | apply below_drew1) | exact HB.out)⟩⟩
                        · rw [if_neg c12] at H
                          exact absurd H (by simp)
                      · rw [if_neg c11] at H
                        have c11b0 : decide (x8_3 < (wrap64 (Int.tmod (IntKind.u64.wrap (a1)) 300))) = false := decide_eq_false c11
                        clear c11
                        replace H := Option.bind_eq_some_iff.mp H
                        obtain ⟨⟨t608, t609, t610, t611, t612, t615, t616, t617⟩, A130, H⟩ := H
                        replace H : (if (wrap64 (Int.tmod (IntKind.u64.wrap (a0)) 40)) ≥ 24 then (if t617 = 32 then (if t616 = 0 then (some (t608 == 0)) else (some false)) else (some false)) else (if t617 = 0 then ((forebearlaw23_Node.f k3 t608 t609 t610 t611 t612 t615).bind fun bt619 => ((forebearref23_Depth.f k3 bt619.1 bt619.2.1 bt619.2.2.1 bt619.2.2.2.1 bt619.2.2.2.2.1 bt619.2.2.2.2.2).bind fun t627 => (some (t627 == (wrap64 ((wrap64 (Int.tmod (IntKind.u64.wrap (a0)) 40)) + 1)))))) else (some false))) = some r := H
                        have A13 := Aside0.mk A130
                        clear A130
                        by_cases c14 : (wrap64 (Int.tmod (IntKind.u64.wrap (a0)) 40)) ≥ 24
                        · rw [if_pos c14] at H
                          have c14b0 : decide (24 ≤ (wrap64 (Int.tmod (IntKind.u64.wrap (a0)) 40))) = true := decide_eq_true c14
                          clear c14
                          by_cases c15 : t617 = 32
                          · rw [if_pos c15] at H
                            have c15b0 : (t617 == 32) = true := beq_iff_eq.mpr c15
                            have c15b1 : (t617 != 32) = false := bne_eq_false_iff_eq.mpr c15
                            clear c15
                            by_cases c16 : t616 = 0
                            · rw [if_pos c16] at H
                              have c16b0 : (t616 == 0) = true := beq_iff_eq.mpr c16
                              have c16b1 : (t616 != 0) = false := bne_eq_false_iff_eq.mpr c16
                              clear c16
                              obtain rfl := Option.some.inj H
                              go_wp2_with (first | ((with_reducible refine gate_callee (f := 22) rfl ?_); refine goesL_ (some 47) rfl rfl Tryd.func22 (by kernel_rfl) rfl #[.string x5_3] rfl (by (try simp only [List.map_toArray, List.map_cons, List.map_nil]); first | done | rfl | (simp only [List.length_drop, List.length_take]; rfl)) ?_; (with_reducible refine (parse_Parse.calls x5_3 t608 t609 t610 t611 t612 t615 t616 t617 _ A13.out).mono ?_); rintro e w17 ⟨v613, rfl, ho0, hb⟩; refine ⟨_, rfl, ?_⟩; have n0_ := Aside0.mk (Kd.R_lower ho0 (below_size (by repeat (first | (with_reducible first | exact HB.out | apply below_alloc | apply pw_below_drewN | apply below_drew1) | exact HB.out)))); have n1_ := Aside0.mk (below_step (by repeat (first | (with_reducible first | exact HB.out | apply below_alloc | apply pw_below_drewN | apply below_drew1) | exact HB.out)) hb); clear HB; have HO614 := n0_; have HB := n1_; clear n0_ n1_; (try clear hb); (try clear hb2); (try clear hk); (try clear hi); (try clear ho0)) | ((with_reducible refine gate_dst (N := 9) rfl ?_); refine box_event ?hg (N := 9) ?hd (cs := #[.int .i64 0, .string (⟨#[]⟩ : ByteArray), .int .i64 0, .int .u64 0, .slice none 0 0, .int .i64 0]) (t := 44) ?hr ?_; (case hd => rfl); (case hg => rfl); (case hr => first | (go_simp; done) | (go_simp; rfl)); intro gb618 hg w18 hbox hb; have n0_ := Aside0.mk (Kd.R_below (Kd.R_elderB (by (with_reducible repeat (first | apply Kd.R_alloc | apply Kd.R_drewN | apply Kd.R_drew)); exact HO614.out) gb618 (Nat.le_of_eq hg.symm)) hb); have n1_ := Aside0.mk (below_step (by repeat (first | (with_reducible first | exact HB.out | apply below_alloc | apply pw_below_drewN | apply below_drew1) | exact HB.out)) hb); have n2_ := Aside0.mk (hbox); have n3_ := Aside0.mk ((by rw [hg]; exact (below_size (by repeat (first | (with_reducible first | exact HB.out | apply below_alloc | apply pw_below_drewN | apply below_drew1) | exact HB.out))) : w.heap.size ≤ gb618)); have n4_ := Aside0.mk ((by rw [hg]; exact (below_size (by repeat (first | (with_reducible first | exact HB.out | apply below_alloc | apply pw_below_drewN | apply below_drew1) | exact HB.out))) : w.heap.size ≤ gb618)); clear HO614; clear HB; have HO614 := n0_; have HB := n1_; have BK618 := n2_; have GW618 := n3_; have GE618 := n4_; clear n0_ n1_ n2_ n3_ n4_; clear hb hbox hg; have hcz19_0 : w18.cell? ⟨gb618, 0, none⟩ = some (.int .i64 0) := (blk_cell BK618.out 0).trans rfl; have hcz19_1 : w18.cell? ⟨gb618, 1, none⟩ = some (.string (⟨#[]⟩ : ByteArray)) := (blk_cell BK618.out 1).trans rfl; have hcz19_2 : w18.cell? ⟨gb618, 2, none⟩ = some (.int .i64 0) := (blk_cell BK618.out 2).trans rfl; have hcz19_3 : w18.cell? ⟨gb618, 3, none⟩ = some (.int .u64 0) := (blk_cell BK618.out 3).trans rfl; have hcz19_4 : w18.cell? ⟨gb618, 4, none⟩ = some (.slice none 0 0) := (blk_cell BK618.out 4).trans rfl; have hcz19_5 : w18.cell? ⟨gb618, 5, none⟩ = some (.int .i64 0) := (blk_cell BK618.out 5).trans rfl; have hfz19_0 := blk_frozen BK618.out 0; have hfz19_1 := blk_frozen BK618.out 1; have hfz19_2 := blk_frozen BK618.out 2; have hfz19_3 := blk_frozen BK618.out 3; have hfz19_4 := blk_frozen BK618.out 4; have hfz19_5 := blk_frozen BK618.out 5; obtain ⟨Ao20, co20, eo20⟩ := Kd.R_slice HO614.out; subst eo20))
                              go_ret
                              exact ⟨by first | rfl | (simp [errW_none, errW_some] <;> rfl) | (simp [*, errW_none, errW_some] <;> rfl), by repeat (first | (with_reducible first | exact HB.out | apply below_alloc | apply pw_below_drewN | apply below_drew1 | refine below_set ?_ GE618.out) | exact HB.out)⟩
                            · rw [if_neg c16] at H
                              have c16b0 : (t616 == 0) = false := beq_eq_false_iff_ne.mpr c16
                              have c16b1 : (t616 != 0) = true := bne_iff_ne.mpr c16
                              obtain rfl := Option.some.inj H
                              go_wp2_with (first | ((with_reducible refine gate_callee (f := 22) rfl ?_); refine goesL_ (some 47) rfl rfl Tryd.func22 (by kernel_rfl) rfl #[.string x5_3] rfl (by (try simp only [List.map_toArray, List.map_cons, List.map_nil]); first | done | rfl | (simp only [List.length_drop, List.length_take]; rfl)) ?_; (with_reducible refine (parse_Parse.calls x5_3 t608 t609 t610 t611 t612 t615 t616 t617 _ A13.out).mono ?_); rintro e w21 ⟨v613, rfl, ho0, hb⟩; refine ⟨_, rfl, ?_⟩; have n0_ := Aside0.mk (Kd.R_lower ho0 (below_size (by repeat (first | (with_reducible first | exact HB.out | apply below_alloc | apply pw_below_drewN | apply below_drew1) | exact HB.out)))); have n1_ := Aside0.mk (below_step (by repeat (first | (with_reducible first | exact HB.out | apply below_alloc | apply pw_below_drewN | apply below_drew1) | exact HB.out)) hb); clear HB; have HO614 := n0_; have HB := n1_; clear n0_ n1_; (try clear hb); (try clear hb2); (try clear hk); (try clear hi); (try clear ho0)) | ((with_reducible refine gate_dst (N := 9) rfl ?_); refine box_event ?hg (N := 9) ?hd (cs := #[.int .i64 0, .string (⟨#[]⟩ : ByteArray), .int .i64 0, .int .u64 0, .slice none 0 0, .int .i64 0]) (t := 44) ?hr ?_; (case hd => rfl); (case hg => rfl); (case hr => first | (go_simp; done) | (go_simp; rfl)); intro gb618 hg w22 hbox hb; have n0_ := Aside0.mk (Kd.R_below (Kd.R_elderB (by (with_reducible repeat (first | apply Kd.R_alloc | apply Kd.R_drewN | apply Kd.R_drew)); exact HO614.out) gb618 (Nat.le_of_eq hg.symm)) hb); have n1_ := Aside0.mk (below_step (by repeat (first | (with_reducible first | exact HB.out | apply below_alloc | apply pw_below_drewN | apply below_drew1) | exact HB.out)) hb); have n2_ := Aside0.mk (hbox); have n3_ := Aside0.mk ((by rw [hg]; exact (below_size (by repeat (first | (with_reducible first | exact HB.out | apply below_alloc | apply pw_below_drewN | apply below_drew1) | exact HB.out))) : w.heap.size ≤ gb618)); have n4_ := Aside0.mk ((by rw [hg]; exact (below_size (by repeat (first | (with_reducible first | exact HB.out | apply below_alloc | apply pw_below_drewN | apply below_drew1) | exact HB.out))) : w.heap.size ≤ gb618)); clear HO614; clear HB; have HO614 := n0_; have HB := n1_; have BK618 := n2_; have GW618 := n3_; have GE618 := n4_; clear n0_ n1_ n2_ n3_ n4_; clear hb hbox hg; have hcz23_0 : w22.cell? ⟨gb618, 0, none⟩ = some (.int .i64 0) := (blk_cell BK618.out 0).trans rfl; have hcz23_1 : w22.cell? ⟨gb618, 1, none⟩ = some (.string (⟨#[]⟩ : ByteArray)) := (blk_cell BK618.out 1).trans rfl; have hcz23_2 : w22.cell? ⟨gb618, 2, none⟩ = some (.int .i64 0) := (blk_cell BK618.out 2).trans rfl; have hcz23_3 : w22.cell? ⟨gb618, 3, none⟩ = some (.int .u64 0) := (blk_cell BK618.out 3).trans rfl; have hcz23_4 : w22.cell? ⟨gb618, 4, none⟩ = some (.slice none 0 0) := (blk_cell BK618.out 4).trans rfl; have hcz23_5 : w22.cell? ⟨gb618, 5, none⟩ = some (.int .i64 0) := (blk_cell BK618.out 5).trans rfl; have hfz23_0 := blk_frozen BK618.out 0; have hfz23_1 := blk_frozen BK618.out 1; have hfz23_2 := blk_frozen BK618.out 2; have hfz23_3 := blk_frozen BK618.out 3; have hfz23_4 := blk_frozen BK618.out 4; have hfz23_5 := blk_frozen BK618.out 5; obtain ⟨Ao24, co24, eo24⟩ := Kd.R_slice HO614.out; subst eo24))
                              go_ret
                              exact ⟨by first | rfl | (simp [errW_none, errW_some] <;> rfl) | (simp [*, errW_none, errW_some] <;> rfl), by repeat (first | (with_reducible first | exact HB.out | apply below_alloc | apply pw_below_drewN | apply below_drew1 | refine below_set ?_ GE618.out) | exact HB.out)⟩
                          · rw [if_neg c15] at H
                            have c15b0 : (t617 == 32) = false := beq_eq_false_iff_ne.mpr c15
                            have c15b1 : (t617 != 32) = true := bne_iff_ne.mpr c15
                            obtain rfl := Option.some.inj H
                            go_wp2_with (first | ((with_reducible refine gate_callee (f := 22) rfl ?_); refine goesL_ (some 47) rfl rfl Tryd.func22 (by kernel_rfl) rfl #[.string x5_3] rfl (by (try simp only [List.map_toArray, List.map_cons, List.map_nil]); first | done | rfl | (simp only [List.length_drop, List.length_take]; rfl)) ?_; (with_reducible refine (parse_Parse.calls x5_3 t608 t609 t610 t611 t612 t615 t616 t617 _ A13.out).mono ?_); rintro e w25 ⟨v613, rfl, ho0, hb⟩; refine ⟨_, rfl, ?_⟩; have n0_ := Aside0.mk (Kd.R_lower ho0 (below_size (by repeat (first | (with_reducible first | exact HB.out | apply below_alloc | apply pw_below_drewN | apply below_drew1) | exact HB.out)))); have n1_ := Aside0.mk (below_step (by repeat (first | (with_reducible first | exact HB.out | apply below_alloc | apply pw_below_drewN | apply below_drew1) | exact HB.out)) hb); clear HB; have HO614 := n0_; have HB := n1_; clear n0_ n1_; (try clear hb); (try clear hb2); (try clear hk); (try clear hi); (try clear ho0)) | ((with_reducible refine gate_dst (N := 9) rfl ?_); refine box_event ?hg (N := 9) ?hd (cs := #[.int .i64 0, .string (⟨#[]⟩ : ByteArray), .int .i64 0, .int .u64 0, .slice none 0 0, .int .i64 0]) (t := 44) ?hr ?_; (case hd => rfl); (case hg => rfl); (case hr => first | (go_simp; done) | (go_simp; rfl)); intro gb618 hg w26 hbox hb; have n0_ := Aside0.mk (Kd.R_below (Kd.R_elderB (by (with_reducible repeat (first | apply Kd.R_alloc | apply Kd.R_drewN | apply Kd.R_drew)); exact HO614.out) gb618 (Nat.le_of_eq hg.symm)) hb); have n1_ := Aside0.mk (below_step (by repeat (first | (with_reducible first | exact HB.out | apply below_alloc | apply pw_below_drewN | apply below_drew1) | exact HB.out)) hb); have n2_ := Aside0.mk (hbox); have n3_ := Aside0.mk ((by rw [hg]; exact (below_size (by repeat (first | (with_reducible first | exact HB.out | apply below_alloc | apply pw_below_drewN | apply below_drew1) | exact HB.out))) : w.heap.size ≤ gb618)); have n4_ := Aside0.mk ((by rw [hg]; exact (below_size (by repeat (first | (with_reducible first | exact HB.out | apply below_alloc | apply pw_below_drewN | apply below_drew1) | exact HB.out))) : w.heap.size ≤ gb618)); clear HO614; clear HB; have HO614 := n0_; have HB := n1_; have BK618 := n2_; have GW618 := n3_; have GE618 := n4_; clear n0_ n1_ n2_ n3_ n4_; clear hb hbox hg; have hcz27_0 : w26.cell? ⟨gb618, 0, none⟩ = some (.int .i64 0) := (blk_cell BK618.out 0).trans rfl; have hcz27_1 : w26.cell? ⟨gb618, 1, none⟩ = some (.string (⟨#[]⟩ : ByteArray)) := (blk_cell BK618.out 1).trans rfl; have hcz27_2 : w26.cell? ⟨gb618, 2, none⟩ = some (.int .i64 0) := (blk_cell BK618.out 2).trans rfl; have hcz27_3 : w26.cell? ⟨gb618, 3, none⟩ = some (.int .u64 0) := (blk_cell BK618.out 3).trans rfl; have hcz27_4 : w26.cell? ⟨gb618, 4, none⟩ = some (.slice none 0 0) := (blk_cell BK618.out 4).trans rfl; have hcz27_5 : w26.cell? ⟨gb618, 5, none⟩ = some (.int .i64 0) := (blk_cell BK618.out 5).trans rfl; have hfz27_0 := blk_frozen BK618.out 0; have hfz27_1 := blk_frozen BK618.out 1; have hfz27_2 := blk_frozen BK618.out 2; have hfz27_3 := blk_frozen BK618.out 3; have hfz27_4 := blk_frozen BK618.out 4; have hfz27_5 := blk_frozen BK618.out 5; obtain ⟨Ao28, co28, eo28⟩ := Kd.R_slice HO614.out; subst eo28))
                            go_ret
                            exact ⟨by first | rfl | (simp [errW_none, errW_some] <;> rfl) | (simp [*, errW_none, errW_some] <;> rfl), by repeat (first | (with_reducible first | exact HB.out | apply below_alloc | apply pw_below_drewN | apply below_drew1 | refine below_set ?_ GE618.out) | exact HB.out)⟩
                        · rw [if_neg c14] at H
                          have c14b0 : decide (24 ≤ (wrap64 (Int.tmod (IntKind.u64.wrap (a0)) 40))) = false := decide_eq_false c14
                          clear c14
                          by_cases c29 : t617 = 0
                          · rw [if_pos c29] at H
                            have c29b0 : (t617 == 0) = true := beq_iff_eq.mpr c29
                            have c29b1 : (t617 != 0) = false := bne_eq_false_iff_eq.mpr c29
                            clear c29
                            replace H := Option.bind_eq_some_iff.mp H
                            obtain ⟨⟨t619, t620, t621, t622, t623, t626⟩, A300, H⟩ := H
                            replace H : ((forebearref23_Depth.f k3 t619 t620 t621 t622 t623 t626).bind fun t627 => (some (t627 == (wrap64 ((wrap64 (Int.tmod (IntKind.u64.wrap (a0)) 40)) + 1))))) = some r := H
                            have A30 := Aside0.mk A300
                            clear A300
                            replace H := Option.bind_eq_some_iff.mp H
                            obtain ⟨t627, A310, H⟩ := H
                            replace H : (some (t627 == (wrap64 ((wrap64 (Int.tmod (IntKind.u64.wrap (a0)) 40)) + 1)))) = some r := H
                            have A31 := Aside0.mk A310
                            clear A310
                            obtain rfl := Option.some.inj H
                            go_wp2_with (first | ((with_reducible refine gate_callee (f := 22) rfl ?_); refine goesL_ (some 47) rfl rfl Tryd.func22 (by kernel_rfl) rfl #[.string x5_3] rfl (by (try simp only [List.map_toArray, List.map_cons, List.map_nil]); first | done | rfl | (simp only [List.length_drop, List.length_take]; rfl)) ?_; (with_reducible refine (parse_Parse.calls x5_3 t608 t609 t610 t611 t612 t615 t616 t617 _ A13.out).mono ?_); rintro e w32 ⟨v613, rfl, ho0, hb⟩; refine ⟨_, rfl, ?_⟩; have n0_ := Aside0.mk (Kd.R_lower ho0 (below_size (by repeat (first | (with_reducible first | exact HB.out | apply below_alloc | apply pw_below_drewN | apply below_drew1) | exact HB.out)))); have n1_ := Aside0.mk (below_step (by repeat (first | (with_reducible first | exact HB.out | apply below_alloc | apply pw_below_drewN | apply below_drew1) | exact HB.out)) hb); clear HB; have HO614 := n0_; have HB := n1_; clear n0_ n1_; (try clear hb); (try clear hb2); (try clear hk); (try clear hi); (try clear ho0)) | ((with_reducible refine gate_dst (N := 9) rfl ?_); refine box_event ?hg (N := 9) ?hd (cs := #[.int .i64 0, .string (⟨#[]⟩ : ByteArray), .int .i64 0, .int .u64 0, .slice none 0 0, .int .i64 0]) (t := 44) ?hr ?_; (case hd => rfl); (case hg => rfl); (case hr => first | (go_simp; done) | (go_simp; rfl)); intro gb618 hg w33 hbox hb; have n0_ := Aside0.mk (Kd.R_below (Kd.R_elderB (by (with_reducible repeat (first | apply Kd.R_alloc | apply Kd.R_drewN | apply Kd.R_drew)); exact HO614.out) gb618 (Nat.le_of_eq hg.symm)) hb); have n1_ := Aside0.mk (below_step (by repeat (first | (with_reducible first | exact HB.out | apply below_alloc | apply pw_below_drewN | apply below_drew1) | exact HB.out)) hb); have n2_ := Aside0.mk (hbox); have n3_ := Aside0.mk ((by rw [hg]; exact (below_size (by repeat (first | (with_reducible first | exact HB.out | apply below_alloc | apply pw_below_drewN | apply below_drew1) | exact HB.out))) : w.heap.size ≤ gb618)); have n4_ := Aside0.mk ((by rw [hg]; exact (below_size (by repeat (first | (with_reducible first | exact HB.out | apply below_alloc | apply pw_below_drewN | apply below_drew1) | exact HB.out))) : w.heap.size ≤ gb618)); clear HO614; clear HB; have HO614 := n0_; have HB := n1_; have BK618 := n2_; have GW618 := n3_; have GE618 := n4_; clear n0_ n1_ n2_ n3_ n4_; clear hb hbox hg; have hcz34_0 : w33.cell? ⟨gb618, 0, none⟩ = some (.int .i64 0) := (blk_cell BK618.out 0).trans rfl; have hcz34_1 : w33.cell? ⟨gb618, 1, none⟩ = some (.string (⟨#[]⟩ : ByteArray)) := (blk_cell BK618.out 1).trans rfl; have hcz34_2 : w33.cell? ⟨gb618, 2, none⟩ = some (.int .i64 0) := (blk_cell BK618.out 2).trans rfl; have hcz34_3 : w33.cell? ⟨gb618, 3, none⟩ = some (.int .u64 0) := (blk_cell BK618.out 3).trans rfl; have hcz34_4 : w33.cell? ⟨gb618, 4, none⟩ = some (.slice none 0 0) := (blk_cell BK618.out 4).trans rfl; have hcz34_5 : w33.cell? ⟨gb618, 5, none⟩ = some (.int .i64 0) := (blk_cell BK618.out 5).trans rfl; have hfz34_0 := blk_frozen BK618.out 0; have hfz34_1 := blk_frozen BK618.out 1; have hfz34_2 := blk_frozen BK618.out 2; have hfz34_3 := blk_frozen BK618.out 3; have hfz34_4 := blk_frozen BK618.out 4; have hfz34_5 := blk_frozen BK618.out 5; obtain ⟨Ao35, co35, eo35⟩ := Kd.R_slice HO614.out; subst eo35) | (go_at_call 25; (with_reducible refine (forebearlaw23_Node.calls k3 t608 t609 t610 t611 _ _ t612 t615 t619 t620 t621 t622 t623 t626 _ ?side1 ?side2 A30.out).mono ?_); (case side1 => refine (Kd.R_reads' (e := 44) (base := w.heap.size) (ok := fun k_ => (True ∧ k_ ≠ gb618)) (n := t612.length) (c := co35) ?_).2.2; exact (by (with_reducible repeat (first | apply Kd.R_alloc | apply Kd.R_drewN | apply Kd.R_drew)); exact (Kd.R_mono (Kd.R_far (p := ⟨gb618, 5, none⟩) (Kd.R_far (p := ⟨gb618, 4, none⟩) (Kd.R_far (p := ⟨gb618, 3, none⟩) (Kd.R_far (p := ⟨gb618, 2, none⟩) (Kd.R_far (p := ⟨gb618, 1, none⟩) (Kd.R_far (p := ⟨gb618, 0, none⟩) (Kd.R_mono HO614.out (fun k_ hk => (⟨hk, hk.2⟩ : _ ∧ k_ ≠ gb618))) (fun _ hk => hk.2) (.int .i64 t608)) (fun _ hk => hk.2) (.string t609)) (fun _ hk => hk.2) (.int .i64 t610)) (fun _ hk => hk.2) (.int .u64 t611)) (fun _ hk => hk.2) (.slice Ao35 t612.length co35)) (fun _ hk => hk.2) (.int .i64 t615)) (fun _ h_ => h_.1)))); (case side2 => exact (Kd.R_reads' HO614.out).2.1); rintro e w36 ⟨v624, rfl, ho0, hb⟩; have n0_ := Aside0.mk (Kd.R_below (by (with_reducible repeat (first | apply Kd.R_alloc | apply Kd.R_drewN | apply Kd.R_drew)); exact (Kd.R_mono (Kd.R_far (p := ⟨gb618, 5, none⟩) (Kd.R_far (p := ⟨gb618, 4, none⟩) (Kd.R_far (p := ⟨gb618, 3, none⟩) (Kd.R_far (p := ⟨gb618, 2, none⟩) (Kd.R_far (p := ⟨gb618, 1, none⟩) (Kd.R_far (p := ⟨gb618, 0, none⟩) (Kd.R_mono HO614.out (fun k_ hk => (⟨hk, hk.2⟩ : _ ∧ k_ ≠ gb618))) (fun _ hk => hk.2) (.int .i64 t608)) (fun _ hk => hk.2) (.string t609)) (fun _ hk => hk.2) (.int .i64 t610)) (fun _ hk => hk.2) (.int .u64 t611)) (fun _ hk => hk.2) (.slice Ao35 t612.length co35)) (fun _ hk => hk.2) (.int .i64 t615)) (fun _ h_ => h_.1))) hb); have n1_ := Aside0.mk (Kd.R_lower ho0 (below_size (by repeat (first | (with_reducible first | exact HB.out | apply below_alloc | apply pw_below_drewN | apply below_drew1 | refine below_set ?_ GE618.out) | exact HB.out)))); have n2_ := Aside0.mk (blk_below (g := gb618) (o := .cells #[.int .i64 t608, .string t609, .int .i64 t610, .int .u64 t611, .slice Ao35 t612.length co35, .int .i64 t615] 44 (0, 0)) (by (with_reducible repeat (first | refine blk_drewN ?_ _ | refine blk_drew ?_ | refine blk_alloc ?_ _)); refine blk_put (cs := #[.int .i64 t608, .string t609, .int .i64 t610, .int .u64 t611, .slice Ao35 t612.length co35, .int .i64 0]) ?_ 5 _ rfl; (with_reducible repeat (first | refine blk_drewN ?_ _ | refine blk_drew ?_ | refine blk_alloc ?_ _)); refine blk_put (cs := #[.int .i64 t608, .string t609, .int .i64 t610, .int .u64 t611, .slice none 0 0, .int .i64 0]) ?_ 4 _ rfl; (with_reducible repeat (first | refine blk_drewN ?_ _ | refine blk_drew ?_ | refine blk_alloc ?_ _)); refine blk_put (cs := #[.int .i64 t608, .string t609, .int .i64 t610, .int .u64 0, .slice none 0 0, .int .i64 0]) ?_ 3 _ rfl; (with_reducible repeat (first | refine blk_drewN ?_ _ | refine blk_drew ?_ | refine blk_alloc ?_ _)); refine blk_put (cs := #[.int .i64 t608, .string t609, .int .i64 0, .int .u64 0, .slice none 0 0, .int .i64 0]) ?_ 2 _ rfl; (with_reducible repeat (first | refine blk_drewN ?_ _ | refine blk_drew ?_ | refine blk_alloc ?_ _)); refine blk_put (cs := #[.int .i64 t608, .string (⟨#[]⟩ : ByteArray), .int .i64 0, .int .u64 0, .slice none 0 0, .int .i64 0]) ?_ 1 _ rfl; (with_reducible repeat (first | refine blk_drewN ?_ _ | refine blk_drew ?_ | refine blk_alloc ?_ _)); refine blk_put (cs := #[.int .i64 0, .string (⟨#[]⟩ : ByteArray), .int .i64 0, .int .u64 0, .slice none 0 0, .int .i64 0]) ?_ 0 _ rfl; (with_reducible repeat (first | refine blk_drewN ?_ _ | refine blk_drew ?_ | refine blk_alloc ?_ _)); exact BK618.out) hb); have n3_ := Aside0.mk (below_step (by repeat (first | (with_reducible first | exact HB.out | apply below_alloc | apply pw_below_drewN | apply below_drew1 | refine below_set ?_ GE618.out) | exact HB.out)) hb); clear HO614; clear BK618; clear HB; have HO614 := n0_; have HO625 := n1_; have BK618 := n2_; have HB := n3_; clear n0_ n1_ n2_ n3_; (try clear hb); (try clear hb2); (try clear hk); (try clear hi); (try clear ho0); obtain ⟨Ao37, co37, eo37⟩ := Kd.R_slice HO625.out; subst eo37) | (go_at_call 31; (with_reducible refine (forebearref23_Depth.calls k3 t619 t620 t621 t622 _ _ t623 t626 t627 _ ?side1 ?side2 A31.out).mono ?_); (case side1 => repeat (first | exact (Kd.R_reads' HO625.out).2.2 | (with_reducible refine Kd.C_alloc ?_ _) | (with_reducible refine Kd.C_drewN ?_ _) | (with_reducible refine Kd.C_drew ?_))); (case side2 => exact (Kd.R_reads' HO625.out).2.1); rintro e w38 ⟨rfl, hb⟩; have n0_ := Aside0.mk (Kd.R_below (by (with_reducible repeat (first | apply Kd.R_alloc | apply Kd.R_drewN | apply Kd.R_drew)); exact HO614.out) hb); have n1_ := Aside0.mk (Kd.R_below (by (with_reducible repeat (first | apply Kd.R_alloc | apply Kd.R_drewN | apply Kd.R_drew)); exact HO625.out) hb); have n2_ := Aside0.mk (blk_below (g := gb618) (o := .cells #[.int .i64 t608, .string t609, .int .i64 t610, .int .u64 t611, .slice Ao35 t612.length co35, .int .i64 t615] 44 (0, 0)) (by (with_reducible repeat (first | refine blk_drewN ?_ _ | refine blk_drew ?_ | refine blk_alloc ?_ _)); exact BK618.out) hb); have n3_ := Aside0.mk (below_step (by repeat (first | (with_reducible first | exact HB.out | apply below_alloc | apply pw_below_drewN | apply below_drew1 | refine below_set ?_ GE618.out) | exact HB.out)) hb); clear HO614; clear HO625; clear BK618; clear HB; have HO614 := n0_; have HO625 := n1_; have BK618 := n2_; have HB := n3_; clear n0_ n1_ n2_ n3_; (try clear hb); (try clear hb2); (try clear hk); (try clear hi)))
                            go_ret
                            exact ⟨by first | rfl | (simp [errW_none, errW_some] <;> rfl) | (simp [*, errW_none, errW_some] <;> rfl), by repeat (first | (with_reducible first | exact HB.out | apply below_alloc | apply pw_below_drewN | apply below_drew1 | refine below_set ?_ GE618.out) | exact HB.out)⟩
                          · rw [if_neg c29] at H
                            have c29b0 : (t617 == 0) = false := beq_eq_false_iff_ne.mpr c29
                            have c29b1 : (t617 != 0) = true := bne_iff_ne.mpr c29
                            obtain rfl := Option.some.inj H
                            go_wp2_with (first | ((with_reducible refine gate_callee (f := 22) rfl ?_); refine goesL_ (some 47) rfl rfl Tryd.func22 (by kernel_rfl) rfl #[.string x5_3] rfl (by (try simp only [List.map_toArray, List.map_cons, List.map_nil]); first | done | rfl | (simp only [List.length_drop, List.length_take]; rfl)) ?_; (with_reducible refine (parse_Parse.calls x5_3 t608 t609 t610 t611 t612 t615 t616 t617 _ A13.out).mono ?_); rintro e w39 ⟨v613, rfl, ho0, hb⟩; refine ⟨_, rfl, ?_⟩; have n0_ := Aside0.mk (Kd.R_lower ho0 (below_size (by repeat (first | (with_reducible first | exact HB.out | apply below_alloc | apply pw_below_drewN | apply below_drew1) | exact HB.out)))); have n1_ := Aside0.mk (below_step (by repeat (first | (with_reducible first | exact HB.out | apply below_alloc | apply pw_below_drewN | apply below_drew1) | exact HB.out)) hb); clear HB; have HO614 := n0_; have HB := n1_; clear n0_ n1_; (try clear hb); (try clear hb2); (try clear hk); (try clear hi); (try clear ho0)) | ((with_reducible refine gate_dst (N := 9) rfl ?_); refine box_event ?hg (N := 9) ?hd (cs := #[.int .i64 0, .string (⟨#[]⟩ : ByteArray), .int .i64 0, .int .u64 0, .slice none 0 0, .int .i64 0]) (t := 44) ?hr ?_; (case hd => rfl); (case hg => rfl); (case hr => first | (go_simp; done) | (go_simp; rfl)); intro gb618 hg w40 hbox hb; have n0_ := Aside0.mk (Kd.R_below (Kd.R_elderB (by (with_reducible repeat (first | apply Kd.R_alloc | apply Kd.R_drewN | apply Kd.R_drew)); exact HO614.out) gb618 (Nat.le_of_eq hg.symm)) hb); have n1_ := Aside0.mk (below_step (by repeat (first | (with_reducible first | exact HB.out | apply below_alloc | apply pw_below_drewN | apply below_drew1) | exact HB.out)) hb); have n2_ := Aside0.mk (hbox); have n3_ := Aside0.mk ((by rw [hg]; exact (below_size (by repeat (first | (with_reducible first | exact HB.out | apply below_alloc | apply pw_below_drewN | apply below_drew1) | exact HB.out))) : w.heap.size ≤ gb618)); have n4_ := Aside0.mk ((by rw [hg]; exact (below_size (by repeat (first | (with_reducible first | exact HB.out | apply below_alloc | apply pw_below_drewN | apply below_drew1) | exact HB.out))) : w.heap.size ≤ gb618)); clear HO614; clear HB; have HO614 := n0_; have HB := n1_; have BK618 := n2_; have GW618 := n3_; have GE618 := n4_; clear n0_ n1_ n2_ n3_ n4_; clear hb hbox hg; have hcz41_0 : w40.cell? ⟨gb618, 0, none⟩ = some (.int .i64 0) := (blk_cell BK618.out 0).trans rfl; have hcz41_1 : w40.cell? ⟨gb618, 1, none⟩ = some (.string (⟨#[]⟩ : ByteArray)) := (blk_cell BK618.out 1).trans rfl; have hcz41_2 : w40.cell? ⟨gb618, 2, none⟩ = some (.int .i64 0) := (blk_cell BK618.out 2).trans rfl; have hcz41_3 : w40.cell? ⟨gb618, 3, none⟩ = some (.int .u64 0) := (blk_cell BK618.out 3).trans rfl; have hcz41_4 : w40.cell? ⟨gb618, 4, none⟩ = some (.slice none 0 0) := (blk_cell BK618.out 4).trans rfl; have hcz41_5 : w40.cell? ⟨gb618, 5, none⟩ = some (.int .i64 0) := (blk_cell BK618.out 5).trans rfl; have hfz41_0 := blk_frozen BK618.out 0; have hfz41_1 := blk_frozen BK618.out 1; have hfz41_2 := blk_frozen BK618.out 2; have hfz41_3 := blk_frozen BK618.out 3; have hfz41_4 := blk_frozen BK618.out 4; have hfz41_5 := blk_frozen BK618.out 5; obtain ⟨Ao42, co42, eo42⟩ := Kd.R_slice HO614.out; subst eo42))
                            go_ret
                            exact ⟨by first | rfl | (simp [errW_none, errW_some] <;> rfl) | (simp [*, errW_none, errW_some] <;> rfl), by repeat (first | (with_reducible first | exact HB.out | apply below_alloc | apply pw_below_drewN | apply below_drew1 | refine below_set ?_ GE618.out) | exact HB.out)⟩
                · rw [if_neg c10] at H
                  exact absurd H (by simp)
  · replace c4 := Bool.eq_false_iff.mpr c4
    subst c4
    have H1 : (some false) = some r := by rw [if_neg (show ¬ (false = true) by decide)] at H; exact H
    clear H
    have H := H1
    clear H1
    obtain rfl := Option.some.inj H
    go_enter Tryd.func10, Tryd.ntmps10
    go_wp2_with (first | ((with_reducible refine gate_callee (f := 26) rfl ?_); refine goesL_ (some 12) rfl rfl Tryd.func26 (by kernel_rfl) rfl #[] rfl (by (try simp only [List.map_toArray, List.map_cons, List.map_nil]); first | done | rfl | (simp only [List.length_drop, List.length_take]; rfl)) ?_; (with_reducible refine (forebearlaw23_awake.calls  false _ A3.out).mono ?_); rintro e w43 ⟨rfl, hb⟩; refine ⟨_, rfl, ?_⟩; have n0_ := Aside0.mk (below_step (by repeat (first | (with_reducible first | exact HB.out | apply below_alloc | apply pw_below_drewN | apply below_drew1) | exact HB.out)) hb); clear HB; have HB := n0_; clear n0_; (try clear hb); (try clear hb2); (try clear hk); (try clear hi)))
    go_ret
    exact ⟨by first | rfl | (simp [errW_none, errW_some] <;> rfl) | (simp [*, errW_none, errW_some] <;> rfl), by repeat (first | (with_reducible first | exact HB.out | apply below_alloc | apply pw_below_drewN | apply below_drew1) | exact HB.out)⟩

/-- THE ONE PURE STATEMENT of forebearlaw23_ParseDeep: yours. -/
def forebearlaw23_ParseDeep.Pure : Prop := ∀ (a0 : Int) (a1 : Int), (Lit.int .i64 a0).wf = true → (Lit.int .i64 a1).wf = true → ∃ k, forebearlaw23_ParseDeep.f k a0 a1 = some true
theorem forebearlaw23_ParseDeep.walk (P : forebearlaw23_ParseDeep.Pure) (a0 : Int) (a1 : Int) (w : World) (w0 : (Lit.int .i64 a0).wf = true) (w1 : (Lit.int .i64 a1).wf = true) :
    Calls Tryd.prog 10 #[.int .i64 a0, .int .i64 a1] w fun e w' => e = .returned (.bool true) ∧ Below w.heap.size w w' := by
  obtain ⟨k, h⟩ := P a0 a1 w0 w1
  refine (forebearlaw23_ParseDeep.calls k a0 a1 true w h).mono ?_
  rintro e w' ⟨rfl, hd⟩
  exact ⟨rfl, hd⟩

end Go.Proofs.YtfgfoofojofnmaaDoor.Q
