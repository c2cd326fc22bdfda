import Derived.Test.YtfgfoofojofnmaaDoorGQ0
import Derived.Test.YtfgfoofojofnmaaDoorGQF76
set_option linter.unusedVariables false
set_option linter.unusedSimpArgs false
-- Written by a program of this session's (wip/tools/hprint.py, over the kit's print.py). Not trusted: Lean checks it.
namespace Go.Proofs.YtfgfoofojofnmaaDoor.Q
open Go.RowKit Go.Proofs.YtfgfoofojofnmaaDoorW.PrintWords Go.Proofs.YtfgfoofojofnmaaDoorW.PrintLast Go.Proofs.YtfgfoofojofnmaaDoorW.PrintMore
attribute [local go_sem] Go.Proofs.YtfgfoofojofnmaaDoor.Hand.w64_mod256 Go.Proofs.YtfgfoofojofnmaaDoor.Hand.w64_mod32 max2_int min2_int max_two min_two max_three min_three max_four min_four   -- for this text's walks alone
set_option linter.unusedVariables false
set_option linter.unusedSimpArgs false

/-! ### forebearref21_Digits: function 46 -/
def forebearref21_Digits.l0 : Nat → Int → ByteArray → Option (ByteArray)
  | 0, _, _ => none
  | k + 1, x0, x3 => if x0 > 0 then ((some (([(wrap64 (48 + (Int.tmod x0 10))) % 256] : List Int) : List Int)).bind fun y199 => (if (strOfNums y199).size + x3.size ≤ 9223372036854775807 then (forebearref21_Digits.l0 k (wrap64 (Int.tdiv x0 10)) ((strOfNums y199) ++ x3)) else (none))) else (some x3)
def forebearref21_Digits.f (k : Nat) (a0 : Int) : Option (ByteArray) := forebearref21_Digits.l0 k (wrap64 (Int.tdiv a0 10)) (strOfNums (([(wrap64 (48 + (Int.tmod a0 10))) % 256] : List Int)))
theorem forebearref21_Digits.mono_l : ∀ k, (∀ y0 y1, LeO (forebearref21_Digits.l0 k y0 y1) (forebearref21_Digits.l0 (k + 1) y0 y1))
  | 0 => fun _ _ r h => by simp [forebearref21_Digits.l0] at h
  | k + 1 => by
    have ih0 := forebearref21_Digits.mono_l k
    · intro y0 y1
      unfold forebearref21_Digits.l0
      repeat' first
      | (with_reducible exact ih0 _ _)
      | (with_reducible exact LeO.refl _)
      | (with_reducible exact LeO.none _)
      | (with_reducible refine LeO.ite ?_ ?_)
      | (with_reducible refine LeO.bind ?_ (fun _ => ?_))
      | exact ih0 _ _
      | exact LeO.none _
      | refine LeO.ite ?_ ?_
      | refine LeO.bind ?_ (fun _ => ?_)
theorem forebearref21_Digits.mono : ∀ a0 k, LeO (forebearref21_Digits.f k a0) (forebearref21_Digits.f (k + 1) a0) := by
  intro a0 k
  have ih0 := forebearref21_Digits.mono_l k
  unfold forebearref21_Digits.f
  repeat' first
      | (with_reducible exact ih0 _ _)
      | (with_reducible exact LeO.refl _)
      | (with_reducible exact LeO.none _)
      | (with_reducible refine LeO.ite ?_ ?_)
      | (with_reducible refine LeO.bind ?_ (fun _ => ?_))
      | exact ih0 _ _
      | exact LeO.none _
      | refine LeO.ite ?_ ?_
      | refine LeO.bind ?_ (fun _ => ?_)
set_option maxHeartbeats 8000000 in
set_option maxRecDepth 100000 in
theorem forebearref21_Digits.calls (k : Nat) (a0 : Int) (r : ByteArray) (w : World) (h : forebearref21_Digits.f k a0 = some r) :
    Calls Tryd.prog 46 #[.int .i64 a0] w fun e w' => e = .returned (.string r) ∧ Below w.heap.size w w' := by
  have HB := Aside0.mk (Below.refl w.heap.size w)
  have H : (forebearref21_Digits.l0 k (wrap64 (Int.tdiv a0 10)) (strOfNums (([(wrap64 (48 + (Int.tmod a0 10))) % 256] : List Int)))) = some r := h
  clear h
  obtain ⟨y196, hy196⟩ : ∃ y_ : List Int, y_ = (([(wrap64 (48 + (Int.tmod a0 10))) % 256] : List Int)) := ⟨_, rfl⟩
  replace H : (forebearref21_Digits.l0 k (wrap64 (Int.tdiv a0 10)) (strOfNums y196)) = some r := by first | (rw [hy196]; with_reducible exact H) | (have H2_ := (Option.bind_some _ _).symm.trans H; rw [hy196]; with_reducible exact H2_) | (have H2_ := (Option.bind_some _ _).symm.trans H; with_reducible exact H2_) | with_reducible exact H | (rw [hy196]; exact H) | exact H
  have Ny196 := Aside0.mk hy196
  clear hy196
  have H' := Aside0.mk H
  clear H
  go_enter Tryd.func46, Tryd.ntmps46
  go_wp2_with (first | ((with_reducible refine gate_dst (N := 8) rfl ?_); refine Kd.R_lit (Kd.int .u8) _ 5 ?hg (N := 8) ?hd (xs := ([(wrap64 (48 + (Int.tmod a0 10))) % 256] : List Int)) (inner := [.int .u8 ((wrap64 (48 + (Int.tmod a0 10))) % 256)]) (ok := fun _ => True) (okp := fun _ => True) ?hr ?hp (fun _ hk => hk) trivial (Below.refl _ _) (Nat.le_refl _) (by simp) ?_; (case hd => rfl); (case hg => rfl); (case hr => first | (go_simp; done) | (go_simp; rfl)); (case hp => exact (Reps.one (show Kd.M (Kd.int .u8) _ _ _ ((wrap64 (48 + (Int.tmod a0 10))) % 256) [.int .u8 ((wrap64 (48 + (Int.tmod a0 10))) % 256)] from rfl) (Reps.none _ _))); intro v197 w2 ho3 hb hg_ hnew_; clear hg_ hnew_; (first | rw [← Ny196.out] at ho3 | (simp only [Int.reduceToNat] at ho3; rw [← Ny196.out] at ho3)); have n0_ := Aside0.mk (Kd.R_lower ho3 (below_size (by repeat (first | (with_reducible first | exact HB.out | apply below_alloc | apply pw_below_drewN | apply below_drew1) | exact HB.out)))); have n1_ := Aside0.mk (below_step (by repeat (first | (with_reducible first | exact HB.out | apply below_alloc | apply pw_below_drewN | apply below_drew1) | exact HB.out)) hb); clear HB; have HO198 := n0_; have HB := n1_; clear n0_ n1_; clear hb ho3; have hcv4 := own_string (P := Tryd.prog) Tryd.underlying127 Tryd.underlying5 Tryd.underlying9 (Kd.own_of_R HO198.out)))
  go_loopg [0, 3] k (fun kq v0 v3 w' => ∃ (x0_1 : Int) (x3_1 : ByteArray), v0 = .int .i64 x0_1 ∧ v3 = .string x3_1 ∧ Aside0 (forebearref21_Digits.l0 kq x0_1 x3_1 = some r) ∧ Aside0 (kq ≤ k) ∧ Aside0 (Below w.heap.size w w'))
  case atStart => exact ⟨(wrap64 (Int.tdiv a0 10)), (strOfNums y196), (by first | rfl | (simp; done) | (simp [*]; done)), (by first | rfl | (simp; done) | (simp [*]; done)), H', ⟨Nat.le_refl _⟩, ⟨by repeat (first | (with_reducible first | exact HB.out | apply below_alloc | apply pw_below_drewN | apply below_drew1) | exact HB.out)⟩⟩
  case round =>
    clear H'
    obtain ⟨x0_1, x3_1, rfl, rfl, HA, HK1, HB⟩ := hrel
    cases gk with
    | zero => exact absurd HA.out (by simp [forebearref21_Digits.l0])
    | succ k1 =>
      have H := HA.out
      clear HA
      simp only [forebearref21_Digits.l0] at H
      by_cases c5 : x0_1 > 0
      · rw [if_pos c5] at H
        have c5b0 : decide (0 < x0_1) = true := decide_eq_true c5
        clear c5
        obtain ⟨y199, hy199⟩ : ∃ y_ : List Int, y_ = (([(wrap64 (48 + (Int.tmod x0_1 10))) % 256] : List Int)) := ⟨_, rfl⟩
        replace H : (if (strOfNums y199).size + x3_1.size ≤ 9223372036854775807 then (forebearref21_Digits.l0 k1 (wrap64 (Int.tdiv x0_1 10)) ((strOfNums y199) ++ x3_1)) else (none)) = some r := by first | (rw [hy199]; with_reducible exact H) | (have H2_ := (Option.bind_some _ _).symm.trans H; rw [hy199]; with_reducible exact H2_) | (have H2_ := (Option.bind_some _ _).symm.trans H; with_reducible exact H2_) | with_reducible exact H | (rw [hy199]; exact H) | exact H
        have Ny199 := Aside0.mk hy199
        clear hy199
        by_cases c6 : (strOfNums y199).size + x3_1.size ≤ 9223372036854775807
        · rw [if_pos c6] at H
          have c6b0 := eq_true c6
          have c6b1 : decide ((strOfNums y199).size + x3_1.size ≤ 9223372036854775807) = true := decide_eq_true c6
          try have c6b2 : (9223372036854775807 < (strOfNums y199).size + x3_1.size) = False := eq_false (Nat.not_lt.2 c6)
          have H' := Aside0.mk H
          clear H
          go_wp2_with (first | ((with_reducible refine gate_dst (N := 20) rfl ?_); refine Kd.R_lit (Kd.int .u8) _ 5 ?hg (N := 20) ?hd (xs := ([(wrap64 (48 + (Int.tmod x0_1 10))) % 256] : List Int)) (inner := [.int .u8 ((wrap64 (48 + (Int.tmod x0_1 10))) % 256)]) (ok := fun _ => True) (okp := fun _ => True) ?hr ?hp (fun _ hk => hk) trivial (Below.refl _ _) (Nat.le_refl _) (by simp) ?_; (case hd => rfl); (case hg => rfl); (case hr => first | (go_simp; done) | (go_simp; rfl)); (case hp => exact (Reps.one (show Kd.M (Kd.int .u8) _ _ _ ((wrap64 (48 + (Int.tmod x0_1 10))) % 256) [.int .u8 ((wrap64 (48 + (Int.tmod x0_1 10))) % 256)] from rfl) (Reps.none _ _))); intro v200 w7 ho8 hb hg_ hnew_; clear hg_ hnew_; (first | rw [← Ny199.out] at ho8 | (simp only [Int.reduceToNat] at ho8; rw [← Ny199.out] at ho8)); have n0_ := Aside0.mk (Kd.R_lower ho8 (below_size (by repeat (first | (with_reducible first | exact HB.out | apply below_alloc | apply pw_below_drewN | apply below_drew1) | exact HB.out)))); have n1_ := Aside0.mk (below_step (by repeat (first | (with_reducible first | exact HB.out | apply below_alloc | apply pw_below_drewN | apply below_drew1) | exact HB.out)) hb); clear HB; have HO201 := n0_; have HB := n1_; clear n0_ n1_; clear hb ho8; have hcv9 := own_string (P := Tryd.prog) Tryd.underlying127 Tryd.underlying5 Tryd.underlying9 (Kd.own_of_R HO201.out)))
          go_roundg k1
          case measure => have := HK1.out; omega
          case rel => exact ⟨(wrap64 (Int.tdiv x0_1 10)), ((strOfNums y199) ++ x3_1), (by first | rfl | (simp; done) | (simp [*]; done)), (by first | rfl | (simp; done) | (simp [*]; done)), H', ⟨by have := HK1.out; omega⟩, ⟨by repeat (first | (with_reducible first | exact HB.out | apply below_alloc | apply pw_below_drewN | apply below_drew1) | exact HB.out)⟩⟩
        · rw [if_neg c6] at H
          exact absurd H (by simp)
      · rw [if_neg c5] at H
        have c5b0 : decide (0 < x0_1) = false := decide_eq_false c5
        clear c5
        obtain rfl := Option.some.inj H
        go_wp2
        go_ret
        exact ⟨by first | rfl | (simp [errW_none, errW_some] <;> rfl) | (simp [*, errW_none, errW_some] <;> rfl), by repeat (first | (with_reducible first | exact HB.out | apply below_alloc | apply pw_below_drewN | apply below_drew1) | exact HB.out)⟩

end Go.Proofs.YtfgfoofojofnmaaDoor.Q
-- Written by a program of this session's (wip/tools/hprint.py, over the kit's print.py). Not trusted: Lean checks it.
namespace Go.Proofs.YtfgfoofojofnmaaDoor.Q
open Go.RowKit Go.Proofs.YtfgfoofojofnmaaDoorW.PrintWords Go.Proofs.YtfgfoofojofnmaaDoorW.PrintLast Go.Proofs.YtfgfoofojofnmaaDoorW.PrintMore
attribute [local go_sem] Go.Proofs.YtfgfoofojofnmaaDoor.Hand.w64_mod256 Go.Proofs.YtfgfoofojofnmaaDoor.Hand.w64_mod32 max2_int min2_int max_two min_two max_three min_three max_four min_four   -- for this text's walks alone
set_option linter.unusedVariables false
set_option linter.unusedSimpArgs false

/-! ### forebearref01_Hex: function 47 -/
def forebearref01_Hex.l0 : Nat → Int → ByteArray → Int → Option (ByteArray)
  | 0, _, _, _ => none
  | k + 1, x0, x3, x4 => if x4 < 16 then ((forebearref01_digit.f (Int.tmod x0 16)).bind fun t202 => ((some (([t202] : List Int) : List Int)).bind fun y203 => (if (strOfNums y203).size + x3.size ≤ 9223372036854775807 then (forebearref01_Hex.l0 k (IntKind.u64.wrap (Int.tdiv x0 16)) ((strOfNums y203) ++ x3) (wrap64 (x4 + 1))) else (none)))) else (some x3)
def forebearref01_Hex.f (k : Nat) (a0 : Int) : Option (ByteArray) := forebearref01_Hex.l0 k a0 (⟨#[]⟩ : ByteArray) 0
theorem forebearref01_Hex.mono_l : ∀ k, (∀ y0 y1 y2, LeO (forebearref01_Hex.l0 k y0 y1 y2) (forebearref01_Hex.l0 (k + 1) y0 y1 y2))
  | 0 => fun _ _ _ r h => by simp [forebearref01_Hex.l0] at h
  | k + 1 => by
    have ih0 := forebearref01_Hex.mono_l k
    · intro y0 y1 y2
      unfold forebearref01_Hex.l0
      repeat' first
      | (with_reducible exact ih0 _ _ _)
      | (with_reducible exact LeO.refl _)
      | (with_reducible exact LeO.none _)
      | (with_reducible refine LeO.ite ?_ ?_)
      | (with_reducible refine LeO.bind ?_ (fun _ => ?_))
      | exact ih0 _ _ _
      | exact LeO.none _
      | refine LeO.ite ?_ ?_
      | refine LeO.bind ?_ (fun _ => ?_)
theorem forebearref01_Hex.mono : ∀ a0 k, LeO (forebearref01_Hex.f k a0) (forebearref01_Hex.f (k + 1) a0) := by
  intro a0 k
  have ih0 := forebearref01_Hex.mono_l k
  unfold forebearref01_Hex.f
  repeat' first
      | (with_reducible exact ih0 _ _ _)
      | (with_reducible exact LeO.refl _)
      | (with_reducible exact LeO.none _)
      | (with_reducible refine LeO.ite ?_ ?_)
      | (with_reducible refine LeO.bind ?_ (fun _ => ?_))
      | exact ih0 _ _ _
      | exact LeO.none _
      | refine LeO.ite ?_ ?_
      | refine LeO.bind ?_ (fun _ => ?_)
set_option maxHeartbeats 8000000 in
set_option maxRecDepth 100000 in
theorem forebearref01_Hex.calls (k : Nat) (a0 : Int) (r : ByteArray) (w : World) (h : forebearref01_Hex.f k a0 = some r) :
    Calls Tryd.prog 47 #[.int .u64 a0] w fun e w' => e = .returned (.string r) ∧ Below w.heap.size w w' := by
  have HB := Aside0.mk (Below.refl w.heap.size w)
  have H : (forebearref01_Hex.l0 k a0 (⟨#[]⟩ : ByteArray) 0) = some r := h
  clear h
  have H' := Aside0.mk H
  clear H
  go_enter Tryd.func47, Tryd.ntmps47
  go_wp2
  go_loopg [0, 3, 4] k (fun kq v0 v3 v4 w' => ∃ (x0_1 : Int) (x3_1 : ByteArray) (x4_1 : Int), v0 = .int .u64 x0_1 ∧ v3 = .string x3_1 ∧ v4 = .int .i64 x4_1 ∧ Aside0 (forebearref01_Hex.l0 kq x0_1 x3_1 x4_1 = some r) ∧ Aside0 (kq ≤ k) ∧ Aside0 (Below w.heap.size w w'))
  case atStart => exact ⟨(a0), ((⟨#[]⟩ : ByteArray)), (0), (by first | rfl | (simp; done) | (simp [*]; done)), (by first | rfl | (simp; done) | (simp [*]; done)), (by first | rfl | (simp; done) | (simp [*]; done)), H', ⟨Nat.le_refl _⟩, ⟨by repeat (first | (with_reducible first | exact HB.out | apply below_alloc | apply pw_below_drewN | apply below_drew1) | exact HB.out)⟩⟩
  case round =>
    clear H'
    obtain ⟨x0_1, x3_1, x4_1, rfl, rfl, rfl, HA, HK1, HB⟩ := hrel
    cases gk with
    | zero => exact absurd HA.out (by simp [forebearref01_Hex.l0])
    | succ k1 =>
      have H := HA.out
      clear HA
      simp only [forebearref01_Hex.l0] at H
      by_cases c2 : x4_1 < 16
      · rw [if_pos c2] at H
        have c2b0 : decide (x4_1 < 16) = true := decide_eq_true c2
        clear c2
        replace H := Option.bind_eq_some_iff.mp H
        obtain ⟨t202, A30, H⟩ := H
        replace H : ((some (([t202] : List Int) : List Int)).bind fun y203 => (if (strOfNums y203).size + x3_1.size ≤ 9223372036854775807 then (forebearref01_Hex.l0 k1 (IntKind.u64.wrap (Int.tdiv x0_1 16)) ((strOfNums y203) ++ x3_1) (wrap64 (x4_1 + 1))) else (none))) = some r := H
        have A3 := Aside0.mk A30
        clear A30
        obtain ⟨y203, hy203⟩ : ∃ y_ : List Int, y_ = (([t202] : List Int)) := ⟨_, rfl⟩
        replace H : (if (strOfNums y203).size + x3_1.size ≤ 9223372036854775807 then (forebearref01_Hex.l0 k1 (IntKind.u64.wrap (Int.tdiv x0_1 16)) ((strOfNums y203) ++ x3_1) (wrap64 (x4_1 + 1))) else (none)) = some r := by first | (rw [hy203]; with_reducible exact H) | (have H2_ := (Option.bind_some _ _).symm.trans H; rw [hy203]; with_reducible exact H2_) | (have H2_ := (Option.bind_some _ _).symm.trans H; with_reducible exact H2_) | with_reducible exact H | (rw [hy203]; exact H) | exact H
        have Ny203 := Aside0.mk hy203
        clear hy203
        by_cases c4 : (strOfNums y203).size + x3_1.size ≤ 9223372036854775807
        · rw [if_pos c4] at H
          have c4b0 := eq_true c4
          have c4b1 : decide ((strOfNums y203).size + x3_1.size ≤ 9223372036854775807) = true := decide_eq_true c4
          try have c4b2 : (9223372036854775807 < (strOfNums y203).size + x3_1.size) = False := eq_false (Nat.not_lt.2 c4)
          have H' := Aside0.mk H
          clear H
          go_wp2_with (first | ((with_reducible refine gate_callee (f := 76) rfl ?_); refine goesL_ (some 11) rfl rfl Tryd.func76 (by kernel_rfl) rfl #[.int .u64 (Int.tmod x0_1 16)] rfl (by (try simp only [List.map_toArray, List.map_cons, List.map_nil]); first | done | rfl | (simp only [List.length_drop, List.length_take]; rfl)) ?_; (with_reducible refine (forebearref01_digit.calls (Int.tmod x0_1 16) t202 _ A3.out).mono ?_); rintro e w' ⟨rfl, ⟨nd, rfl⟩⟩; refine ⟨_, rfl, ?_⟩) | ((with_reducible refine gate_dst (N := 12) rfl ?_); refine Kd.R_lit (Kd.int .u8) _ 5 ?hg (N := 12) ?hd (xs := ([t202] : List Int)) (inner := [.int .u8 t202]) (ok := fun _ => True) (okp := fun _ => True) ?hr ?hp (fun _ hk => hk) trivial (Below.refl _ _) (Nat.le_refl _) (by simp) ?_; (case hd => rfl); (case hg => rfl); (case hr => first | (go_simp; done) | (go_simp; rfl)); (case hp => exact (Reps.one (show Kd.M (Kd.int .u8) _ _ _ t202 [.int .u8 t202] from rfl) (Reps.none _ _))); intro v204 w5 ho6 hb hg_ hnew_; clear hg_ hnew_; (first | rw [← Ny203.out] at ho6 | (simp only [Int.reduceToNat] at ho6; rw [← Ny203.out] at ho6)); have n0_ := Aside0.mk (Kd.R_lower ho6 (below_size (by repeat (first | (with_reducible first | exact HB.out | apply below_alloc | apply pw_below_drewN | apply below_drew1) | exact HB.out)))); have n1_ := Aside0.mk (below_step (by repeat (first | (with_reducible first | exact HB.out | apply below_alloc | apply pw_below_drewN | apply below_drew1) | exact HB.out)) hb); clear HB; have HO205 := n0_; have HB := n1_; clear n0_ n1_; clear hb ho6; have hcv7 := own_string (P := Tryd.prog) Tryd.underlying127 Tryd.underlying5 Tryd.underlying9 (Kd.own_of_R HO205.out)))
          go_roundg k1
          case measure => have := HK1.out; omega
          case rel => exact ⟨(IntKind.u64.wrap (Int.tdiv x0_1 16)), ((strOfNums y203) ++ x3_1), (wrap64 (x4_1 + 1)), (by first | rfl | (simp; done) | (simp [*]; done)), (by first | rfl | (simp; done) | (simp [*]; done)), (by first | rfl | (simp; done) | (simp [*]; done)), H', ⟨by have := HK1.out; omega⟩, ⟨by repeat (first | (with_reducible first | exact HB.out | apply below_alloc | apply pw_below_drewN | apply below_drew1) | exact HB.out)⟩⟩
        · rw [if_neg c4] at H
          exact absurd H (by simp)
      · rw [if_neg c2] at H
        have c2b0 : decide (x4_1 < 16) = false := decide_eq_false c2
        clear c2
        obtain rfl := Option.some.inj H
        go_wp2
        go_ret
        exact ⟨by first | rfl | (simp [errW_none, errW_some] <;> rfl) | (simp [*, errW_none, errW_some] <;> rfl), by repeat (first | (with_reducible first | exact HB.out | apply below_alloc | apply pw_below_drewN | apply below_drew1) | exact HB.out)⟩

end Go.Proofs.YtfgfoofojofnmaaDoor.Q
