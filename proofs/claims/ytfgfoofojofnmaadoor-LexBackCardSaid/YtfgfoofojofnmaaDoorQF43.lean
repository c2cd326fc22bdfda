-- Written by a program of this session's (wip/tools/hprint.py, over the kit's print.py). Not trusted: Lean checks it.
import Derived.Test.YtfgfoofojofnmaaDoorQ0
namespace Go.Proofs.YtfgfoofojofnmaaDoor.Q
open Go.RowKit Go.Proofs.YtfgfoofojofnmaaDoorW.PrintWords Go.Proofs.YtfgfoofojofnmaaDoorW.PrintLast Go.Proofs.YtfgfoofojofnmaaDoorW.PrintMore
attribute [local go_sem] Go.Proofs.YtfgfoofojofnmaaDoor.Hand.w64_mod256 Go.Proofs.YtfgfoofojofnmaaDoor.Hand.w64_mod32 max2_int min2_int max_two min_two max_three min_three max_four min_four   -- for this text's walks alone
set_option linter.unusedVariables false
set_option linter.unusedSimpArgs false

/-! ### strconv_Itoa_43: function 43 -/
/-- (of numbers below 100: this law asks for no other) -/
def strconv_Itoa_43.f (a0 : Int) : Option ByteArray := if 0 ≤ a0 ∧ a0 < 100 then some ⟨(Lib.decDigits a0.toNat).toArray⟩ else none
theorem strconv_Itoa_43.calls (a0 : Int) (r : ByteArray) (w : World) (h : strconv_Itoa_43.f a0 = some r) :
    Calls Tryd.prog 43 #[.int .i64 a0] w fun e w' => e = .returned (.string r) ∧ Drawn0 w w' := by
  unfold strconv_Itoa_43.f at h
  by_cases hb : 0 ≤ a0 ∧ a0 < 100
  · rw [if_pos hb] at h
    obtain rfl := Option.some.inj h
    have e1 : ((a0.toNat : Nat) : Int) = a0 := Int.toNat_of_nonneg hb.1
    have C := Tryd.strconv_Itoa_small a0.toNat (by omega) w
    rw [e1] at C
    refine C.mono ?_
    rintro e w' ⟨rfl, rfl⟩
    exact ⟨rfl, Drawn0.refl _⟩
  · rw [if_neg hb] at h
    exact absurd h (by simp)

end Go.Proofs.YtfgfoofojofnmaaDoor.Q
