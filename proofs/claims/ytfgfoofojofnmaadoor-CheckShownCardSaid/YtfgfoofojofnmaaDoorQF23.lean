-- Written by a program of this session's (wip/tools/hprint.py, over the kit's print.py). Not trusted: Lean checks it.
import Derived.Test.YtfgfoofojofnmaaDoorQ0
import Derived.Test.YtfgfoofojofnmaaDoorP7
namespace Go.Proofs.YtfgfoofojofnmaaDoor.Q
open Go.RowKit Go.Proofs.YtfgfoofojofnmaaDoorW.PrintWords Go.Proofs.YtfgfoofojofnmaaDoorW.PrintLast Go.Proofs.YtfgfoofojofnmaaDoorW.PrintMore
attribute [local go_sem] Go.Proofs.YtfgfoofojofnmaaDoor.Hand.w64_mod256 Go.Proofs.YtfgfoofojofnmaaDoor.Hand.w64_mod32 max2_int min2_int max_two min_two max_three min_three max_four min_four   -- for this text's walks alone
set_option linter.unusedVariables false
set_option linter.unusedSimpArgs false

/-! ### check_Check: function 23 -/
def check_Check.f (a : Int) (b : ByteArray) (c d : Int) (l : List (S44)) (e : Int) : Option (Int × Int × Int) := if wt ⟨a, b, c, d, l, e⟩ ≤ 1000000 then some (checkT ⟨a, b, c, d, l, e⟩) else none
theorem check_Check.calls (a0_0 : Int) (a0_1 : ByteArray) (a0_2 : Int) (a0_3 : Int) (A0_4 : Option Addr) (c0_4 : Nat) (l0_4 : List (S44)) (a0_5 : Int) (r1 : Int) (r2 : Int) (r3 : Int) (w : World) (hr0_4 : Kd.C k44 w A0_4 l0_4.length l0_4) (hc0_4 : l0_4.length ≤ c0_4) (h : check_Check.f a0_0 a0_1 a0_2 a0_3 l0_4 a0_5 = some (r1, r2, r3)) :
    Calls Tryd.prog 23 #[.agg #[.int .i64 a0_0, .string a0_1, .int .i64 a0_2, .int .u64 a0_3, .slice A0_4 l0_4.length c0_4, .int .i64 a0_5]] w fun e w' => e = .returned (.tuple #[.int .i64 r1, .int .i64 r2, .int .i64 r3]) ∧ Below w.heap.size w w' := by
  unfold check_Check.f at h
  by_cases hw : wt ⟨a0_0, a0_1, a0_2, a0_3, l0_4, a0_5⟩ ≤ 1000000
  · rw [if_pos hw] at h
    have e := Option.some.inj h
    have := check_walk _ ⟨a0_0, a0_1, a0_2, a0_3, l0_4, a0_5⟩ A0_4 c0_4 w (Nat.le_refl _) hw hr0_4 hc0_4
    rw [e] at this
    exact this
  · rw [if_neg hw] at h
    exact absurd h (by simp)

end Go.Proofs.YtfgfoofojofnmaaDoor.Q
