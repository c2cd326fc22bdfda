-- Written by a program of this session's (wip/tools/hprint.py, over the kit's print.py). Not trusted: Lean checks it.
import Derived.Test.YtfgfoofojofnmaaDoorQ0
import Derived.Test.YtfgfoofojofnmaaDoorP6
namespace Go.Proofs.YtfgfoofojofnmaaDoor.Q
open Go.RowKit Go.Proofs.YtfgfoofojofnmaaDoorW.PrintWords Go.Proofs.YtfgfoofojofnmaaDoorW.PrintLast Go.Proofs.YtfgfoofojofnmaaDoorW.PrintMore
attribute [local go_sem] Go.Proofs.YtfgfoofojofnmaaDoor.Hand.w64_mod256 Go.Proofs.YtfgfoofojofnmaaDoor.Hand.w64_mod32 max2_int min2_int max_two min_two max_three min_three max_four min_four   -- for this text's walks alone
set_option linter.unusedVariables false
set_option linter.unusedSimpArgs false

/-! ### check_faceOf: function 52 -/
def check_faceOf.f (a0 : ByteArray) : Option (Int × Int × List Int × Int × Bool) := some (faceC (nameC a0.toList))
theorem check_faceOf.calls (a0 : ByteArray) (r1 : Int) (r2 : Int) (r3 : List Int) (r4 : Int) (r5 : Bool) (w : World) (h : check_faceOf.f a0 = some (r1, r2, r3, r4, r5)) :
    Calls Tryd.prog 52 #[.string a0] w fun e w' => ∃ v2_ : Value, e = .returned (.tuple #[.agg #[.int .i64 r1, .int .i64 r2, v2_, .int .i64 r4], .bool r5]) ∧ Kd.R (Kd.int .i64) 47 w' w.heap.size (fun _ => True) v2_ r3 ∧ Below w.heap.size w w' := by
  have e := Option.some.inj h
  have := face_any a0 w
  unfold FaceP at this
  rw [e] at this
  exact this

end Go.Proofs.YtfgfoofojofnmaaDoor.Q
