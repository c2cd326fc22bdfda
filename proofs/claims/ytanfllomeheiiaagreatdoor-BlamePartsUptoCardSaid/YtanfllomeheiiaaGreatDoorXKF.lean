/- The closed facts of the row, put together. -/
import Derived.Test.YtanfllomeheiiaaGreatDoorXKinPlace
import Derived.Test.YtanfllomeheiiaaGreatDoorXKunfollowed
import Derived.Test.YtanfllomeheiiaaGreatDoorXKrecurses
import Derived.Test.YtanfllomeheiiaaGreatDoorXKnamed
set_option linter.unusedVariables false
set_option linter.unusedSimpArgs false
namespace Go.Proofs.YtanfllomeheiiaaGreatDoor.X
theorem and2 {a b : Bool} (ha : a = true) (hb : b = true) : (a && b) = true := by rw [ha, hb]; rfl
theorem facts : joinedFacts Tryz.pinned.checked.prog 3 Tryz.f3 (Rows.OpenSpec.upto Rows.blamePartsSpec).bare Rows.blamePartsUptoRow = true := by
  unfold joinedFacts
  repeat' (with_reducible refine and2 ?_ ?_)
  all_goals first
    | with_reducible exact f_inPlace
    | with_reducible exact f_unfollowed
    | with_reducible exact f_recurses
    | with_reducible exact f_named
    | kernel_rfl
end Go.Proofs.YtanfllomeheiiaaGreatDoor.X
