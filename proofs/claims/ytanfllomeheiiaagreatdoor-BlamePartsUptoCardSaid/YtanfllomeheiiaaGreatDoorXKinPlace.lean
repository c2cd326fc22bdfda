/- A closed fact of the row. -/
import Derived.Test.YtanfllomeheiiaaGreatDoorCards
import Derived.WalkKit
import Derived.Stop.Joined
set_option linter.unusedVariables false
set_option linter.unusedSimpArgs false
namespace Go.Proofs.YtanfllomeheiiaaGreatDoor.X
theorem f_inPlace : (Rows.blamePartsUptoRow.inPlace == Tryz.pinned.checked.prog.inPlace 3) = true := by kernel_rfl
end Go.Proofs.YtanfllomeheiiaaGreatDoor.X
