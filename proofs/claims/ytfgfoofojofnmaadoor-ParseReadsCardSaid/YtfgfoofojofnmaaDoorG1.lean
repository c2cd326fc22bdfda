/- Small laws on wraps that the walks of the printed texts want. -/
import Derived.WalkKit
set_option linter.unusedVariables false
set_option linter.unusedSimpArgs false
namespace Go.Proofs.YtfgfoofojofnmaaDoor.Hand
open Go.RowKit
theorem w64_mod256 (x : Int) : wrap64 (x % 256) = x % 256 := by unfold wrap64; omega
theorem w64_mod32 (x : Int) : wrap64 (x % 4294967296) = x % 4294967296 := by unfold wrap64; omega
end Go.Proofs.YtfgfoofojofnmaaDoor.Hand
