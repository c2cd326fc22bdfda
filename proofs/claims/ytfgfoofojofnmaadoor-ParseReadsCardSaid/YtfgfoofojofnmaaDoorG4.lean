/- Plain laws for the cutting of a text that is put together: ahead of a byte that no name goes on with, the tokens are those that there were. -/
import Derived.Test.YtfgfoofojofnmaaDoorGL1
set_option linter.unusedVariables false
set_option linter.unusedSimpArgs false
namespace Go.Proofs.YtfgfoofojofnmaaDoor.Q
open Go.RowKit Go.Proofs.YtfgfoofojofnmaaDoorW.PrintWords Go.Proofs.YtfgfoofojofnmaaDoorW.PrintLast Go.Proofs.YtfgfoofojofnmaaDoorW.PrintMore
open Go.Proofs.YtfgfoofojofnmaaDoor.Hand
set_option linter.unusedVariables false
set_option linter.unusedSimpArgs false
attribute [local irreducible] oneT nOf
end Go.Proofs.YtfgfoofojofnmaaDoor.Q
