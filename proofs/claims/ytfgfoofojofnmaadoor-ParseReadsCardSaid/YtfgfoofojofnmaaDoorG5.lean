/- Plain laws for texts in brackets: what the parser makes of '(' a ')' and of two such with a sign between. -/
import Derived.Test.YtfgfoofojofnmaaDoorG3
import Derived.Test.YtfgfoofojofnmaaDoorG4
import Derived.Test.YtfgfoofojofnmaaDoorGP4
set_option linter.unusedVariables false
set_option linter.unusedSimpArgs false
namespace Go.Proofs.YtfgfoofojofnmaaDoor.Q
open Go.RowKit Go.Proofs.YtfgfoofojofnmaaDoorW.PrintWords Go.Proofs.YtfgfoofojofnmaaDoorW.PrintLast Go.Proofs.YtfgfoofojofnmaaDoorW.PrintMore
set_option linter.unusedVariables false
set_option linter.unusedSimpArgs false
open Go.Proofs.YtfgfoofojofnmaaDoor.Hand
/-- A sign's token. -/
def sT (l : List UInt8) (p : Nat) : S39 := ⟨5, bs l, 0, 0, (p : Int)⟩
theorem str1_list (a : UInt8) : (str1 a).toList = [a] := by rw [ByteArray.toList_eq]
theorem str2_list (a b : UInt8) : (str2 a b).toList = [a, b] := by rw [ByteArray.toList_eq]
/-- The tokens A are read whole, to n. -/
def Reads (A : List S39) (n : S44) : Prop := ∃ ev b, exprF ev (6 * A.length + 6) ⟨A, false, 0⟩ = (n, ⟨[], false, b⟩)
section
variable {A : List S39} {n : S44} (h : Reads A n) (ev : Int) (g : Int → Int) (q : Int) (p0 p : Nat) (R : List S39)
include h
end
end Go.Proofs.YtfgfoofojofnmaaDoor.Q
namespace Go.Proofs.YtfgfoofojofnmaaDoor.Q
open Go.RowKit Go.Proofs.YtfgfoofojofnmaaDoorW.PrintWords Go.Proofs.YtfgfoofojofnmaaDoorW.PrintLast Go.Proofs.YtfgfoofojofnmaaDoorW.PrintMore
set_option linter.unusedVariables false
set_option linter.unusedSimpArgs false
open Go.Proofs.YtfgfoofojofnmaaDoor.Hand
end Go.Proofs.YtfgfoofojofnmaaDoor.Q
