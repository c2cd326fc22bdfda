/- A call of function 4, as the executor finds it. -/
import Derived.Test.YtanfllomeheiiaaGreatDoorXA0
import Derived.Test.YtanfllomeheiiaaGreatDoorXA4
import Derived.Test.YtanfllomeheiiaaGreatDoorXA5
import Derived.Test.YtanfllomeheiiaaGreatDoorXA6
import Derived.Test.YtanfllomeheiiaaGreatDoorXA7
import Derived.Test.YtanfllomeheiiaaGreatDoorXA8
import Derived.Test.YtanfllomeheiiaaGreatDoorXA9
import Derived.Test.YtanfllomeheiiaaGreatDoorXA10
import Derived.Test.YtanfllomeheiiaaGreatDoorXA11
set_option linter.unusedVariables false
set_option linter.unusedSimpArgs false
namespace Go.Proofs.YtanfllomeheiiaaGreatDoor.X
open Go.XM
def rc12 : Rc := ⟨[], 0,
 [],
 Bt,
 [],
 1940,
 []⟩
def rs41 : List Rc := [rc3, rc4, rc5, rc6, rc7, rc8, rc9]
def rs109 : List Rc := [rc1, rc10]
def rs110 : List Rc := [rc2, rc11]
noncomputable def ext1 : List (Nat × Summ) := (41, sRec rs41) :: (109, sRec rs109) :: (110, sRec rs110) :: ext0
set_option maxRecDepth 1000000 in
theorem ok12 : okRc (SS (get ext1) 4) rc12 = true := by kernel_rfl
end Go.Proofs.YtanfllomeheiiaaGreatDoor.X
