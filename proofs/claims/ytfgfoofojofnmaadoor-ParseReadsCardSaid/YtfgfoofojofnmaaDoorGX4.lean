/- From a row's list of variables to the table of powers of ten. -/
import Derived.Lib.LaidTab
import Derived.KernelRfl
import Derived.Test.YtfgfoofojofnmaaDoorGX2
set_option linter.unusedVariables false
set_option linter.unusedSimpArgs false
namespace Go.Proofs.YtfgfoofojofnmaaDoor.Q
open Go.RowKit
theorem table_at {W : World} {x1 x2 : String × DataW Unit} {rest : List (String × DataW Unit)} (h : laidMet Tryd.prog (x1 :: x2 :: ("internal/strconv.uint64pow10", Lib.tabData .u64 Lib.pow10Tab) :: rest) W) : GW W := by
  obtain ⟨_, hv, _⟩ := h
  obtain ⟨_, _, _, _, _, _, _, _, _, _, hv, _⟩ := hv
  obtain ⟨_, _, _, _, _, _, _, _, _, _, hv, _⟩ := hv
  obtain ⟨g, t, cs, fuel, p, q, h1, h2, h3, h4, _, _⟩ := hv
  obtain rfl : g = 3 := Option.some.inj (h1.symm.trans (by kernel_rfl))
  obtain rfl : t = 178 := Option.some.inj (h2.symm.trans (by kernel_rfl))
  have e := Lib.cells_of_tab (P := Tryd.prog) (t := 178) (e := 36) (n := 20) (by kernel_rfl) (by kernel_rfl) (by kernel_rfl) (by kernel_rfl) h4
  unfold GW Lib.TabIs
  rw [h3, ← e]
end Go.Proofs.YtfgfoofojofnmaaDoor.Q
