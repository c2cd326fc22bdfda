/- What every expression comes to, or where it can't be, is told as the document says: the plain law, and the walk of the statement out of it. -/
import Derived.Test.YtfgfoofojofnmaaDoorC1
import Derived.Test.YtfgfoofojofnmaaDoorQF6
namespace Go.Proofs.YtfgfoofojofnmaaDoor.Q
open Go.RowKit Go.Proofs.YtfgfoofojofnmaaDoorW.PrintWords Go.Proofs.YtfgfoofojofnmaaDoorW.PrintLast Go.Proofs.YtfgfoofojofnmaaDoorW.PrintMore
open Go.Proofs.YtfgfoofojofnmaaDoor.Hand
set_option linter.unusedVariables false
set_option maxRecDepth 100000 in
theorem awake24_true : forebearlaw24_awake.f = some true := by decide +kernel
theorem check_eq (x : S44) (h : wt x ≤ 1000000) : check_Check.f x.f0 x.f1 x.f2 x.f3 x.f4 x.f5 = some (checkT x) := by
  obtain ⟨a, b, c, d, l, e⟩ := x
  unfold check_Check.f
  exact if_pos h
theorem checkTells_pure (a0 : ByteArray) : forebearlaw24_CheckTells.f 20000 a0 = some true := by
  have hw := parse_wt a0
  have h1 := check_eq (parseT a0).1 (by omega)
  have h2 := node_f (wt (parseT a0).1) 20000 (parseT a0).1 (Nat.le_refl _) (by omega) (by omega)
  have h3 := ref_f (wt (parseT a0).1) 20000 (parseT a0).1 (Nat.le_refl _) (parse_fit a0) (by omega) (by omega)
  unfold forebearlaw24_CheckTells.f
  rw [awake24_true, Option.bind_some, if_pos rfl, parse_Parse.f, Option.bind_some]
  simp only
  by_cases hc : (parseT a0).2.2 = 0
  · rw [if_pos hc, h1, Option.bind_some, h2, Option.bind_some]
    simp only
    rw [h3, Option.bind_some, if_pos rfl, if_pos rfl, beq_self_eq_true]
  · rw [if_neg hc]
theorem checkTells_walk (a0 : ByteArray) (w : World) (w0 : a0.size ≤ 140737488351232) :
    Calls Tryd.prog 6 #[.string a0] w fun e w' => e = .returned (.bool true) ∧ Below w.heap.size w w' :=
  forebearlaw24_CheckTells.calls 20000 a0 true w (checkTells_pure a0)
end Go.Proofs.YtfgfoofojofnmaaDoor.Q
