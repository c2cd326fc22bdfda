/- Every text is cut into just the document's tokens, or refused where it must be: the plain law, and the walk of the statement out of it. -/
import Derived.Test.YtfgfoofojofnmaaDoorL2
import Derived.Test.YtfgfoofojofnmaaDoorQF3
namespace Go.Proofs.YtfgfoofojofnmaaDoor.Q
open Go.RowKit Go.Proofs.YtfgfoofojofnmaaDoorW.PrintWords Go.Proofs.YtfgfoofojofnmaaDoorW.PrintLast Go.Proofs.YtfgfoofojofnmaaDoorW.PrintMore
open Go.Proofs.YtfgfoofojofnmaaDoor.Hand
set_option linter.unusedVariables false
theorem lexScans_some (l : List S39) (p c : Int) (hl : l.length ≤ 1024) :
    ((forebearlaw22_Tokens.f 2000 l).bind fun t192 => ((forebearref22_Same.f t192 (l.map cv) true).bind fun t195 => (if t195 = true then (if p = p then (some (c == c)) else (some false)) else (some false)))) = some true := by
  rw [tokens_eq l (by omega) 2000 (by omega), Option.bind_some, forebearref22_Same.f, if_pos (by rw [List.length_map]; omega), Option.bind_some, sameL_refl, if_pos rfl, if_pos rfl, beq_self_eq_true]
theorem lexScans_pure (a0 : ByteArray) : forebearlaw22_LexScans.f 2000 a0 = some true := by
  unfold forebearlaw22_LexScans.f
  rw [awake_more 2000 (by decide), Option.bind_some, if_pos rfl]
  by_cases h : a0.size ≤ 1024
  · have hl := scanT_len a0.size a0.data.toList 0 [] (by simp) (by simp)
    have e : a0.data.toList.length = a0.size := by simp
    rw [lex_Scan.f, if_pos h, Option.bind_some, forebearref22_Scan.f, if_pos h, Option.bind_some]
    exact lexScans_some _ _ _ (by omega)
  · rw [lex_Scan.f, if_neg h, Option.bind_some, forebearref22_Scan.f, if_neg h, Option.bind_some]
    exact lexScans_some [] 0 4 (by simp)
theorem lexScans_walk (a0 : ByteArray) (w : World) (w0 : a0.size ≤ 140737488351232) :
    Calls Tryd.prog 3 #[.string a0] w fun e w' => e = .returned (.bool true) ∧ Below w.heap.size w w' :=
  forebearlaw22_LexScans.calls 2000 a0 true w (lexScans_pure a0)
end Go.Proofs.YtfgfoofojofnmaaDoor.Q
