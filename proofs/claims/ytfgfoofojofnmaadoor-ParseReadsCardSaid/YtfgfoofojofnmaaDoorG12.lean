/- The document's small functions, by the abstract machine. -/
import Derived.Test.YtfgfoofojofnmaaDoorGVTT
import Derived.Test.YtfgfoofojofnmaaDoorG11
set_option linter.unusedVariables false
set_option linter.unusedSimpArgs false
namespace Go.Proofs.YtfgfoofojofnmaaDoor.V
open Go.VM
open Go.Proofs.YtfgfoofojofnmaaDoor.Q Go.Proofs.YtfgfoofojofnmaaDoor.Hand
def E0 (n : Nat) : Env := ⟨tt, [], [], n⟩
theorem F0 {P : Program} (n : Nat) : FnsOk P (E0 n) := fun _ _ h => by cases h
def rowC {α : Type} (enc : α → Nat → D) (z : α) (l : List α) : Nat → Nat → D := fun i j => enc (l.getD i z) j
def encW (x : S104) : Nat → D
  | 0 => .a (.int .i64 x.f0)
  | 1 => .a (.int .i64 x.f1)
  | 2 => .a (.string x.f2)
  | 3 => .a (.bool x.f3)
  | 4 => .a (.int .i64 x.f4)
  | _ => default
set_option maxRecDepth 100000 in
theorem level_v (op : Int) : VSpec Tryd.prog 59 [av (.int .i64 op)] (av (.int .i64 (levelT op))) := by
  refine LSpec.intro (E := E0 Tryd.f59.ntmps) tt_ok (F0 _) mixed Tryd.func59 rfl rfl ?_
  repeat' (refine Br.mk (fun h => ?_) (fun h => ?_))
  all_goals refine congrArg (fun n => av (.int .i64 n)) ?_
  all_goals simp_all [levelT]
set_option maxRecDepth 100000 in
theorem op_v (s : ByteArray) : VSpec Tryd.prog 58 [av (.string s)] (av (.int .i64 (Mc.opT s.toList))) := by
  refine LSpec.intro (E := E0 Tryd.f58.ntmps) tt_ok (F0 _) mixed Tryd.func58 rfl rfl ?_
  repeat' (refine Br.mk (fun h => ?_) (fun h => ?_))
  all_goals refine congrArg (fun n => av (.int .i64 n)) ?_
  all_goals trace_state
  all_goals simp_all [Mc.opT]
end Go.Proofs.YtfgfoofojofnmaaDoor.V
