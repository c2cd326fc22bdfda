/- awake: it answers true. -/
import Derived.Test.YtanfllomeheiiaaGreatDoorXA12
import Derived.Test.YtanfllomeheiiaaGreatDoorXQK
import Derived.Test.YtanfllomeheiiaaGreatDoorXRC
set_option linter.unusedVariables false
set_option linter.unusedSimpArgs false
namespace Go.Proofs.YtanfllomeheiiaaGreatDoor.X
open Go.XM
def ExtOk (P : Program) (l : List (Nat × Summ)) : Prop := ∀ g s, get l g = some s → SummOk P g s
theorem ExtOk.nil {P : Program} : ExtOk P [] := fun _ _ h => by cases h
theorem ExtOk.cons {P : Program} {n : Nat} {s : Summ} {l : List (Nat × Summ)} (h : SummOk P n s) (hl : ExtOk P l) : ExtOk P ((n, s) :: l) := fun g s' e => by
  rw [get_cons] at e
  by_cases hg : n = g
  · rw [if_pos hg] at e; injection e with e; subst e; subst hg; exact h
  · rw [if_neg hg] at e; exact hl g s' e
theorem allc {p : Rc → Prop} {a : Rc} {l : List Rc} (h : p a) (hl : ∀ c ∈ l, p c) : ∀ c ∈ a :: l, p c := List.forall_mem_cons.2 ⟨h, hl⟩
theorem all0 {p : Rc → Prop} : ∀ c ∈ ([] : List Rc), p c := fun _ h => by cases h
theorem is187 : FnIs Tryz.prog 187 := ⟨_, Tryz.func187, by kernel_rfl, by kernel_rfl⟩
theorem is4 : FnIs Tryz.prog 4 := ⟨_, Tryz.func4, by kernel_rfl, by kernel_rfl⟩
theorem s208 : SummOk Tryz.prog 208 sNoZero := sNoZero_ok (fn := Tryz.f208) (t := 36) (e := 5) Tryz.func208 (by kernel_rfl) (by kernel_rfl) (by kernel_rfl) (by kernel_rfl) (by kernel_rfl) (by kernel_rfl)
theorem s225 : SummOk Tryz.prog 225 sIdx := sIdx_ok (fn := Tryz.f225) Tryz.func225 (by kernel_rfl) (by kernel_rfl) (by kernel_rfl) (by kernel_rfl)
theorem ext0_ok : ExtOk Tryz.prog ext0 := .cons (sSorted1_ok is187 Tryz.sorts1) (.cons s208 (.cons s225 .nil))
theorem s41 : SummOk Tryz.prog 41 (sRec rs41) := rec_ok (SS_ok ext0_ok (by kernel_rfl)) (allc ok3 (allc ok4 (allc ok5 (allc ok6 (allc ok7 (allc ok8 (allc ok9 all0)))))))
theorem s109 : SummOk Tryz.prog 109 (sRec rs109) := rec_ok (SS_ok ext0_ok (by kernel_rfl)) (allc ok1 (allc ok10 all0))
theorem s110 : SummOk Tryz.prog 110 (sRec rs110) := rec_ok (SS_ok ext0_ok (by kernel_rfl)) (allc ok2 (allc ok11 all0))
theorem ext1_ok : ExtOk Tryz.prog ext1 := .cons s41 (.cons s109 (.cons s110 ext0_ok))
theorem awake_is : VSpec Tryz.prog 4 [] (av (.bool true)) := closed is4 (SS_ok ext1_ok (by kernel_rfl)) ok12 rfl rfl rfl
end Go.Proofs.YtanfllomeheiiaaGreatDoor.X
