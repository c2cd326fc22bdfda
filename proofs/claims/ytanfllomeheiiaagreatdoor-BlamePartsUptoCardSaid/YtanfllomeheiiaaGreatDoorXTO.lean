/- The tables are the program's. -/
import Derived.Test.YtanfllomeheiiaaGreatDoorXTB
import Derived.Test.YtanfllomeheiiaaGreatDoorXY
set_option linter.unusedVariables false
set_option linter.unusedSimpArgs false
namespace Go.Proofs.YtanfllomeheiiaaGreatDoor.X
open Go.XM
theorem fn_lt {β : Type} {d n : Nat} {t : Tr β} {x : β} (h : Tr.fn d t n = some x) : n < 2 ^ d := by
  unfold Tr.fn at h
  cases e : Nat.blt n (Nat.pow 2 d) with
  | false => rw [e] at h; cases h
  | true => simpa [Nat.blt_eq] using e
theorem at_range {β : Type} {f g : Nat → β} {m n : Nat} (h : (List.range m).map f = (List.range m).map g) (hn : n < m) : f n = g n := List.map_inj_left.1 h n (List.mem_range.2 hn)
theorem tt0 : (List.range 1024).map (fun n => (Tr.fn 10 ttx n).bind fun _ => tyOf Tryz.prog n) = (List.range 1024).map (Tr.fn 10 ttx) := by kernel_rfl
set_option maxRecDepth 100000 in
theorem ttx_ok : TyOk Tryz.prog (Tr.fn 10 ttx) := fun t d h => by
  have e : (Tr.fn 10 ttx t).bind (fun _ => tyOf Tryz.prog t) = Tr.fn 10 ttx t := at_range (f := fun n => (Tr.fn 10 ttx n).bind fun _ => tyOf Tryz.prog n) (g := Tr.fn 10 ttx) (m := 1024) tt0 (Nat.lt_of_lt_of_le (fn_lt h) (by decide))
  rw [h] at e
  exact e
theorem tb0 : (List.range 1024).map (fun n => (Tr.fn 10 tab n).bind fun _ => Tryz.prog.funcs[n]?) = (List.range 1024).map (Tr.fn 10 tab) := by kernel_rfl
theorem tb1 : (List.range 1024).map (fun n => (Tr.fn 10 tab n).map fun f => f.name == "runtime.NumGoroutine") = (List.range 1024).map (fun n => (Tr.fn 10 tab n).map fun _ => false) := by kernel_rfl
set_option maxRecDepth 100000 in
theorem tab_ok : ∀ g fn, Tr.fn 10 tab g = some fn → Tryz.prog.funcs[g]? = some fn ∧ (fn.name == "runtime.NumGoroutine") = false := fun g fn h => by
  have hlt : g < 1024 := Nat.lt_of_lt_of_le (fn_lt h) (by decide)
  have h1 : (Tr.fn 10 tab g).bind (fun _ => Tryz.prog.funcs[g]?) = Tr.fn 10 tab g := at_range (f := fun n => (Tr.fn 10 tab n).bind fun _ => Tryz.prog.funcs[n]?) (g := Tr.fn 10 tab) (m := 1024) tb0 hlt
  have h2 : (Tr.fn 10 tab g).map (fun f => f.name == "runtime.NumGoroutine") = (Tr.fn 10 tab g).map fun _ => false := at_range (f := fun n => (Tr.fn 10 tab n).map fun f => f.name == "runtime.NumGoroutine") (g := fun n => (Tr.fn 10 tab n).map fun _ => false) (m := 1024) tb1 hlt
  rw [h] at h1 h2
  rw [Option.map_some, Option.map_some] at h2
  exact ⟨h1, Option.some.inj h2⟩
theorem mixed : Tryz.prog.follows .mixedOrders = true := by kernel_rfl
end Go.Proofs.YtanfllomeheiiaaGreatDoor.X
