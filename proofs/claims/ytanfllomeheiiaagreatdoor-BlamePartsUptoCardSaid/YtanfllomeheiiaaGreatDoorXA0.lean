/- The functions that are known ahead of all; what the executor makes of the others. -/
import Derived.Test.YtanfllomeheiiaaGreatDoorXRC
import Derived.Test.YtanfllomeheiiaaGreatDoorXQS
import Derived.Test.YtanfllomeheiiaaGreatDoorXTO
set_option linter.unusedVariables false
set_option linter.unusedSimpArgs false
namespace Go.Proofs.YtanfllomeheiiaaGreatDoor.X
open Go.XM
abbrev Iu64 (n : Int) : AV := av (.int .u64 n)
abbrev Iu32 (n : Int) : AV := av (.int .u32 n)
abbrev Ii64 (n : Int) : AV := av (.int .i64 n)
abbrev Ii32 (n : Int) : AV := av (.int .i32 n)
abbrev Iu8 (n : Int) : AV := av (.int .u8 n)
abbrev Bt : AV := av (.bool true)
abbrev Bf : AV := av (.bool false)
abbrev Ni : AV := av (.slice none 0 0)
def bys : List Nat → List UInt8
  | [] => []
  | n :: l => n.toUInt8 :: bys l
abbrev St (l : List Nat) : AV := av (.string ⟨⟨bys l⟩⟩)
def By : List Nat → List AV
  | [] => []
  | n :: l => av (.int .u8 (Int.ofNat n)) :: By l
noncomputable def SS (ext : Nat → Option Summ) (g : Nat) : Summ := match sumX (Tr.fn 10 ttx) ext (Tr.fn 10 tab) 1000 60 g with
  | some s => s
  | none => fun _ _ => .fail 4000
theorem SS_ok {ext : Nat → Option Summ} {g : Nat} (hext : ∀ g s, ext g = some s → SummOk Tryz.prog g s) (h : (sumX (Tr.fn 10 ttx) ext (Tr.fn 10 tab) 1000 60 g).isSome = true) : SummOk Tryz.prog g (SS ext g) := by
  unfold SS
  cases e : sumX (Tr.fn 10 ttx) ext (Tr.fn 10 tab) 1000 60 g with
  | none => rw [e] at h; cases h
  | some s => exact sumX_ok ttx_ok mixed hext tab_ok 60 g s e
noncomputable def ext0 : List (Nat × Summ) := [(187, sSorted1 240), (208, sNoZero), (225, sIdx)]
end Go.Proofs.YtanfllomeheiiaaGreatDoor.X
