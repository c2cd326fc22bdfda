/- A call of function 109, as the executor finds it. -/
import Derived.Test.YtanfllomeheiiaaGreatDoorXA0
set_option linter.unusedVariables false
set_option linter.unusedSimpArgs false
namespace Go.Proofs.YtanfllomeheiiaaGreatDoor.X
open Go.XM
def rc1 : Rc := ⟨[.pc 26 0], 27,
 [(25, .map [] 0),
  (26, .cells [.mp 25, Ii64 0, Bf, Ii64 0, Ii64 0, Bf])],
 .tup [.pc 32 0, Ii64 0],
 [],
 6,
 [(27, .map [] 0),
  (28, .map [] 0),
  (29, .map [] 0),
  (30, .map [] 0),
  (31, .map [] 0),
  (32, .cells [.pc 26 0, .mp 27, .mp 28, .mp 29, .mp 30, .mp 31])]⟩
theorem ok1 : okRc (SS (get ext0) 109) rc1 = true := by kernel_rfl
end Go.Proofs.YtanfllomeheiiaaGreatDoor.X
namespace Go.Proofs.YtanfllomeheiiaaGreatDoor.X
open Go.XM
def rc2 : Rc := ⟨[.agg [Ni, Ii64 0, Bf, Bf, Ii64 0, Ii64 0]], 33,
 [],
 .tup [.agg [Ni, Ii64 0, Bf, Bf, Ii64 0, Ii64 0, Ni, Ni, Ni], Ii64 0],
 [],
 5,
 []⟩
theorem ok2 : okRc (SS (get ext0) 110) rc2 = true := by kernel_rfl
end Go.Proofs.YtanfllomeheiiaaGreatDoor.X
namespace Go.Proofs.YtanfllomeheiiaaGreatDoor.X
open Go.XM
def rc3 : Rc := ⟨[.agg [.pc 26 0, .pc 32 0, Ni, Ii64 0, Bf, Bf, Ii64 0, Ii64 0, Ni, Ni, Ni, Ni, Ni, Ni], .agg [Ii64 0, .ra 1 0 4, Ni, Ni, St [], Ii64 0, Ii64 0]], 52,
 [(1, .rowA 4 1 (By [97,10,98,10])),
  (25, .map [] 0),
  (26, .cells [.mp 25, Ii64 0, Bf, Ii64 0, Ii64 0, Bf]),
  (27, .map [] 0),
  (32, .cells [.pc 26 0, .mp 27, .mp 28, .mp 29, .mp 30, .mp 31])],
 .tup [.agg [.pc 26 0, .pc 32 0, .ra 116 0 1, Ii64 1, Bf, Bf, Ii64 0, Ii64 0, .ra 125 0 1, Ni, Ni, .ra 127 0 1, Ni, Ni], Bt],
 [(25, .map [(.string ⟨#[111,98,106,101,99,116,115]⟩, 0, .ra 79 0 13)] 1),
  (26, .cells [.mp 25, Ii64 1, Bf, Ii64 0, Ii64 0, Bf]),
  (27, .map [(.agg #[.int .i64 1, .int .u64 12436098566958161327], 0, .ra 60 0 4)] 1)],
 76,
 [(60, .rowA 4 1 (By [97,10,98,10])),
  (79, .rowA 13 1 (By [0,0,0,4,1,97,10,98,10,121,235,138,131])),
  (116, .rowA 1 2 [St [111,98,106,101,99,116,115], St [0,0,0,4,1,97,10,98,10,121,235,138,131]]),
  (125, .rowA 1 3 [Ii64 1, Iu64 12436098566958161327, St [97,10,98,10]]),
  (127, .rowA 1 1 [Iu64 12436098566958161327])]⟩
theorem ok3 : okRc (SS (get ext0) 41) rc3 = true := by kernel_rfl
end Go.Proofs.YtanfllomeheiiaaGreatDoor.X
namespace Go.Proofs.YtanfllomeheiiaaGreatDoor.X
open Go.XM
def rc4 : Rc := ⟨[.agg [.pc 26 0, .pc 32 0, .ra 116 0 1, Ii64 1, Bf, Bf, Ii64 0, Ii64 0, .ra 125 0 1, Ni, Ni, .ra 127 0 1, Ni, Ni], .agg [Ii64 0, .ra 3 0 6, Ni, Ni, St [], Ii64 0, Ii64 0]], 135,
 [(3, .rowA 6 1 (By [97,10,99,10,98,10])),
  (25, .map [(.string ⟨#[111,98,106,101,99,116,115]⟩, 0, .ra 79 0 13)] 1),
  (26, .cells [.mp 25, Ii64 1, Bf, Ii64 0, Ii64 0, Bf]),
  (27, .map [(.agg #[.int .i64 1, .int .u64 12436098566958161327], 0, .ra 60 0 4)] 1),
  (32, .cells [.pc 26 0, .mp 27, .mp 28, .mp 29, .mp 30, .mp 31]),
  (79, .rowA 13 1 (By [0,0,0,4,1,97,10,98,10,121,235,138,131])),
  (116, .rowA 1 2 [St [111,98,106,101,99,116,115], St [0,0,0,4,1,97,10,98,10,121,235,138,131]]),
  (125, .rowA 1 3 [Ii64 1, Iu64 12436098566958161327, St [97,10,98,10]]),
  (127, .rowA 1 1 [Iu64 12436098566958161327])],
 .tup [.agg [.pc 26 0, .pc 32 0, .ra 200 0 1, Ii64 2, Bf, Bf, Ii64 0, Ii64 0, .ra 210 0 2, Ni, Ni, .ra 212 0 2, Ni, Ni], Bt],
 [(25, .map [(.string ⟨#[111,98,106,101,99,116,115]⟩, 0, .ra 163 0 28)] 1),
  (26, .cells [.mp 25, Ii64 2, Bf, Ii64 0, Ii64 0, Bf]),
  (27, .map [(.agg #[.int .i64 1, .int .u64 12436098566958161327], 0, .ra 60 0 4), (.agg #[.int .i64 1, .int .u64 6294052201235878318], 1, .ra 143 0 6)] 2),
  (127, .dead)],
 78,
 [(143, .rowA 6 1 (By [97,10,99,10,98,10])),
  (163, .rowA 28 1 (By [0,0,0,4,1,97,10,98,10,121,235,138,131,0,0,0,6,1,97,10,99,10,98,10,17,157,74,129])),
  (200, .rowA 1 2 [St [111,98,106,101,99,116,115], St [0,0,0,4,1,97,10,98,10,121,235,138,131,0,0,0,6,1,97,10,99,10,98,10,17,157,74,129]]),
  (210, .rowA 2 3 [Ii64 1, Iu64 12436098566958161327, St [97,10,98,10], Ii64 1, Iu64 6294052201235878318, St [97,10,99,10,98,10]]),
  (212, .rowA 2 1 [Iu64 12436098566958161327, Iu64 6294052201235878318])]⟩
theorem ok4 : okRc (SS (get ext0) 41) rc4 = true := by kernel_rfl
end Go.Proofs.YtanfllomeheiiaaGreatDoor.X
