/-
  DERIVED: THE SHELF's CONTRACTS AT THIS DUMP, IN PLAIN WORDS (tools/lay-plain.mjs out of 'TrydShelfS.lean', which tools/lay-shelf.mjs wrote): THE SAME DECLARATIONS UNDER THE SAME NAMES: 'import', 'namespace', 'open', 'def', 'theorem' AND NOTHING ELSE: no command of the shelf's: FOR A HAND-IN. Each laying: the table of numbers ('.._ren') and one theorem, a field a fact of the dump's own or the kernel's comparison; each contract: ONE APPLICATION.
-/
import Derived.Shelf.LaysM
import Derived.Shelf.LaysC
import Derived.Shelf.Sort.Plain
import Derived.Test.YtfgfoofojofnmaaDoorProg
namespace Go.Proofs
open Go.Shelf
def Tryd.lays190_ren : Go.Shelf.Ren := ⟨fun | 190 => 65 | 125 => 86 | 258 => 85 | 128 => 106 | 129 => 107 | 302 => 97 | 303 => 98 | 304 => 99 | 305 => 100 | 306 => 101 | 307 => 102 | 308 => 103 | 309 => 104 | 310 => 105 | 333 => 122 | 329 => 123 | 330 => 124 | 334 => 125 | 335 => 126 | 336 => 127 | 344 => 139 | n => n, fun | 31 => 69 | 9 => 9 | 3 => 3 | 46 => 57 | 0 => 0 | 51 => 150 | 53 => 36 | 4 => 4 | 183 => 144 | 182 => 143 | 131 => 134 | 5 => 5 | 218 => 165 | 222 => 169 | 228 => 181 | 229 => 182 | n => n, fun | n => n⟩
theorem Tryd.lays190 : Go.Proofs.Lays.n190 Tryd.prog Tryd.lays190_ren := {
  mixed := by kernel_rfl
  f125 := Tryd.func86.trans (congrArg some (by kernel_rfl))
  f128 := Tryd.func106.trans (congrArg some (by kernel_rfl))
  f129 := Tryd.func107.trans (congrArg some (by kernel_rfl))
  f190 := Tryd.func65.trans (congrArg some (by kernel_rfl))
  f258 := Tryd.func85.trans (congrArg some (by kernel_rfl))
  f302 := Tryd.func97.trans (congrArg some (by kernel_rfl))
  f303 := Tryd.func98.trans (congrArg some (by kernel_rfl))
  f304 := Tryd.func99.trans (congrArg some (by kernel_rfl))
  f305 := Tryd.func100.trans (congrArg some (by kernel_rfl))
  f306 := Tryd.func101.trans (congrArg some (by kernel_rfl))
  f307 := Tryd.func102.trans (congrArg some (by kernel_rfl))
  f308 := Tryd.func103.trans (congrArg some (by kernel_rfl))
  f309 := Tryd.func104.trans (congrArg some (by kernel_rfl))
  f310 := Tryd.func105.trans (congrArg some (by kernel_rfl))
  f329 := Tryd.func123.trans (congrArg some (by kernel_rfl))
  f330 := Tryd.func124.trans (congrArg some (by kernel_rfl))
  f333 := Tryd.func122.trans (congrArg some (by kernel_rfl))
  f334 := Tryd.func125.trans (congrArg some (by kernel_rfl))
  f335 := Tryd.func126.trans (congrArg some (by kernel_rfl))
  f336 := Tryd.func127.trans (congrArg some (by kernel_rfl))
  f344 := Tryd.func139.trans (congrArg some (by kernel_rfl))
  t0 := Tryd.underlying0
  a0 := Tryd.isAgg0
  z0 := Tryd.sizeOf0
  v0 := Tryd.zeroValue0
  t3 := Tryd.underlying3
  a3 := Tryd.isAgg3
  z3 := Tryd.sizeOf3
  v3 := Tryd.zeroValue3
  t4 := Tryd.underlying4
  a4 := Tryd.isAgg4
  z4 := Tryd.sizeOf4
  v4 := Tryd.zeroValue4
  t5 := Tryd.underlying5
  a5 := Tryd.isAgg5
  z5 := Tryd.sizeOf5
  v5 := Tryd.zeroValue5
  t9 := Tryd.underlying9
  a9 := Tryd.isAgg9
  z9 := Tryd.sizeOf9
  v9 := Tryd.zeroValue9
  t31 := Tryd.underlying69
  a31 := Tryd.isAgg69
  z31 := Tryd.sizeOf69
  v31 := Tryd.zeroValue69
  t46 := Tryd.underlying57
  a46 := Tryd.isAgg57
  z46 := Tryd.sizeOf57
  v46 := Tryd.zeroValue57
  t51 := Tryd.underlying150
  a51 := Tryd.isAgg150
  z51 := Tryd.sizeOf150
  v51 := Tryd.zeroValue150
  t53 := Tryd.underlying36
  a53 := Tryd.isAgg36
  z53 := Tryd.sizeOf36
  v53 := Tryd.zeroValue36
  t131 := Tryd.underlying134
  a131 := Tryd.isAgg134
  z131 := Tryd.sizeOf134
  v131 := Tryd.zeroValue134
  t182 := Tryd.underlying143
  a182 := Tryd.isAgg143
  z182 := Tryd.sizeOf143
  v182 := Tryd.zeroValue143
  t183 := Tryd.underlying144
  a183 := Tryd.isAgg144
  z183 := Tryd.sizeOf144
  v183 := Tryd.zeroValue144
  t218 := Tryd.underlying165
  a218 := Tryd.isAgg165
  z218 := Tryd.sizeOf165
  v218 := Tryd.zeroValue165
  t222 := Tryd.underlying169
  a222 := Tryd.isAgg169
  z222 := Tryd.sizeOf169
  v222 := Tryd.zeroValue169
  t228 := Tryd.underlying181
  a228 := Tryd.isAgg181
  z228 := Tryd.sizeOf181
  v228 := Tryd.zeroValue181
  t229 := Tryd.underlying182
  a229 := Tryd.isAgg182
  z229 := Tryd.sizeOf182
  v229 := Tryd.zeroValue182 }
open Go.Sort Go.RowKit in
theorem Tryd.slices_Sort_string (blk off cap : Nat) (ss : List (List UInt8)) (w : World) (hH : Holds encStr w blk off ss.toArray) (hblk : blk < w.heap.size) (hsz : ss.length < 4611686018427387904) :
    Calls Tryd.prog 65 #[.slice (some ⟨blk, off, none⟩) ss.length cap] w fun e w' =>
      e = .returned (.tuple #[]) ∧ ∃ n os, w' = grow (putRow encStr (Sort.ahead w n) blk off (ss.mergeSort fun x y => decide (x ≤ y)).toArray) os := Any.slices_Sort_string Tryd.lays190 blk off cap ss w hH hblk hsz
end Go.Proofs
