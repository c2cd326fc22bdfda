/- CheckFits walked, of at most 2000000 types. -/
import Derived.Test.YtfgfoofojofnmaaDoorQ0
import Derived.Test.YtfgfoofojofnmaaDoorShelf2
import Derived.Sort.OwnSorted
import Derived.Test.YtfgfoofojofnmaaDoorQF52
import Derived.Test.YtfgfoofojofnmaaDoorQF53
import Derived.Test.YtfgfoofojofnmaaDoorQF35
import Derived.Test.YtfgfoofojofnmaaDoorQF54
import Derived.Test.YtfgfoofojofnmaaDoorQF55
import Derived.Test.YtfgfoofojofnmaaDoorQF21
import Derived.Test.YtfgfoofojofnmaaDoorP7
namespace Go.Proofs.YtfgfoofojofnmaaDoor.Q
section
open Go.RowKit Go.Proofs.YtfgfoofojofnmaaDoorW.PrintWords Go.Proofs.YtfgfoofojofnmaaDoorW.PrintLast Go.Proofs.YtfgfoofojofnmaaDoorW.PrintMore
set_option linter.unusedVariables false
set_option linter.unusedSimpArgs false
open Go.Proofs.YtfgfoofojofnmaaDoor.Hand Go.Sort
def names0 : List (List UInt8) := [[97, 108, 108], [110, 111, 110, 101], [114, 101, 102, 115], [116, 97, 103, 115], [114, 101, 102], [116, 97, 103], [97, 110, 99, 101, 115, 116, 111, 114, 115], [100, 101, 115, 99, 101, 110, 100, 97, 110, 116, 115], [112, 97, 114, 101, 110, 116, 115], [99, 104, 105, 108, 100, 114, 101, 110], [104, 101, 97, 100, 115], [114, 111, 111, 116, 115], [109, 101, 114, 103, 101, 115], [98, 97, 115, 101, 115], [116, 111, 117, 99, 104, 105, 110, 103], [108, 97, 116, 101, 115, 116], [98, 101, 102, 111, 114, 101], [115, 105, 110, 99, 101], [117, 110, 105, 111, 110], [99, 111, 109, 109, 111, 110], [99, 111, 117, 110, 116]]
def names1 : List (List UInt8) := [[97, 108, 108], [97, 110, 99, 101, 115, 116, 111, 114, 115], [98, 97, 115, 101, 115], [98, 101, 102, 111, 114, 101], [99, 104, 105, 108, 100, 114, 101, 110], [99, 111, 109, 109, 111, 110], [99, 111, 117, 110, 116], [100, 101, 115, 99, 101, 110, 100, 97, 110, 116, 115], [104, 101, 97, 100, 115], [108, 97, 116, 101, 115, 116], [109, 101, 114, 103, 101, 115], [110, 111, 110, 101], [112, 97, 114, 101, 110, 116, 115], [114, 101, 102], [114, 101, 102, 115], [114, 111, 111, 116, 115], [115, 105, 110, 99, 101], [116, 97, 103], [116, 97, 103, 115], [116, 111, 117, 99, 104, 105, 110, 103], [117, 110, 105, 111, 110]]
def namesB : List ByteArray := [(⟨#[97, 108, 108]⟩ : ByteArray), (⟨#[97, 110, 99, 101, 115, 116, 111, 114, 115]⟩ : ByteArray), (⟨#[98, 97, 115, 101, 115]⟩ : ByteArray), (⟨#[98, 101, 102, 111, 114, 101]⟩ : ByteArray), (⟨#[99, 104, 105, 108, 100, 114, 101, 110]⟩ : ByteArray), (⟨#[99, 111, 109, 109, 111, 110]⟩ : ByteArray), (⟨#[99, 111, 117, 110, 116]⟩ : ByteArray), (⟨#[100, 101, 115, 99, 101, 110, 100, 97, 110, 116, 115]⟩ : ByteArray), (⟨#[104, 101, 97, 100, 115]⟩ : ByteArray), (⟨#[108, 97, 116, 101, 115, 116]⟩ : ByteArray), (⟨#[109, 101, 114, 103, 101, 115]⟩ : ByteArray), (⟨#[110, 111, 110, 101]⟩ : ByteArray), (⟨#[112, 97, 114, 101, 110, 116, 115]⟩ : ByteArray), (⟨#[114, 101, 102]⟩ : ByteArray), (⟨#[114, 101, 102, 115]⟩ : ByteArray), (⟨#[114, 111, 111, 116, 115]⟩ : ByteArray), (⟨#[115, 105, 110, 99, 101]⟩ : ByteArray), (⟨#[116, 97, 103]⟩ : ByteArray), (⟨#[116, 97, 103, 115]⟩ : ByteArray), (⟨#[116, 111, 117, 99, 104, 105, 110, 103]⟩ : ByteArray), (⟨#[117, 110, 105, 111, 110]⟩ : ByteArray)]
theorem names_sort : names0.mergeSort (fun x y => decide (x ≤ y)) = names1 := by
  have tr : ∀ a b c : List UInt8, decide (a ≤ b) = true → decide (b ≤ c) = true → decide (a ≤ c) = true := fun a b c h1 h2 => decide_eq_true (List.le_trans (of_decide_eq_true h1) (of_decide_eq_true h2))
  have tt : ∀ a b : List UInt8, (decide (a ≤ b) || decide (b ≤ a)) = true := fun a b => by
    rcases List.le_total a b with h | h <;> simp [h]
  refine List.Perm.eq_of_pairwise (le := fun a b => decide (a ≤ b) = true) (fun a b _ _ h1 h2 => List.le_antisymm (of_decide_eq_true h1) (of_decide_eq_true h2)) (List.pairwise_mergeSort tr tt names0) (by decide +kernel) ((List.mergeSort_perm _ _).trans (by decide +kernel))
theorem names_reps (W : World) (base : Nat) (ok : Nat → Prop) : Reps (Kd.M Kd.string W base ok) 1 namesB (names1.map encStr) := by
  have h : ∀ l : List (List UInt8), Reps (Kd.M Kd.string W base ok) 1 (l.map fun x => (⟨x.toArray⟩ : ByteArray)) (l.map encStr) := by
    intro l
    induction l with
    | nil => exact Reps.none _ _
    | cons x l ih => exact Reps.one (show Kd.M Kd.string W base ok (⟨x.toArray⟩ : ByteArray) [encStr x] from rfl) ih
  exact h names1
theorem below_sorted {w0 W : World} {n : Nat} {os : Array Obj} {d : Array (List UInt8)} (h : Below w0.heap.size w0 W) (hg : w0.heap.size < W.heap.size) : Below w0.heap.size w0 (grow (putRow encStr (Sort.ahead W n) w0.heap.size 0 d) os) :=
  h.grown (grownBy_sorted d) h.size (fun k e => by cases e; exact Nat.le_refl _)
set_option maxHeartbeats 2000000 in
set_option maxRecDepth 100000 in
theorem functions_any (w : World) : Calls Tryd.prog 33 #[] w fun e w' => ∃ v : Value, e = .returned v ∧ Kd.R Kd.string 9 w' w.heap.size (fun _ => True) v namesB ∧ Below w.heap.size w w' := by
  have hb := blk_new w (Obj.cells #[.string (⟨#[97, 108, 108]⟩ : ByteArray), .string (⟨#[110, 111, 110, 101]⟩ : ByteArray), .string (⟨#[114, 101, 102, 115]⟩ : ByteArray), .string (⟨#[116, 97, 103, 115]⟩ : ByteArray), .string (⟨#[114, 101, 102]⟩ : ByteArray), .string (⟨#[116, 97, 103]⟩ : ByteArray), .string (⟨#[97, 110, 99, 101, 115, 116, 111, 114, 115]⟩ : ByteArray), .string (⟨#[100, 101, 115, 99, 101, 110, 100, 97, 110, 116, 115]⟩ : ByteArray), .string (⟨#[112, 97, 114, 101, 110, 116, 115]⟩ : ByteArray), .string (⟨#[99, 104, 105, 108, 100, 114, 101, 110]⟩ : ByteArray), .string (⟨#[104, 101, 97, 100, 115]⟩ : ByteArray), .string (⟨#[114, 111, 111, 116, 115]⟩ : ByteArray), .string (⟨#[109, 101, 114, 103, 101, 115]⟩ : ByteArray), .string (⟨#[98, 97, 115, 101, 115]⟩ : ByteArray), .string (⟨#[116, 111, 117, 99, 104, 105, 110, 103]⟩ : ByteArray), .string (⟨#[108, 97, 116, 101, 115, 116]⟩ : ByteArray), .string (⟨#[98, 101, 102, 111, 114, 101]⟩ : ByteArray), .string (⟨#[115, 105, 110, 99, 101]⟩ : ByteArray), .string (⟨#[117, 110, 105, 111, 110]⟩ : ByteArray), .string (⟨#[99, 111, 109, 109, 111, 110]⟩ : ByteArray), .string (⟨#[99, 111, 117, 110, 116]⟩ : ByteArray)] 9)
  have hbl := below_alloc (Below.refl w.heap.size w) (Obj.cells #[.string (⟨#[97, 108, 108]⟩ : ByteArray), .string (⟨#[110, 111, 110, 101]⟩ : ByteArray), .string (⟨#[114, 101, 102, 115]⟩ : ByteArray), .string (⟨#[116, 97, 103, 115]⟩ : ByteArray), .string (⟨#[114, 101, 102]⟩ : ByteArray), .string (⟨#[116, 97, 103]⟩ : ByteArray), .string (⟨#[97, 110, 99, 101, 115, 116, 111, 114, 115]⟩ : ByteArray), .string (⟨#[100, 101, 115, 99, 101, 110, 100, 97, 110, 116, 115]⟩ : ByteArray), .string (⟨#[112, 97, 114, 101, 110, 116, 115]⟩ : ByteArray), .string (⟨#[99, 104, 105, 108, 100, 114, 101, 110]⟩ : ByteArray), .string (⟨#[104, 101, 97, 100, 115]⟩ : ByteArray), .string (⟨#[114, 111, 111, 116, 115]⟩ : ByteArray), .string (⟨#[109, 101, 114, 103, 101, 115]⟩ : ByteArray), .string (⟨#[98, 97, 115, 101, 115]⟩ : ByteArray), .string (⟨#[116, 111, 117, 99, 104, 105, 110, 103]⟩ : ByteArray), .string (⟨#[108, 97, 116, 101, 115, 116]⟩ : ByteArray), .string (⟨#[98, 101, 102, 111, 114, 101]⟩ : ByteArray), .string (⟨#[115, 105, 110, 99, 101]⟩ : ByteArray), .string (⟨#[117, 110, 105, 111, 110]⟩ : ByteArray), .string (⟨#[99, 111, 109, 109, 111, 110]⟩ : ByteArray), .string (⟨#[99, 111, 117, 110, 116]⟩ : ByteArray)] 9)
  have hsz : w.heap.size < (w.alloc (Obj.cells #[.string (⟨#[97, 108, 108]⟩ : ByteArray), .string (⟨#[110, 111, 110, 101]⟩ : ByteArray), .string (⟨#[114, 101, 102, 115]⟩ : ByteArray), .string (⟨#[116, 97, 103, 115]⟩ : ByteArray), .string (⟨#[114, 101, 102]⟩ : ByteArray), .string (⟨#[116, 97, 103]⟩ : ByteArray), .string (⟨#[97, 110, 99, 101, 115, 116, 111, 114, 115]⟩ : ByteArray), .string (⟨#[100, 101, 115, 99, 101, 110, 100, 97, 110, 116, 115]⟩ : ByteArray), .string (⟨#[112, 97, 114, 101, 110, 116, 115]⟩ : ByteArray), .string (⟨#[99, 104, 105, 108, 100, 114, 101, 110]⟩ : ByteArray), .string (⟨#[104, 101, 97, 100, 115]⟩ : ByteArray), .string (⟨#[114, 111, 111, 116, 115]⟩ : ByteArray), .string (⟨#[109, 101, 114, 103, 101, 115]⟩ : ByteArray), .string (⟨#[98, 97, 115, 101, 115]⟩ : ByteArray), .string (⟨#[116, 111, 117, 99, 104, 105, 110, 103]⟩ : ByteArray), .string (⟨#[108, 97, 116, 101, 115, 116]⟩ : ByteArray), .string (⟨#[98, 101, 102, 111, 114, 101]⟩ : ByteArray), .string (⟨#[115, 105, 110, 99, 101]⟩ : ByteArray), .string (⟨#[117, 110, 105, 111, 110]⟩ : ByteArray), .string (⟨#[99, 111, 109, 109, 111, 110]⟩ : ByteArray), .string (⟨#[99, 111, 117, 110, 116]⟩ : ByteArray)] 9)).heap.size := by show w.heap.size < (w.heap.push _).size; rw [Array.size_push]; omega
  have C := Tryd.slices_Sort_string w.heap.size 0 21 names0 (w.alloc (Obj.cells #[.string (⟨#[97, 108, 108]⟩ : ByteArray), .string (⟨#[110, 111, 110, 101]⟩ : ByteArray), .string (⟨#[114, 101, 102, 115]⟩ : ByteArray), .string (⟨#[116, 97, 103, 115]⟩ : ByteArray), .string (⟨#[114, 101, 102]⟩ : ByteArray), .string (⟨#[116, 97, 103]⟩ : ByteArray), .string (⟨#[97, 110, 99, 101, 115, 116, 111, 114, 115]⟩ : ByteArray), .string (⟨#[100, 101, 115, 99, 101, 110, 100, 97, 110, 116, 115]⟩ : ByteArray), .string (⟨#[112, 97, 114, 101, 110, 116, 115]⟩ : ByteArray), .string (⟨#[99, 104, 105, 108, 100, 114, 101, 110]⟩ : ByteArray), .string (⟨#[104, 101, 97, 100, 115]⟩ : ByteArray), .string (⟨#[114, 111, 111, 116, 115]⟩ : ByteArray), .string (⟨#[109, 101, 114, 103, 101, 115]⟩ : ByteArray), .string (⟨#[98, 97, 115, 101, 115]⟩ : ByteArray), .string (⟨#[116, 111, 117, 99, 104, 105, 110, 103]⟩ : ByteArray), .string (⟨#[108, 97, 116, 101, 115, 116]⟩ : ByteArray), .string (⟨#[98, 101, 102, 111, 114, 101]⟩ : ByteArray), .string (⟨#[115, 105, 110, 99, 101]⟩ : ByteArray), .string (⟨#[117, 110, 105, 111, 110]⟩ : ByteArray), .string (⟨#[99, 111, 109, 109, 111, 110]⟩ : ByteArray), .string (⟨#[99, 111, 117, 110, 116]⟩ : ByteArray)] 9)) (holds_of_block hb rfl) hsz (by decide)
  rw [names_sort] at C
  have C2 : Calls Tryd.prog 65 #[.slice (some ⟨w.heap.size, 0, none⟩) 21 21] (w.alloc (Obj.cells #[.string (⟨#[97, 108, 108]⟩ : ByteArray), .string (⟨#[110, 111, 110, 101]⟩ : ByteArray), .string (⟨#[114, 101, 102, 115]⟩ : ByteArray), .string (⟨#[116, 97, 103, 115]⟩ : ByteArray), .string (⟨#[114, 101, 102]⟩ : ByteArray), .string (⟨#[116, 97, 103]⟩ : ByteArray), .string (⟨#[97, 110, 99, 101, 115, 116, 111, 114, 115]⟩ : ByteArray), .string (⟨#[100, 101, 115, 99, 101, 110, 100, 97, 110, 116, 115]⟩ : ByteArray), .string (⟨#[112, 97, 114, 101, 110, 116, 115]⟩ : ByteArray), .string (⟨#[99, 104, 105, 108, 100, 114, 101, 110]⟩ : ByteArray), .string (⟨#[104, 101, 97, 100, 115]⟩ : ByteArray), .string (⟨#[114, 111, 111, 116, 115]⟩ : ByteArray), .string (⟨#[109, 101, 114, 103, 101, 115]⟩ : ByteArray), .string (⟨#[98, 97, 115, 101, 115]⟩ : ByteArray), .string (⟨#[116, 111, 117, 99, 104, 105, 110, 103]⟩ : ByteArray), .string (⟨#[108, 97, 116, 101, 115, 116]⟩ : ByteArray), .string (⟨#[98, 101, 102, 111, 114, 101]⟩ : ByteArray), .string (⟨#[115, 105, 110, 99, 101]⟩ : ByteArray), .string (⟨#[117, 110, 105, 111, 110]⟩ : ByteArray), .string (⟨#[99, 111, 109, 109, 111, 110]⟩ : ByteArray), .string (⟨#[99, 111, 117, 110, 116]⟩ : ByteArray)] 9)) fun e w' => e = .returned (.tuple #[]) ∧ Kd.R Kd.string 9 w' w.heap.size (fun _ => True) (.slice (some ⟨w.heap.size, 0, none⟩) 21 21) namesB ∧ Below w.heap.size w w' := by
    refine C.mono ?_
    rintro e w' ⟨rfl, n, os, rfl⟩
    exact ⟨rfl, ⟨fun k _ => trivial, _, ownsRow_sorted (ts := names1) (ss := names0) rfl (Nat.le_refl _) hb (by decide) (by decide) rfl, names_reps _ _ _⟩, below_sorted hbl hsz⟩
  clear C hb hbl hsz
  go_enter Tryd.func33, Tryd.ntmps33
  go_wp2_with (go_at_call 65; (with_reducible refine C2.mono ?_); rintro e_ w1 ⟨rfl, hR, hB⟩; have HR := Lib.hid hR; have HB := Lib.hid hB; clear hR hB)
  go_ret
  exact ⟨_, rfl, HR.out, HB.out⟩
end
section
open Go.RowKit Go.Proofs.YtfgfoofojofnmaaDoorW.PrintWords Go.Proofs.YtfgfoofojofnmaaDoorW.PrintLast Go.Proofs.YtfgfoofojofnmaaDoorW.PrintMore
attribute [local go_sem] Go.Proofs.YtfgfoofojofnmaaDoor.Hand.w64_mod256 Go.Proofs.YtfgfoofojofnmaaDoor.Hand.w64_mod32 max2_int min2_int max_two min_two max_three min_three max_four min_four   -- for this text's walks alone
set_option linter.unusedVariables false
set_option linter.unusedSimpArgs false

/-! ### check_Functions: function 33 -/
def check_Functions.f : Option (List ByteArray) := some namesB
theorem check_Functions.calls  (r : List ByteArray) (w : World) (h : check_Functions.f  = some r) :
    Calls Tryd.prog 33 #[] w fun e w' => ∃ v0_ : Value, e = .returned (v0_) ∧ Kd.R Kd.string 9 w' w.heap.size (fun _ => True) v0_ r ∧ Below w.heap.size w w' := by
  obtain rfl := Option.some.inj h
  obtain h := functions_any w
  exact h

end
section
open Go.RowKit Go.Proofs.YtfgfoofojofnmaaDoorW.PrintWords Go.Proofs.YtfgfoofojofnmaaDoorW.PrintLast Go.Proofs.YtfgfoofojofnmaaDoorW.PrintMore
attribute [local go_sem] Go.Proofs.YtfgfoofojofnmaaDoor.Hand.w64_mod256 Go.Proofs.YtfgfoofojofnmaaDoor.Hand.w64_mod32 max2_int min2_int max_two min_two max_three min_three max_four min_four   -- for this text's walks alone
set_option linter.unusedVariables false
set_option linter.unusedSimpArgs false

/-! ### forebearref03_Same: function 34 -/
def forebearref03_Same.l0 : Nat → List ByteArray → List ByteArray → Int → Option (Bool)
  | 0, _, _, _ => none
  | k + 1, x0, x1, x5 => if x5 < (x0.length : Int) then (if 0 ≤ x5 then (if x5 < (x1.length : Int) then (if (rdOf ByteArray.empty x0 x5).toList = (rdOf ByteArray.empty x1 x5).toList then (forebearref03_Same.l0 k x0 x1 (wrap64 (x5 + 1))) else (some false)) else (none)) else (none)) else (some true)
def forebearref03_Same.f (k : Nat) (l0 : List ByteArray) (l1 : List ByteArray) : Option (Bool) := if (l0.length : Int) = (l1.length : Int) then (forebearref03_Same.l0 k l0 l1 0) else (some false)
theorem forebearref03_Same.mono_l : ∀ k, (∀ y0 y1 y2, LeO (forebearref03_Same.l0 k y0 y1 y2) (forebearref03_Same.l0 (k + 1) y0 y1 y2))
  | 0 => fun _ _ _ r h => by simp [forebearref03_Same.l0] at h
  | k + 1 => by
    have ih0 := forebearref03_Same.mono_l k
    · intro y0 y1 y2
      unfold forebearref03_Same.l0
      repeat' first
      | (with_reducible exact ih0 _ _ _)
      | (with_reducible exact LeO.refl _)
      | (with_reducible exact LeO.none _)
      | (with_reducible refine LeO.ite ?_ ?_)
      | (with_reducible refine LeO.bind ?_ (fun _ => ?_))
      | exact ih0 _ _ _
      | exact LeO.none _
      | refine LeO.ite ?_ ?_
      | refine LeO.bind ?_ (fun _ => ?_)
theorem forebearref03_Same.mono : ∀ a0 a1 k, LeO (forebearref03_Same.f k a0 a1) (forebearref03_Same.f (k + 1) a0 a1) := by
  intro a0 a1 k
  have ih0 := forebearref03_Same.mono_l k
  unfold forebearref03_Same.f
  repeat' first
      | (with_reducible exact ih0 _ _ _)
      | (with_reducible exact LeO.refl _)
      | (with_reducible exact LeO.none _)
      | (with_reducible refine LeO.ite ?_ ?_)
      | (with_reducible refine LeO.bind ?_ (fun _ => ?_))
      | exact ih0 _ _ _
      | exact LeO.none _
      | refine LeO.ite ?_ ?_
      | refine LeO.bind ?_ (fun _ => ?_)
set_option maxHeartbeats 8000000 in
set_option maxRecDepth 100000 in
theorem forebearref03_Same.calls (k : Nat) (A0 : Option Addr) (c0 : Nat) (l0 : List ByteArray) (A1 : Option Addr) (c1 : Nat) (l1 : List ByteArray) (r : Bool) (w : World) (hr0 : Kd.C Kd.string w A0 l0.length l0) (hc0 : l0.length ≤ c0) (hr1 : Kd.C Kd.string w A1 l1.length l1) (hc1 : l1.length ≤ c1) (h : forebearref03_Same.f k l0 l1 = some r) :
    Calls Tryd.prog 34 #[.slice A0 l0.length c0, .slice A1 l1.length c1] w fun e w' => e = .returned (.bool r) ∧ Drawn0 w w' := by
  have HR0 := Aside0.mk hr0
  have HC0 := Aside0.mk hc0
  clear hr0 hc0
  have HR1 := Aside0.mk hr1
  have HC1 := Aside0.mk hc1
  clear hr1 hc1
  have H : (if (l0.length : Int) = (l1.length : Int) then (forebearref03_Same.l0 k l0 l1 0) else (some false)) = some r := h
  clear h
  by_cases c3 : (l0.length : Int) = (l1.length : Int)
  · rw [if_pos c3] at H
    have c3b0 : ((l0.length : Int) == (l1.length : Int)) = true := beq_iff_eq.mpr c3
    have c3b1 : ((l0.length : Int) != (l1.length : Int)) = false := bne_eq_false_iff_eq.mpr c3
    have c3b2 : (l0.length == l1.length) = true := by first | simpa using c3 | (simp at c3 ⊢; omega)
    clear c3
    have H' := Aside0.mk H
    clear H
    go_enter Tryd.func34, Tryd.ntmps34
    go_wp2
    repeat (go_quiet (fail); try go_wp2)
    go_loopg [5] k (fun kq v5 w' => ∃ (x5_1 : Int), v5 = .int .i64 x5_1 ∧ Aside0 (forebearref03_Same.l0 kq l0 l1 x5_1 = some r) ∧ Aside0 (kq ≤ k) ∧ Drawn0 w w')
    case atStart => exact ⟨(0), (by first | rfl | (simp; done) | (simp [*]; done)), H', ⟨Nat.le_refl _⟩, by repeat (first | exact Drawn0.refl _ | apply Drawn0.step)⟩
    case round =>
      clear H'
      (try clear c1)
      obtain ⟨x5_1, rfl, HA, HK1, ⟨m1, rfl⟩⟩ := hrel
      cases gk with
      | zero => exact absurd HA.out (by simp [forebearref03_Same.l0])
      | succ k1 =>
        have H := HA.out
        clear HA
        simp only [forebearref03_Same.l0] at H
        by_cases c4 : x5_1 < (l0.length : Int)
        · rw [if_pos c4] at H
          have c4b0 : decide (x5_1 < (l0.length : Int)) = true := decide_eq_true c4
          clear c4
          by_cases c5 : 0 ≤ x5_1
          · rw [if_pos c5] at H
            have c5b0 : decide (0 ≤ x5_1) = true := decide_eq_true c5
            clear c5
            by_cases c6 : x5_1 < (l1.length : Int)
            · rw [if_pos c6] at H
              have c6b0 : decide (x5_1 < (l1.length : Int)) = true := decide_eq_true c6
              clear c6
              by_cases c7 : (rdOf ByteArray.empty l0 x5_1).toList = (rdOf ByteArray.empty l1 x5_1).toList
              · rw [if_pos c7] at H
                have c7b0 : ((rdOf ByteArray.empty l0 x5_1).toList == (rdOf ByteArray.empty l1 x5_1).toList) = true := beq_iff_eq.mpr c7
                have c7b1 : ((rdOf ByteArray.empty l0 x5_1).toList != (rdOf ByteArray.empty l1 x5_1).toList) = false := bne_eq_false_iff_eq.mpr c7
                clear c7
                have H' := Aside0.mk H
                clear H
                have p871 : 0 ≤ (x5_1 : Int) := of_decide_eq_true (by first | (with_reducible assumption) | assumption)
                have q871 : x5_1 < (l0.length : Int) := of_decide_eq_true (by first | (with_reducible assumption) | assumption)
                obtain ⟨ad871, e871, hx871_0⟩ := Kd.at_string HR0.out x5_1 p871 q871
                cases e871
                replace p871 := eq_true p871
                replace q871 := eq_true q871
                have p872 : 0 ≤ (x5_1 : Int) := of_decide_eq_true (by first | (with_reducible assumption) | assumption)
                have q872 : x5_1 < (l1.length : Int) := of_decide_eq_true (by first | (with_reducible assumption) | assumption)
                obtain ⟨ad872, e872, hx872_0⟩ := Kd.at_string HR1.out x5_1 p872 q872
                cases e872
                replace p872 := eq_true p872
                replace q872 := eq_true q872
                go_wp2
                repeat (go_quiet (fail); try go_wp2)
                go_roundg k1
                case measure => have := HK1.out; omega
                case rel => exact ⟨(wrap64 (x5_1 + 1)), (by first | rfl | (simp; done) | (simp [*]; done)), H', ⟨by have := HK1.out; omega⟩, by repeat (first | exact Drawn0.refl _ | apply Drawn0.step)⟩
              · rw [if_neg c7] at H
                have c7b0 : ((rdOf ByteArray.empty l0 x5_1).toList == (rdOf ByteArray.empty l1 x5_1).toList) = false := beq_eq_false_iff_ne.mpr c7
                have c7b1 : ((rdOf ByteArray.empty l0 x5_1).toList != (rdOf ByteArray.empty l1 x5_1).toList) = true := bne_iff_ne.mpr c7
                obtain rfl := Option.some.inj H
                have p871 : 0 ≤ (x5_1 : Int) := of_decide_eq_true (by first | (with_reducible assumption) | assumption)
                have q871 : x5_1 < (l0.length : Int) := of_decide_eq_true (by first | (with_reducible assumption) | assumption)
                obtain ⟨ad871, e871, hx871_0⟩ := Kd.at_string HR0.out x5_1 p871 q871
                cases e871
                replace p871 := eq_true p871
                replace q871 := eq_true q871
                have p872 : 0 ≤ (x5_1 : Int) := of_decide_eq_true (by first | (with_reducible assumption) | assumption)
                have q872 : x5_1 < (l1.length : Int) := of_decide_eq_true (by first | (with_reducible assumption) | assumption)
                obtain ⟨ad872, e872, hx872_0⟩ := Kd.at_string HR1.out x5_1 p872 q872
                cases e872
                replace p872 := eq_true p872
                replace q872 := eq_true q872
                go_wp2
                repeat (go_quiet (fail); try go_wp2)
                go_ret
                exact ⟨by first | rfl | (simp; done) | (simp [*]; done), by repeat (first | exact Drawn0.refl _ | apply Drawn0.step)⟩
            · rw [if_neg c6] at H
              exact absurd H (by simp)
          · rw [if_neg c5] at H
            exact absurd H (by simp)
        · rw [if_neg c4] at H
          have c4b0 : decide (x5_1 < (l0.length : Int)) = false := decide_eq_false c4
          clear c4
          obtain rfl := Option.some.inj H
          go_wp2
          repeat (go_quiet (fail); try go_wp2)
          go_ret
          exact ⟨by first | rfl | (simp; done) | (simp [*]; done), by repeat (first | exact Drawn0.refl _ | apply Drawn0.step)⟩
  · rw [if_neg c3] at H
    have c3b0 : ((l0.length : Int) == (l1.length : Int)) = false := beq_eq_false_iff_ne.mpr c3
    have c3b1 : ((l0.length : Int) != (l1.length : Int)) = true := bne_iff_ne.mpr c3
    have c3b2 : (l0.length == l1.length) = false := by first | simpa using c3 | (simp at c3 ⊢; omega)
    obtain rfl := Option.some.inj H
    go_enter Tryd.func34, Tryd.ntmps34
    go_wp2
    repeat (go_quiet (fail); try go_wp2)
    go_ret
    exact ⟨by first | rfl | (simp; done) | (simp [*]; done), by repeat (first | exact Drawn0.refl _ | apply Drawn0.step)⟩

end
section
open Go.RowKit Go.Proofs.YtfgfoofojofnmaaDoorW.PrintWords Go.Proofs.YtfgfoofojofnmaaDoorW.PrintLast Go.Proofs.YtfgfoofojofnmaaDoorW.PrintMore
attribute [local go_sem] Go.Proofs.YtfgfoofojofnmaaDoor.Hand.w64_mod256 Go.Proofs.YtfgfoofojofnmaaDoor.Hand.w64_mod32 max2_int min2_int max_two min_two max_three min_three max_four min_four   -- for this text's walks alone
set_option linter.unusedVariables false
set_option linter.unusedSimpArgs false

/-! ### check_Fits: function 36 -/
def check_Fits.l0 : Nat → List Int → Int → Int → Int → Int → List Int → Int → Option (Int)
  | 0, _, _, _, _, _, _, _ => none
  | k + 1, x30, x31, x32, x881000, x881001, x881002, x881003 => if x32 < x31 then (if 0 ≤ x32 then (if x32 < (x30.length : Int) then ((check_face_at.f x881000 x881001 x881002 x881003 x32).bind fun t882 => (if (rd x30 x32) = t882 then (check_Fits.l0 k x30 x31 (wrap64 (x32 + 1)) x881000 x881001 x881002 x881003) else (some 35))) else (none)) else (none)) else (some 0)
def check_Fits.f (k : Nat) (a0 : ByteArray) (l1 : List Int) : Option (Int) := (check_faceOf.f a0).bind fun bt873 => (if bt873.2.2.2.2 = true then (if (l1.length : Int) < bt873.1 then (some 34) else (if (l1.length : Int) > bt873.2.1 then (some 34) else (check_Fits.l0 k l1 (l1.length : Int) 0 bt873.1 bt873.2.1 bt873.2.2.1 bt873.2.2.2.1))) else (some 33))
theorem check_Fits.mono_l : ∀ k, (∀ y0 y1 y2 y3 y4 y5 y6, LeO (check_Fits.l0 k y0 y1 y2 y3 y4 y5 y6) (check_Fits.l0 (k + 1) y0 y1 y2 y3 y4 y5 y6))
  | 0 => fun _ _ _ _ _ _ _ r h => by simp [check_Fits.l0] at h
  | k + 1 => by
    have ih0 := check_Fits.mono_l k
    · intro y0 y1 y2 y3 y4 y5 y6
      unfold check_Fits.l0
      repeat' first
      | (with_reducible exact ih0 _ _ _ _ _ _ _)
      | (with_reducible exact LeO.refl _)
      | (with_reducible exact LeO.none _)
      | (with_reducible refine LeO.ite ?_ ?_)
      | (with_reducible refine LeO.bind ?_ (fun _ => ?_))
      | exact ih0 _ _ _ _ _ _ _
      | exact LeO.none _
      | refine LeO.ite ?_ ?_
      | refine LeO.bind ?_ (fun _ => ?_)
theorem check_Fits.mono : ∀ a0 a1 k, LeO (check_Fits.f k a0 a1) (check_Fits.f (k + 1) a0 a1) := by
  intro a0 a1 k
  have ih0 := check_Fits.mono_l k
  unfold check_Fits.f
  repeat' first
      | (with_reducible exact ih0 _ _ _ _ _ _ _)
      | (with_reducible exact LeO.refl _)
      | (with_reducible exact LeO.none _)
      | (with_reducible refine LeO.ite ?_ ?_)
      | (with_reducible refine LeO.bind ?_ (fun _ => ?_))
      | exact ih0 _ _ _ _ _ _ _
      | exact LeO.none _
      | refine LeO.ite ?_ ?_
      | refine LeO.bind ?_ (fun _ => ?_)
set_option maxHeartbeats 8000000 in
set_option maxRecDepth 100000 in
theorem check_Fits.calls (k : Nat) (a0 : ByteArray) (A1 : Option Addr) (c1 : Nat) (l1 : List Int) (r : Int) (w : World) (hr1 : Kd.C (Kd.int .i64) w A1 l1.length l1) (hc1 : l1.length ≤ c1) (h : check_Fits.f k a0 l1 = some r) :
    Calls Tryd.prog 36 #[.string a0, .slice A1 l1.length c1] w fun e w' => e = .returned (.int .i64 r) ∧ Below w.heap.size w w' := by
  have hu93 := Tryd.underlying93
  have HR1 := Aside0.mk hr1
  have HC1 := Aside0.mk hc1
  clear hr1 hc1
  have HB := Aside0.mk (Below.refl w.heap.size w)
  have H : ((check_faceOf.f a0).bind fun bt873 => (if bt873.2.2.2.2 = true then (if (l1.length : Int) < bt873.1 then (some 34) else (if (l1.length : Int) > bt873.2.1 then (some 34) else (check_Fits.l0 k l1 (l1.length : Int) 0 bt873.1 bt873.2.1 bt873.2.2.1 bt873.2.2.2.1))) else (some 33))) = some r := h
  clear h
  replace H := Option.bind_eq_some_iff.mp H
  obtain ⟨⟨t873, t874, t875, t878, t879⟩, A30, H⟩ := H
  replace H : (if t879 = true then (if (l1.length : Int) < t873 then (some 34) else (if (l1.length : Int) > t874 then (some 34) else (check_Fits.l0 k l1 (l1.length : Int) 0 t873 t874 t875 t878))) else (some 33)) = some r := H
  have A3 := Aside0.mk A30
  clear A30
  by_cases c4 : t879 = true
  · subst c4
    have H1 : (if (l1.length : Int) < t873 then (some 34) else (if (l1.length : Int) > t874 then (some 34) else (check_Fits.l0 k l1 (l1.length : Int) 0 t873 t874 t875 t878))) = some r := by rw [if_pos rfl] at H; exact H
    clear H
    have H := H1
    clear H1
    by_cases c5 : (l1.length : Int) < t873
    · rw [if_pos c5] at H
      have c5b0 : decide ((l1.length : Int) < t873) = true := decide_eq_true c5
      clear c5
      obtain rfl := Option.some.inj H
      go_enter Tryd.func36, Tryd.ntmps36
      go_wp2_with (first | ((with_reducible refine gate_callee (f := 52) rfl ?_); refine goesL_ (some 11) rfl rfl Tryd.func52 (by kernel_rfl) rfl #[.string a0] rfl (by (try simp only [List.map_toArray, List.map_cons, List.map_nil]); first | done | rfl | (simp only [List.length_drop, List.length_take]; rfl)) ?_; (with_reducible refine (check_faceOf.calls a0 t873 t874 t875 t878 true _ A3.out).mono ?_); rintro e w6 ⟨v876, rfl, ho0, hb⟩; refine ⟨_, rfl, ?_⟩; have n0_ := Aside0.mk (Kd.R_lower ho0 (below_size (by repeat (first | (with_reducible first | exact HB.out | apply below_alloc | apply pw_below_drewN | apply below_drew1) | exact HB.out)))); have n1_ := Aside0.mk (below_step (by repeat (first | (with_reducible first | exact HB.out | apply below_alloc | apply pw_below_drewN | apply below_drew1) | exact HB.out)) hb); clear HB; have HO877 := n0_; have HB := n1_; clear n0_ n1_; (try clear hb); (try clear hb2); (try clear hk); (try clear hi); (try clear ho0)) | ((with_reducible refine gate_dst (N := 5) rfl ?_); (try (refine gate_guard (by rfl) ?_; dsimp only)); refine box_event ?hg (N := 5) ?hd (cs := #[.int .i64 0, .int .i64 0, .slice none 0 0, .int .i64 0]) (t := 93) ?hr ?_; (case hd => rfl); (case hg => rfl); (case hr => first | (go_simp; done) | (go_simp; rfl)); intro gb880 hg w7 hbox hb; have n0_ := Aside0.mk (Kd.R_below (by (with_reducible repeat (first | apply Kd.R_alloc | apply Kd.R_drewN | apply Kd.R_drew)); exact HO877.out) hb); have n1_ := Aside0.mk (below_step (by repeat (first | (with_reducible first | exact HB.out | apply below_alloc | apply pw_below_drewN | apply below_drew1) | exact HB.out)) hb); have n2_ := Aside0.mk (hbox); have n3_ := Aside0.mk ((by rw [hg]; exact (below_size (by repeat (first | (with_reducible first | exact HB.out | apply below_alloc | apply pw_below_drewN | apply below_drew1) | exact HB.out))) : w.heap.size ≤ gb880)); have n4_ := Aside0.mk ((by rw [hg]; exact (below_size (by repeat (first | (with_reducible first | exact HB.out | apply below_alloc | apply pw_below_drewN | apply below_drew1) | exact HB.out))) : w.heap.size ≤ gb880)); clear HO877; clear HB; have HO877 := n0_; have HB := n1_; have BK880 := n2_; have GW880 := n3_; have GE880 := n4_; clear n0_ n1_ n2_ n3_ n4_; clear hb hbox hg; have hcz8_0 : w7.cell? ⟨gb880, 0, none⟩ = some (.int .i64 0) := (blk_cell BK880.out 0).trans rfl; have hcz8_1 : w7.cell? ⟨gb880, 1, none⟩ = some (.int .i64 0) := (blk_cell BK880.out 1).trans rfl; have hcz8_2 : w7.cell? ⟨gb880, 2, none⟩ = some (.slice none 0 0) := (blk_cell BK880.out 2).trans rfl; have hcz8_3 : w7.cell? ⟨gb880, 3, none⟩ = some (.int .i64 0) := (blk_cell BK880.out 3).trans rfl; have hfz8_0 := blk_frozen BK880.out 0; have hfz8_1 := blk_frozen BK880.out 1; have hfz8_2 := blk_frozen BK880.out 2; have hfz8_3 := blk_frozen BK880.out 3; obtain ⟨Ao9, co9, eo9⟩ := Kd.R_slice HO877.out; subst eo9))
      go_ret
      exact ⟨by first | rfl | (simp [errW_none, errW_some] <;> rfl) | (simp [*, errW_none, errW_some] <;> rfl), by repeat (first | (with_reducible first | exact HB.out | apply below_alloc | apply pw_below_drewN | apply below_drew1 | refine below_set ?_ GE880.out) | exact HB.out)⟩
    · rw [if_neg c5] at H
      have c5b0 : decide ((l1.length : Int) < t873) = false := decide_eq_false c5
      clear c5
      by_cases c10 : (l1.length : Int) > t874
      · rw [if_pos c10] at H
        have c10b0 : decide (t874 < (l1.length : Int)) = true := decide_eq_true c10
        clear c10
        obtain rfl := Option.some.inj H
        go_enter Tryd.func36, Tryd.ntmps36
        go_wp2_with (first | ((with_reducible refine gate_callee (f := 52) rfl ?_); refine goesL_ (some 11) rfl rfl Tryd.func52 (by kernel_rfl) rfl #[.string a0] rfl (by (try simp only [List.map_toArray, List.map_cons, List.map_nil]); first | done | rfl | (simp only [List.length_drop, List.length_take]; rfl)) ?_; (with_reducible refine (check_faceOf.calls a0 t873 t874 t875 t878 true _ A3.out).mono ?_); rintro e w11 ⟨v876, rfl, ho0, hb⟩; refine ⟨_, rfl, ?_⟩; have n0_ := Aside0.mk (Kd.R_lower ho0 (below_size (by repeat (first | (with_reducible first | exact HB.out | apply below_alloc | apply pw_below_drewN | apply below_drew1) | exact HB.out)))); have n1_ := Aside0.mk (below_step (by repeat (first | (with_reducible first | exact HB.out | apply below_alloc | apply pw_below_drewN | apply below_drew1) | exact HB.out)) hb); clear HB; have HO877 := n0_; have HB := n1_; clear n0_ n1_; (try clear hb); (try clear hb2); (try clear hk); (try clear hi); (try clear ho0)) | ((with_reducible refine gate_dst (N := 5) rfl ?_); (try (refine gate_guard (by rfl) ?_; dsimp only)); refine box_event ?hg (N := 5) ?hd (cs := #[.int .i64 0, .int .i64 0, .slice none 0 0, .int .i64 0]) (t := 93) ?hr ?_; (case hd => rfl); (case hg => rfl); (case hr => first | (go_simp; done) | (go_simp; rfl)); intro gb880 hg w12 hbox hb; have n0_ := Aside0.mk (Kd.R_below (by (with_reducible repeat (first | apply Kd.R_alloc | apply Kd.R_drewN | apply Kd.R_drew)); exact HO877.out) hb); have n1_ := Aside0.mk (below_step (by repeat (first | (with_reducible first | exact HB.out | apply below_alloc | apply pw_below_drewN | apply below_drew1) | exact HB.out)) hb); have n2_ := Aside0.mk (hbox); have n3_ := Aside0.mk ((by rw [hg]; exact (below_size (by repeat (first | (with_reducible first | exact HB.out | apply below_alloc | apply pw_below_drewN | apply below_drew1) | exact HB.out))) : w.heap.size ≤ gb880)); have n4_ := Aside0.mk ((by rw [hg]; exact (below_size (by repeat (first | (with_reducible first | exact HB.out | apply below_alloc | apply pw_below_drewN | apply below_drew1) | exact HB.out))) : w.heap.size ≤ gb880)); clear HO877; clear HB; have HO877 := n0_; have HB := n1_; have BK880 := n2_; have GW880 := n3_; have GE880 := n4_; clear n0_ n1_ n2_ n3_ n4_; clear hb hbox hg; have hcz13_0 : w12.cell? ⟨gb880, 0, none⟩ = some (.int .i64 0) := (blk_cell BK880.out 0).trans rfl; have hcz13_1 : w12.cell? ⟨gb880, 1, none⟩ = some (.int .i64 0) := (blk_cell BK880.out 1).trans rfl; have hcz13_2 : w12.cell? ⟨gb880, 2, none⟩ = some (.slice none 0 0) := (blk_cell BK880.out 2).trans rfl; have hcz13_3 : w12.cell? ⟨gb880, 3, none⟩ = some (.int .i64 0) := (blk_cell BK880.out 3).trans rfl; have hfz13_0 := blk_frozen BK880.out 0; have hfz13_1 := blk_frozen BK880.out 1; have hfz13_2 := blk_frozen BK880.out 2; have hfz13_3 := blk_frozen BK880.out 3; obtain ⟨Ao14, co14, eo14⟩ := Kd.R_slice HO877.out; subst eo14))
        go_ret
        exact ⟨by first | rfl | (simp [errW_none, errW_some] <;> rfl) | (simp [*, errW_none, errW_some] <;> rfl), by repeat (first | (with_reducible first | exact HB.out | apply below_alloc | apply pw_below_drewN | apply below_drew1 | refine below_set ?_ GE880.out) | exact HB.out)⟩
      · rw [if_neg c10] at H
        have c10b0 : decide (t874 < (l1.length : Int)) = false := decide_eq_false c10
        clear c10
        have H' := Aside0.mk H
        clear H
        go_enter Tryd.func36, Tryd.ntmps36
        go_wp2_with (first | ((with_reducible refine gate_callee (f := 52) rfl ?_); refine goesL_ (some 11) rfl rfl Tryd.func52 (by kernel_rfl) rfl #[.string a0] rfl (by (try simp only [List.map_toArray, List.map_cons, List.map_nil]); first | done | rfl | (simp only [List.length_drop, List.length_take]; rfl)) ?_; (with_reducible refine (check_faceOf.calls a0 t873 t874 t875 t878 true _ A3.out).mono ?_); rintro e w15 ⟨v876, rfl, ho0, hb⟩; refine ⟨_, rfl, ?_⟩; have n0_ := Aside0.mk (Kd.R_lower ho0 (below_size (by repeat (first | (with_reducible first | exact HB.out | apply below_alloc | apply pw_below_drewN | apply below_drew1) | exact HB.out)))); have n1_ := Aside0.mk (below_step (by repeat (first | (with_reducible first | exact HB.out | apply below_alloc | apply pw_below_drewN | apply below_drew1) | exact HB.out)) hb); clear HB; have HO877 := n0_; have HB := n1_; clear n0_ n1_; (try clear hb); (try clear hb2); (try clear hk); (try clear hi); (try clear ho0)) | ((with_reducible refine gate_dst (N := 5) rfl ?_); (try (refine gate_guard (by rfl) ?_; dsimp only)); refine box_event ?hg (N := 5) ?hd (cs := #[.int .i64 0, .int .i64 0, .slice none 0 0, .int .i64 0]) (t := 93) ?hr ?_; (case hd => rfl); (case hg => rfl); (case hr => first | (go_simp; done) | (go_simp; rfl)); intro gb880 hg w16 hbox hb; have n0_ := Aside0.mk (Kd.R_below (by (with_reducible repeat (first | apply Kd.R_alloc | apply Kd.R_drewN | apply Kd.R_drew)); exact HO877.out) hb); have n1_ := Aside0.mk (below_step (by repeat (first | (with_reducible first | exact HB.out | apply below_alloc | apply pw_below_drewN | apply below_drew1) | exact HB.out)) hb); have n2_ := Aside0.mk (hbox); have n3_ := Aside0.mk ((by rw [hg]; exact (below_size (by repeat (first | (with_reducible first | exact HB.out | apply below_alloc | apply pw_below_drewN | apply below_drew1) | exact HB.out))) : w.heap.size ≤ gb880)); have n4_ := Aside0.mk ((by rw [hg]; exact (below_size (by repeat (first | (with_reducible first | exact HB.out | apply below_alloc | apply pw_below_drewN | apply below_drew1) | exact HB.out))) : w.heap.size ≤ gb880)); clear HO877; clear HB; have HO877 := n0_; have HB := n1_; have BK880 := n2_; have GW880 := n3_; have GE880 := n4_; clear n0_ n1_ n2_ n3_ n4_; clear hb hbox hg; have hcz17_0 : w16.cell? ⟨gb880, 0, none⟩ = some (.int .i64 0) := (blk_cell BK880.out 0).trans rfl; have hcz17_1 : w16.cell? ⟨gb880, 1, none⟩ = some (.int .i64 0) := (blk_cell BK880.out 1).trans rfl; have hcz17_2 : w16.cell? ⟨gb880, 2, none⟩ = some (.slice none 0 0) := (blk_cell BK880.out 2).trans rfl; have hcz17_3 : w16.cell? ⟨gb880, 3, none⟩ = some (.int .i64 0) := (blk_cell BK880.out 3).trans rfl; have hfz17_0 := blk_frozen BK880.out 0; have hfz17_1 := blk_frozen BK880.out 1; have hfz17_2 := blk_frozen BK880.out 2; have hfz17_3 := blk_frozen BK880.out 3; obtain ⟨Ao18, co18, eo18⟩ := Kd.R_slice HO877.out; subst eo18))
        go_loopg [32] k (fun kq v32 w' => ∃ (x32_1 : Int), v32 = .int .i64 x32_1 ∧ Aside0 (check_Fits.l0 kq l1 (l1.length : Int) x32_1 t873 t874 t875 t878 = some r) ∧ Aside0 (kq ≤ k) ∧ Aside0 (Kd.R (Kd.int .i64) 47 w' w.heap.size (fun _ => True) (.slice Ao18 t875.length co18) t875) ∧ Aside0 (w'.heap[gb880]? = some (.cells #[.int .i64 t873, .int .i64 t874, (.slice Ao18 t875.length co18), .int .i64 t878] 93 (0, 0))) ∧ Aside0 (Below w.heap.size w w'))
        case atStart => exact ⟨(0), (by first | rfl | (simp; done) | (simp [*]; done)), H', ⟨Nat.le_refl _⟩, ⟨by (with_reducible repeat (first | apply Kd.R_alloc | apply Kd.R_drewN | apply Kd.R_drew)); exact Kd.R_mono (Kd.R_far (p := ⟨gb880, 3, none⟩) (Kd.R_far (p := ⟨gb880, 2, none⟩) (Kd.R_far (p := ⟨gb880, 1, none⟩) (Kd.R_far (p := ⟨gb880, 0, none⟩) (Kd.R_types HO877.out BK880.out (by decide)) (fun _ hk => hk.2) (.int .i64 t873)) (fun _ hk => hk.2) (.int .i64 t874)) (fun _ hk => hk.2) (.slice Ao18 t875.length co18)) (fun _ hk => hk.2) (.int .i64 t878)) (fun _ hk => trivial)⟩, ⟨by (with_reducible repeat (first | refine blk_drewN ?_ _ | refine blk_drew ?_ | refine blk_alloc ?_ _)); refine blk_put (cs := #[.int .i64 t873, .int .i64 t874, .slice Ao18 t875.length co18, .int .i64 0]) ?_ 3 _ rfl; (with_reducible repeat (first | refine blk_drewN ?_ _ | refine blk_drew ?_ | refine blk_alloc ?_ _)); refine blk_put (cs := #[.int .i64 t873, .int .i64 t874, .slice none 0 0, .int .i64 0]) ?_ 2 _ rfl; (with_reducible repeat (first | refine blk_drewN ?_ _ | refine blk_drew ?_ | refine blk_alloc ?_ _)); refine blk_put (cs := #[.int .i64 t873, .int .i64 0, .slice none 0 0, .int .i64 0]) ?_ 1 _ rfl; (with_reducible repeat (first | refine blk_drewN ?_ _ | refine blk_drew ?_ | refine blk_alloc ?_ _)); refine blk_put (cs := #[.int .i64 0, .int .i64 0, .slice none 0 0, .int .i64 0]) ?_ 0 _ rfl; (with_reducible repeat (first | refine blk_drewN ?_ _ | refine blk_drew ?_ | refine blk_alloc ?_ _)); exact BK880.out⟩, ⟨by repeat (first | (with_reducible first | exact HB.out | apply below_alloc | apply pw_below_drewN | apply below_drew1 | refine below_set ?_ GE880.out) | exact HB.out)⟩⟩
        case round =>
          clear H'
          (try clear c1)
          obtain ⟨x32_1, rfl, HA, HK1, HO_881002, BK880, HB⟩ := hrel
          cases gk with
          | zero => exact absurd HA.out (by simp [check_Fits.l0])
          | succ k1 =>
            have H := HA.out
            clear HA
            simp only [check_Fits.l0] at H
            by_cases c19 : x32_1 < (l1.length : Int)
            · rw [if_pos c19] at H
              have c19b0 : decide (x32_1 < (l1.length : Int)) = true := decide_eq_true c19
              clear c19
              by_cases c20 : 0 ≤ x32_1
              · rw [if_pos c20] at H
                have c20b0 : decide (0 ≤ x32_1) = true := decide_eq_true c20
                clear c20
                by_cases c21 : x32_1 < (l1.length : Int)
                · rw [if_pos c21] at H
                  have c21b0 : decide (x32_1 < (l1.length : Int)) = true := decide_eq_true c21
                  clear c21
                  replace H := Option.bind_eq_some_iff.mp H
                  obtain ⟨t882, A220, H⟩ := H
                  replace H : (if (rd l1 x32_1) = t882 then (check_Fits.l0 k1 l1 (l1.length : Int) (wrap64 (x32_1 + 1)) t873 t874 t875 t878) else (some 35)) = some r := H
                  have A22 := Aside0.mk A220
                  clear A220
                  by_cases c23 : (rd l1 x32_1) = t882
                  · rw [if_pos c23] at H
                    have c23b0 : ((rd l1 x32_1) == t882) = true := beq_iff_eq.mpr c23
                    have c23b1 : ((rd l1 x32_1) != t882) = false := bne_eq_false_iff_eq.mpr c23
                    clear c23
                    have H' := Aside0.mk H
                    clear H
                    have p881 : 0 ≤ (x32_1 : Int) := of_decide_eq_true (by first | (with_reducible assumption) | assumption)
                    have q881 : x32_1 < (l1.length : Int) := of_decide_eq_true (by first | (with_reducible assumption) | assumption)
                    obtain ⟨ad881, e881, hx881_0⟩ := Kd.at_int HR1.out x32_1 p881 q881
                    cases e881
                    replace hx881_0 := (HB.out.cell (World.block_lt_of_cell? w _ hx881_0)).trans hx881_0
                    replace p881 := eq_true p881
                    replace q881 := eq_true q881
                    have hcz24_0 : wr.cell? ⟨gb880, 0, none⟩ = some (.int .i64 t873) := (blk_cell BK880.out 0).trans rfl
                    have hcz24_1 : wr.cell? ⟨gb880, 1, none⟩ = some (.int .i64 t874) := (blk_cell BK880.out 1).trans rfl
                    have hcz24_2 : wr.cell? ⟨gb880, 2, none⟩ = some (.slice Ao18 t875.length co18) := (blk_cell BK880.out 2).trans rfl
                    have hcz24_3 : wr.cell? ⟨gb880, 3, none⟩ = some (.int .i64 t878) := (blk_cell BK880.out 3).trans rfl
                    have hfz24_0 := blk_frozen BK880.out 0
                    have hfz24_1 := blk_frozen BK880.out 1
                    have hfz24_2 := blk_frozen BK880.out 2
                    have hfz24_3 := blk_frozen BK880.out 3
                    go_wp2_with (first | ((with_reducible refine gate_callee (f := 53) rfl ?_); refine goesL_ (some 40) rfl rfl Tryd.func53 (by kernel_rfl) rfl #[.agg #[.int .i64 t873, .int .i64 t874, .slice Ao18 t875.length co18, .int .i64 t878], .int .i64 x32_1] rfl (by (try simp only [List.map_toArray, List.map_cons, List.map_nil]); first | done | rfl | (simp only [List.length_drop, List.length_take]; rfl)) ?_; (with_reducible refine (check_face_at.calls t873 t874 _ _ t875 t878 x32_1 t882 _ ?side1 ?side2 A22.out).mono ?_); (case side1 => repeat (first | exact (Kd.R_reads' HO_881002.out).2.2 | (with_reducible refine Kd.C_alloc ?_ _) | (with_reducible refine Kd.C_drewN ?_ _) | (with_reducible refine Kd.C_drew ?_))); (case side2 => exact (Kd.R_reads' HO_881002.out).2.1); rintro e w25 ⟨rfl, hb⟩; refine ⟨_, rfl, ?_⟩; have n0_ := Aside0.mk (Kd.R_below (by (with_reducible repeat (first | apply Kd.R_alloc | apply Kd.R_drewN | apply Kd.R_drew)); exact HO_881002.out) hb); have n1_ := Aside0.mk (blk_below (g := gb880) (o := .cells #[.int .i64 t873, .int .i64 t874, .slice Ao18 t875.length co18, .int .i64 t878] 93 (0, 0)) (by (with_reducible repeat (first | refine blk_drewN ?_ _ | refine blk_drew ?_ | refine blk_alloc ?_ _)); exact BK880.out) hb); have n2_ := Aside0.mk (below_step (by repeat (first | (with_reducible first | exact HB.out | apply below_alloc | apply pw_below_drewN | apply below_drew1 | refine below_set ?_ GE880.out) | exact HB.out)) hb); clear HO_881002; clear BK880; clear HB; have HO_881002 := n0_; have BK880 := n1_; have HB := n2_; clear n0_ n1_ n2_; (try clear hb); (try clear hb2); (try clear hk); (try clear hi)))
                    go_roundg k1
                    case measure => have := HK1.out; omega
                    case rel => exact ⟨(wrap64 (x32_1 + 1)), (by first | rfl | (simp; done) | (simp [*]; done)), H', ⟨by have := HK1.out; omega⟩, ⟨by (with_reducible repeat (first | apply Kd.R_alloc | apply Kd.R_drewN | apply Kd.R_drew)); exact HO_881002.out⟩, ⟨by (with_reducible repeat (first | refine blk_drewN ?_ _ | refine blk_drew ?_ | refine blk_alloc ?_ _)); exact BK880.out⟩, ⟨by repeat (first | (with_reducible first | exact HB.out | apply below_alloc | apply pw_below_drewN | apply below_drew1 | refine below_set ?_ GE880.out) | exact HB.out)⟩⟩
                  · rw [if_neg c23] at H
                    have c23b0 : ((rd l1 x32_1) == t882) = false := beq_eq_false_iff_ne.mpr c23
                    have c23b1 : ((rd l1 x32_1) != t882) = true := bne_iff_ne.mpr c23
                    obtain rfl := Option.some.inj H
                    have p881 : 0 ≤ (x32_1 : Int) := of_decide_eq_true (by first | (with_reducible assumption) | assumption)
                    have q881 : x32_1 < (l1.length : Int) := of_decide_eq_true (by first | (with_reducible assumption) | assumption)
                    obtain ⟨ad881, e881, hx881_0⟩ := Kd.at_int HR1.out x32_1 p881 q881
                    cases e881
                    replace hx881_0 := (HB.out.cell (World.block_lt_of_cell? w _ hx881_0)).trans hx881_0
                    replace p881 := eq_true p881
                    replace q881 := eq_true q881
                    have hcz26_0 : wr.cell? ⟨gb880, 0, none⟩ = some (.int .i64 t873) := (blk_cell BK880.out 0).trans rfl
                    have hcz26_1 : wr.cell? ⟨gb880, 1, none⟩ = some (.int .i64 t874) := (blk_cell BK880.out 1).trans rfl
                    have hcz26_2 : wr.cell? ⟨gb880, 2, none⟩ = some (.slice Ao18 t875.length co18) := (blk_cell BK880.out 2).trans rfl
                    have hcz26_3 : wr.cell? ⟨gb880, 3, none⟩ = some (.int .i64 t878) := (blk_cell BK880.out 3).trans rfl
                    have hfz26_0 := blk_frozen BK880.out 0
                    have hfz26_1 := blk_frozen BK880.out 1
                    have hfz26_2 := blk_frozen BK880.out 2
                    have hfz26_3 := blk_frozen BK880.out 3
                    go_wp2_with (first | ((with_reducible refine gate_callee (f := 53) rfl ?_); refine goesL_ (some 40) rfl rfl Tryd.func53 (by kernel_rfl) rfl #[.agg #[.int .i64 t873, .int .i64 t874, .slice Ao18 t875.length co18, .int .i64 t878], .int .i64 x32_1] rfl (by (try simp only [List.map_toArray, List.map_cons, List.map_nil]); first | done | rfl | (simp only [List.length_drop, List.length_take]; rfl)) ?_; (with_reducible refine (check_face_at.calls t873 t874 _ _ t875 t878 x32_1 t882 _ ?side1 ?side2 A22.out).mono ?_); (case side1 => repeat (first | exact (Kd.R_reads' HO_881002.out).2.2 | (with_reducible refine Kd.C_alloc ?_ _) | (with_reducible refine Kd.C_drewN ?_ _) | (with_reducible refine Kd.C_drew ?_))); (case side2 => exact (Kd.R_reads' HO_881002.out).2.1); rintro e w27 ⟨rfl, hb⟩; refine ⟨_, rfl, ?_⟩; have n0_ := Aside0.mk (Kd.R_below (by (with_reducible repeat (first | apply Kd.R_alloc | apply Kd.R_drewN | apply Kd.R_drew)); exact HO_881002.out) hb); have n1_ := Aside0.mk (blk_below (g := gb880) (o := .cells #[.int .i64 t873, .int .i64 t874, .slice Ao18 t875.length co18, .int .i64 t878] 93 (0, 0)) (by (with_reducible repeat (first | refine blk_drewN ?_ _ | refine blk_drew ?_ | refine blk_alloc ?_ _)); exact BK880.out) hb); have n2_ := Aside0.mk (below_step (by repeat (first | (with_reducible first | exact HB.out | apply below_alloc | apply pw_below_drewN | apply below_drew1 | refine below_set ?_ GE880.out) | exact HB.out)) hb); clear HO_881002; clear BK880; clear HB; have HO_881002 := n0_; have BK880 := n1_; have HB := n2_; clear n0_ n1_ n2_; (try clear hb); (try clear hb2); (try clear hk); (try clear hi)))
                    go_ret
                    exact ⟨by first | rfl | (simp [errW_none, errW_some] <;> rfl) | (simp [*, errW_none, errW_some] <;> rfl), by repeat (first | (with_reducible first | exact HB.out | apply below_alloc | apply pw_below_drewN | apply below_drew1 | refine below_set ?_ GE880.out) | exact HB.out)⟩
                · rw [if_neg c21] at H
                  exact absurd H (by simp)
              · rw [if_neg c20] at H
                exact absurd H (by simp)
            · rw [if_neg c19] at H
              have c19b0 : decide (x32_1 < (l1.length : Int)) = false := decide_eq_false c19
              clear c19
              obtain rfl := Option.some.inj H
              go_wp2
              go_ret
              exact ⟨by first | rfl | (simp [errW_none, errW_some] <;> rfl) | (simp [*, errW_none, errW_some] <;> rfl), by repeat (first | (with_reducible first | exact HB.out | apply below_alloc | apply pw_below_drewN | apply below_drew1 | refine below_set ?_ GE880.out) | exact HB.out)⟩
  · replace c4 := Bool.eq_false_iff.mpr c4
    subst c4
    have H1 : (some 33) = some r := by rw [if_neg (show ¬ (false = true) by decide)] at H; exact H
    clear H
    have H := H1
    clear H1
    obtain rfl := Option.some.inj H
    go_enter Tryd.func36, Tryd.ntmps36
    go_wp2_with (first | ((with_reducible refine gate_callee (f := 52) rfl ?_); refine goesL_ (some 11) rfl rfl Tryd.func52 (by kernel_rfl) rfl #[.string a0] rfl (by (try simp only [List.map_toArray, List.map_cons, List.map_nil]); first | done | rfl | (simp only [List.length_drop, List.length_take]; rfl)) ?_; (with_reducible refine (check_faceOf.calls a0 t873 t874 t875 t878 false _ A3.out).mono ?_); rintro e w28 ⟨v876, rfl, ho0, hb⟩; refine ⟨_, rfl, ?_⟩; have n0_ := Aside0.mk (Kd.R_lower ho0 (below_size (by repeat (first | (with_reducible first | exact HB.out | apply below_alloc | apply pw_below_drewN | apply below_drew1) | exact HB.out)))); have n1_ := Aside0.mk (below_step (by repeat (first | (with_reducible first | exact HB.out | apply below_alloc | apply pw_below_drewN | apply below_drew1) | exact HB.out)) hb); clear HB; have HO877 := n0_; have HB := n1_; clear n0_ n1_; (try clear hb); (try clear hb2); (try clear hk); (try clear hi); (try clear ho0)) | ((with_reducible refine gate_dst (N := 5) rfl ?_); (try (refine gate_guard (by rfl) ?_; dsimp only)); refine box_event ?hg (N := 5) ?hd (cs := #[.int .i64 0, .int .i64 0, .slice none 0 0, .int .i64 0]) (t := 93) ?hr ?_; (case hd => rfl); (case hg => rfl); (case hr => first | (go_simp; done) | (go_simp; rfl)); intro gb880 hg w29 hbox hb; have n0_ := Aside0.mk (Kd.R_below (by (with_reducible repeat (first | apply Kd.R_alloc | apply Kd.R_drewN | apply Kd.R_drew)); exact HO877.out) hb); have n1_ := Aside0.mk (below_step (by repeat (first | (with_reducible first | exact HB.out | apply below_alloc | apply pw_below_drewN | apply below_drew1) | exact HB.out)) hb); have n2_ := Aside0.mk (hbox); have n3_ := Aside0.mk ((by rw [hg]; exact (below_size (by repeat (first | (with_reducible first | exact HB.out | apply below_alloc | apply pw_below_drewN | apply below_drew1) | exact HB.out))) : w.heap.size ≤ gb880)); have n4_ := Aside0.mk ((by rw [hg]; exact (below_size (by repeat (first | (with_reducible first | exact HB.out | apply below_alloc | apply pw_below_drewN | apply below_drew1) | exact HB.out))) : w.heap.size ≤ gb880)); clear HO877; clear HB; have HO877 := n0_; have HB := n1_; have BK880 := n2_; have GW880 := n3_; have GE880 := n4_; clear n0_ n1_ n2_ n3_ n4_; clear hb hbox hg; have hcz30_0 : w29.cell? ⟨gb880, 0, none⟩ = some (.int .i64 0) := (blk_cell BK880.out 0).trans rfl; have hcz30_1 : w29.cell? ⟨gb880, 1, none⟩ = some (.int .i64 0) := (blk_cell BK880.out 1).trans rfl; have hcz30_2 : w29.cell? ⟨gb880, 2, none⟩ = some (.slice none 0 0) := (blk_cell BK880.out 2).trans rfl; have hcz30_3 : w29.cell? ⟨gb880, 3, none⟩ = some (.int .i64 0) := (blk_cell BK880.out 3).trans rfl; have hfz30_0 := blk_frozen BK880.out 0; have hfz30_1 := blk_frozen BK880.out 1; have hfz30_2 := blk_frozen BK880.out 2; have hfz30_3 := blk_frozen BK880.out 3; obtain ⟨Ao31, co31, eo31⟩ := Kd.R_slice HO877.out; subst eo31))
    go_ret
    exact ⟨by first | rfl | (simp [errW_none, errW_some] <;> rfl) | (simp [*, errW_none, errW_some] <;> rfl), by repeat (first | (with_reducible first | exact HB.out | apply below_alloc | apply pw_below_drewN | apply below_drew1 | refine below_set ?_ GE880.out) | exact HB.out)⟩

end
section
open Go.RowKit Go.Proofs.YtfgfoofojofnmaaDoorW.PrintWords Go.Proofs.YtfgfoofojofnmaaDoorW.PrintLast Go.Proofs.YtfgfoofojofnmaaDoorW.PrintMore
attribute [local go_sem] Go.Proofs.YtfgfoofojofnmaaDoor.Hand.w64_mod256 Go.Proofs.YtfgfoofojofnmaaDoor.Hand.w64_mod32 max2_int min2_int max_two min_two max_three min_three max_four min_four   -- for this text's walks alone
set_option linter.unusedVariables false
set_option linter.unusedSimpArgs false

/-! ### forebearref24_Fits: function 37 -/
def forebearref24_Fits.l0 : Nat → List Int → List Int → Int → Option (Int)
  | 0, _, _, _ => none
  | k + 1, x1, x5, x7 => if x7 < (x1.length : Int) then (if 0 ≤ x7 then (if x7 < (x5.length : Int) then (if (rd x1 x7) = (rd x5 x7) then (forebearref24_Fits.l0 k x1 x5 (wrap64 (x7 + 1))) else (some 35)) else (none)) else (none)) else (some 0)
def forebearref24_Fits.f (k : Nat) (a0 : ByteArray) (l1 : List Int) : Option (Int) := (forebearref24_Names.f).bind fun t883 => ((forebearref24_among.f k a0 t883).bind fun t886 => (if t886 = true then ((forebearref24_takes.f k a0 (l1.length : Int)).bind fun bt887 => (if bt887.2 = true then (forebearref24_Fits.l0 k l1 bt887.1 0) else (some 34))) else (some 33)))
theorem forebearref24_Fits.mono_l : ∀ k, (∀ y0 y1 y2, LeO (forebearref24_Fits.l0 k y0 y1 y2) (forebearref24_Fits.l0 (k + 1) y0 y1 y2))
  | 0 => fun _ _ _ r h => by simp [forebearref24_Fits.l0] at h
  | k + 1 => by
    have ih0 := forebearref24_Fits.mono_l k
    · intro y0 y1 y2
      unfold forebearref24_Fits.l0
      repeat' first
      | (with_reducible exact ih0 _ _ _)
      | (with_reducible exact forebearref24_among.mono _ _ _)
      | (with_reducible exact forebearref24_takes.mono _ _ _)
      | (with_reducible exact LeO.refl _)
      | (with_reducible exact LeO.none _)
      | (with_reducible refine LeO.ite ?_ ?_)
      | (with_reducible refine LeO.bind ?_ (fun _ => ?_))
      | exact ih0 _ _ _
      | exact forebearref24_among.mono _ _ _
      | exact forebearref24_takes.mono _ _ _
      | exact LeO.none _
      | refine LeO.ite ?_ ?_
      | refine LeO.bind ?_ (fun _ => ?_)
theorem forebearref24_Fits.mono : ∀ a0 a1 k, LeO (forebearref24_Fits.f k a0 a1) (forebearref24_Fits.f (k + 1) a0 a1) := by
  intro a0 a1 k
  have ih0 := forebearref24_Fits.mono_l k
  unfold forebearref24_Fits.f
  repeat' first
      | (with_reducible exact ih0 _ _ _)
      | (with_reducible exact forebearref24_among.mono _ _ _)
      | (with_reducible exact forebearref24_takes.mono _ _ _)
      | (with_reducible exact LeO.refl _)
      | (with_reducible exact LeO.none _)
      | (with_reducible refine LeO.ite ?_ ?_)
      | (with_reducible refine LeO.bind ?_ (fun _ => ?_))
      | exact ih0 _ _ _
      | exact forebearref24_among.mono _ _ _
      | exact forebearref24_takes.mono _ _ _
      | exact LeO.none _
      | refine LeO.ite ?_ ?_
      | refine LeO.bind ?_ (fun _ => ?_)
set_option maxHeartbeats 8000000 in
set_option maxRecDepth 100000 in
theorem forebearref24_Fits.calls (k : Nat) (a0 : ByteArray) (A1 : Option Addr) (c1 : Nat) (l1 : List Int) (r : Int) (w : World) (hr1 : Kd.C (Kd.int .i64) w A1 l1.length l1) (hc1 : l1.length ≤ c1) (h : forebearref24_Fits.f k a0 l1 = some r) :
    Calls Tryd.prog 37 #[.string a0, .slice A1 l1.length c1] w fun e w' => e = .returned (.int .i64 r) ∧ Below w.heap.size w w' := by
  have HR1 := Aside0.mk hr1
  have HC1 := Aside0.mk hc1
  clear hr1 hc1
  have HB := Aside0.mk (Below.refl w.heap.size w)
  have H : ((forebearref24_Names.f).bind fun t883 => ((forebearref24_among.f k a0 t883).bind fun t886 => (if t886 = true then ((forebearref24_takes.f k a0 (l1.length : Int)).bind fun bt887 => (if bt887.2 = true then (forebearref24_Fits.l0 k l1 bt887.1 0) else (some 34))) else (some 33)))) = some r := h
  clear h
  replace H := Option.bind_eq_some_iff.mp H
  obtain ⟨t883, A30, H⟩ := H
  replace H : ((forebearref24_among.f k a0 t883).bind fun t886 => (if t886 = true then ((forebearref24_takes.f k a0 (l1.length : Int)).bind fun bt887 => (if bt887.2 = true then (forebearref24_Fits.l0 k l1 bt887.1 0) else (some 34))) else (some 33))) = some r := H
  have A3 := Aside0.mk A30
  clear A30
  replace H := Option.bind_eq_some_iff.mp H
  obtain ⟨t886, A40, H⟩ := H
  replace H : (if t886 = true then ((forebearref24_takes.f k a0 (l1.length : Int)).bind fun bt887 => (if bt887.2 = true then (forebearref24_Fits.l0 k l1 bt887.1 0) else (some 34))) else (some 33)) = some r := H
  have A4 := Aside0.mk A40
  clear A40
  by_cases c5 : t886 = true
  · subst c5
    have H1 : ((forebearref24_takes.f k a0 (l1.length : Int)).bind fun bt887 => (if bt887.2 = true then (forebearref24_Fits.l0 k l1 bt887.1 0) else (some 34))) = some r := by rw [if_pos rfl] at H; exact H
    clear H
    have H := H1
    clear H1
    replace H := Option.bind_eq_some_iff.mp H
    obtain ⟨⟨t887, t888⟩, A60, H⟩ := H
    replace H : (if t888 = true then (forebearref24_Fits.l0 k l1 t887 0) else (some 34)) = some r := H
    have A6 := Aside0.mk A60
    clear A60
    by_cases c7 : t888 = true
    · subst c7
      have H1 : (forebearref24_Fits.l0 k l1 t887 0) = some r := by rw [if_pos rfl] at H; exact H
      clear H
      have H := H1
      clear H1
      have H' := Aside0.mk H
      clear H
      go_enter Tryd.func37, Tryd.ntmps37
      go_wp2_with (first | (go_at_call 35; (with_reducible refine (forebearref24_Names.calls  t883 _ A3.out).mono ?_); rintro e w8 ⟨v884, rfl, ho0, hb⟩; have n0_ := Aside0.mk (Kd.R_lower ho0 (below_size (by repeat (first | (with_reducible first | exact HB.out | apply below_alloc | apply pw_below_drewN | apply below_drew1) | exact HB.out)))); have n1_ := Aside0.mk (below_step (by repeat (first | (with_reducible first | exact HB.out | apply below_alloc | apply pw_below_drewN | apply below_drew1) | exact HB.out)) hb); clear HB; have HO885 := n0_; have HB := n1_; clear n0_ n1_; (try clear hb); (try clear hb2); (try clear hk); (try clear hi); (try clear ho0); obtain ⟨Ao9, co9, eo9⟩ := Kd.R_slice HO885.out; subst eo9) | (go_at_call 54; (with_reducible refine (forebearref24_among.calls k a0 _ _ t883 true _ ?side1 ?side2 A4.out).mono ?_); (case side1 => repeat (first | exact (Kd.R_reads' HO885.out).2.2 | (with_reducible refine Kd.C_alloc ?_ _) | (with_reducible refine Kd.C_drewN ?_ _) | (with_reducible refine Kd.C_drew ?_))); (case side2 => exact (Kd.R_reads' HO885.out).2.1); rintro e w' ⟨rfl, ⟨nd, rfl⟩⟩; (try first | exact ⟨rfl, _, World.drewN_drewN _ _ _⟩ | exact ⟨rfl, _, Eq.trans (World.drewN_drewN _ _ _) (congrArg (World.drewN _) (Nat.add_assoc _ _ _))⟩)) | (go_at_call 55; (with_reducible refine (forebearref24_takes.calls k a0 (l1.length : Int) t887 true _ A6.out).mono ?_); rintro e w10 ⟨v889, rfl, ho0, hb⟩; have n0_ := Aside0.mk (Kd.R_below (by (with_reducible repeat (first | apply Kd.R_alloc | apply Kd.R_drewN | apply Kd.R_drew)); exact HO885.out) hb); have n1_ := Aside0.mk (Kd.R_lower ho0 (below_size (by repeat (first | (with_reducible first | exact HB.out | apply below_alloc | apply pw_below_drewN | apply below_drew1) | exact HB.out)))); have n2_ := Aside0.mk (below_step (by repeat (first | (with_reducible first | exact HB.out | apply below_alloc | apply pw_below_drewN | apply below_drew1) | exact HB.out)) hb); clear HO885; clear HB; have HO885 := n0_; have HO890 := n1_; have HB := n2_; clear n0_ n1_ n2_; (try clear hb); (try clear hb2); (try clear hk); (try clear hi); (try clear ho0)))
      repeat (go_quiet (first | (go_at_call 35; (with_reducible refine (forebearref24_Names.calls  t883 _ A3.out).mono ?_); rintro e w8 ⟨v884, rfl, ho0, hb⟩; have n0_ := Aside0.mk (Kd.R_lower ho0 (below_size (by repeat (first | (with_reducible first | exact HB.out | apply below_alloc | apply pw_below_drewN | apply below_drew1) | exact HB.out)))); have n1_ := Aside0.mk (below_step (by repeat (first | (with_reducible first | exact HB.out | apply below_alloc | apply pw_below_drewN | apply below_drew1) | exact HB.out)) hb); clear HB; have HO885 := n0_; have HB := n1_; clear n0_ n1_; (try clear hb); (try clear hb2); (try clear hk); (try clear hi); (try clear ho0); obtain ⟨Ao9, co9, eo9⟩ := Kd.R_slice HO885.out; subst eo9) | (go_at_call 54; (with_reducible refine (forebearref24_among.calls k a0 _ _ t883 true _ ?side1 ?side2 A4.out).mono ?_); (case side1 => repeat (first | exact (Kd.R_reads' HO885.out).2.2 | (with_reducible refine Kd.C_alloc ?_ _) | (with_reducible refine Kd.C_drewN ?_ _) | (with_reducible refine Kd.C_drew ?_))); (case side2 => exact (Kd.R_reads' HO885.out).2.1); rintro e w' ⟨rfl, ⟨nd, rfl⟩⟩; (try first | exact ⟨rfl, _, World.drewN_drewN _ _ _⟩ | exact ⟨rfl, _, Eq.trans (World.drewN_drewN _ _ _) (congrArg (World.drewN _) (Nat.add_assoc _ _ _))⟩)) | (go_at_call 55; (with_reducible refine (forebearref24_takes.calls k a0 (l1.length : Int) t887 true _ A6.out).mono ?_); rintro e w10 ⟨v889, rfl, ho0, hb⟩; have n0_ := Aside0.mk (Kd.R_below (by (with_reducible repeat (first | apply Kd.R_alloc | apply Kd.R_drewN | apply Kd.R_drew)); exact HO885.out) hb); have n1_ := Aside0.mk (Kd.R_lower ho0 (below_size (by repeat (first | (with_reducible first | exact HB.out | apply below_alloc | apply pw_below_drewN | apply below_drew1) | exact HB.out)))); have n2_ := Aside0.mk (below_step (by repeat (first | (with_reducible first | exact HB.out | apply below_alloc | apply pw_below_drewN | apply below_drew1) | exact HB.out)) hb); clear HO885; clear HB; have HO885 := n0_; have HO890 := n1_; have HB := n2_; clear n0_ n1_ n2_; (try clear hb); (try clear hb2); (try clear hk); (try clear hi); (try clear ho0))); try go_wp2_with (first | (go_at_call 35; (with_reducible refine (forebearref24_Names.calls  t883 _ A3.out).mono ?_); rintro e w8 ⟨v884, rfl, ho0, hb⟩; have n0_ := Aside0.mk (Kd.R_lower ho0 (below_size (by repeat (first | (with_reducible first | exact HB.out | apply below_alloc | apply pw_below_drewN | apply below_drew1) | exact HB.out)))); have n1_ := Aside0.mk (below_step (by repeat (first | (with_reducible first | exact HB.out | apply below_alloc | apply pw_below_drewN | apply below_drew1) | exact HB.out)) hb); clear HB; have HO885 := n0_; have HB := n1_; clear n0_ n1_; (try clear hb); (try clear hb2); (try clear hk); (try clear hi); (try clear ho0); obtain ⟨Ao9, co9, eo9⟩ := Kd.R_slice HO885.out; subst eo9) | (go_at_call 54; (with_reducible refine (forebearref24_among.calls k a0 _ _ t883 true _ ?side1 ?side2 A4.out).mono ?_); (case side1 => repeat (first | exact (Kd.R_reads' HO885.out).2.2 | (with_reducible refine Kd.C_alloc ?_ _) | (with_reducible refine Kd.C_drewN ?_ _) | (with_reducible refine Kd.C_drew ?_))); (case side2 => exact (Kd.R_reads' HO885.out).2.1); rintro e w' ⟨rfl, ⟨nd, rfl⟩⟩; (try first | exact ⟨rfl, _, World.drewN_drewN _ _ _⟩ | exact ⟨rfl, _, Eq.trans (World.drewN_drewN _ _ _) (congrArg (World.drewN _) (Nat.add_assoc _ _ _))⟩)) | (go_at_call 55; (with_reducible refine (forebearref24_takes.calls k a0 (l1.length : Int) t887 true _ A6.out).mono ?_); rintro e w10 ⟨v889, rfl, ho0, hb⟩; have n0_ := Aside0.mk (Kd.R_below (by (with_reducible repeat (first | apply Kd.R_alloc | apply Kd.R_drewN | apply Kd.R_drew)); exact HO885.out) hb); have n1_ := Aside0.mk (Kd.R_lower ho0 (below_size (by repeat (first | (with_reducible first | exact HB.out | apply below_alloc | apply pw_below_drewN | apply below_drew1) | exact HB.out)))); have n2_ := Aside0.mk (below_step (by repeat (first | (with_reducible first | exact HB.out | apply below_alloc | apply pw_below_drewN | apply below_drew1) | exact HB.out)) hb); clear HO885; clear HB; have HO885 := n0_; have HO890 := n1_; have HB := n2_; clear n0_ n1_ n2_; (try clear hb); (try clear hb2); (try clear hk); (try clear hi); (try clear ho0))))
      go_loopg [7] k (fun kq v7 w' => ∃ (x7_1 : Int), v7 = .int .i64 x7_1 ∧ Aside0 (forebearref24_Fits.l0 kq l1 t887 x7_1 = some r) ∧ Aside0 (kq ≤ k) ∧ Aside0 (Kd.R (Kd.int .i64) 3 w' w.heap.size (fun _ => True) v889 t887) ∧ Aside0 (Below w.heap.size w w'))
      case atStart => exact ⟨(0), (by first | rfl | (simp; done) | (simp [*]; done)), H', ⟨Nat.le_refl _⟩, ⟨by (with_reducible repeat (first | apply Kd.R_alloc | apply Kd.R_drewN | apply Kd.R_drew)); exact HO890.out⟩, ⟨by repeat (first | (with_reducible first | exact HB.out | apply below_alloc | apply pw_below_drewN | apply below_drew1) | exact HB.out)⟩⟩
      case round =>
        clear H'
        (try clear c1)
        obtain ⟨x7_1, rfl, HA, HK1, HO_5, HB⟩ := hrel
        cases gk with
        | zero => exact absurd HA.out (by simp [forebearref24_Fits.l0])
        | succ k1 =>
          have H := HA.out
          clear HA
          simp only [forebearref24_Fits.l0] at H
          by_cases c11 : x7_1 < (l1.length : Int)
          · rw [if_pos c11] at H
            have c11b0 : decide (x7_1 < (l1.length : Int)) = true := decide_eq_true c11
            clear c11
            by_cases c12 : 0 ≤ x7_1
            · rw [if_pos c12] at H
              have c12b0 : decide (0 ≤ x7_1) = true := decide_eq_true c12
              clear c12
              by_cases c13 : x7_1 < (t887.length : Int)
              · rw [if_pos c13] at H
                have c13b0 : decide (x7_1 < (t887.length : Int)) = true := decide_eq_true c13
                clear c13
                by_cases c14 : (rd l1 x7_1) = (rd t887 x7_1)
                · rw [if_pos c14] at H
                  have c14b0 : ((rd l1 x7_1) == (rd t887 x7_1)) = true := beq_iff_eq.mpr c14
                  have c14b1 : ((rd l1 x7_1) != (rd t887 x7_1)) = false := bne_eq_false_iff_eq.mpr c14
                  clear c14
                  have H' := Aside0.mk H
                  clear H
                  have p891 : 0 ≤ (x7_1 : Int) := of_decide_eq_true (by first | (with_reducible assumption) | assumption)
                  have q891 : x7_1 < (l1.length : Int) := of_decide_eq_true (by first | (with_reducible assumption) | assumption)
                  obtain ⟨ad891, e891, hx891_0⟩ := Kd.at_int HR1.out x7_1 p891 q891
                  cases e891
                  replace hx891_0 := (HB.out.cell (World.block_lt_of_cell? w _ hx891_0)).trans hx891_0
                  replace p891 := eq_true p891
                  replace q891 := eq_true q891
                  obtain ⟨Ao15, co15, eo15⟩ := Kd.R_slice HO_5.out
                  subst eo15
                  have p892 : 0 ≤ (x7_1 : Int) := of_decide_eq_true (by first | (with_reducible assumption) | assumption)
                  have q892 : x7_1 < (t887.length : Int) := of_decide_eq_true (by first | (with_reducible assumption) | assumption)
                  obtain ⟨ad892, e892, hx892_0⟩ := Kd.at_int (Kd.R_reads' HO_5.out).2.2 x7_1 p892 q892
                  cases e892
                  replace p892 := eq_true p892
                  replace q892 := eq_true q892
                  go_wp2
                  repeat (go_quiet (fail); try go_wp2)
                  go_roundg k1
                  case measure => have := HK1.out; omega
                  case rel => exact ⟨(wrap64 (x7_1 + 1)), (by first | rfl | (simp; done) | (simp [*]; done)), H', ⟨by have := HK1.out; omega⟩, ⟨by (with_reducible repeat (first | apply Kd.R_alloc | apply Kd.R_drewN | apply Kd.R_drew)); exact HO_5.out⟩, ⟨by repeat (first | (with_reducible first | exact HB.out | apply below_alloc | apply pw_below_drewN | apply below_drew1) | exact HB.out)⟩⟩
                · rw [if_neg c14] at H
                  have c14b0 : ((rd l1 x7_1) == (rd t887 x7_1)) = false := beq_eq_false_iff_ne.mpr c14
                  have c14b1 : ((rd l1 x7_1) != (rd t887 x7_1)) = true := bne_iff_ne.mpr c14
                  obtain rfl := Option.some.inj H
                  have p891 : 0 ≤ (x7_1 : Int) := of_decide_eq_true (by first | (with_reducible assumption) | assumption)
                  have q891 : x7_1 < (l1.length : Int) := of_decide_eq_true (by first | (with_reducible assumption) | assumption)
                  obtain ⟨ad891, e891, hx891_0⟩ := Kd.at_int HR1.out x7_1 p891 q891
                  cases e891
                  replace hx891_0 := (HB.out.cell (World.block_lt_of_cell? w _ hx891_0)).trans hx891_0
                  replace p891 := eq_true p891
                  replace q891 := eq_true q891
                  obtain ⟨Ao16, co16, eo16⟩ := Kd.R_slice HO_5.out
                  subst eo16
                  have p892 : 0 ≤ (x7_1 : Int) := of_decide_eq_true (by first | (with_reducible assumption) | assumption)
                  have q892 : x7_1 < (t887.length : Int) := of_decide_eq_true (by first | (with_reducible assumption) | assumption)
                  obtain ⟨ad892, e892, hx892_0⟩ := Kd.at_int (Kd.R_reads' HO_5.out).2.2 x7_1 p892 q892
                  cases e892
                  replace p892 := eq_true p892
                  replace q892 := eq_true q892
                  go_wp2
                  repeat (go_quiet (fail); try go_wp2)
                  go_ret
                  exact ⟨by first | rfl | (simp [errW_none, errW_some] <;> rfl) | (simp [*, errW_none, errW_some] <;> rfl), by repeat (first | (with_reducible first | exact HB.out | apply below_alloc | apply pw_below_drewN | apply below_drew1) | exact HB.out)⟩
              · rw [if_neg c13] at H
                exact absurd H (by simp)
            · rw [if_neg c12] at H
              exact absurd H (by simp)
          · rw [if_neg c11] at H
            have c11b0 : decide (x7_1 < (l1.length : Int)) = false := decide_eq_false c11
            clear c11
            obtain rfl := Option.some.inj H
            go_wp2
            repeat (go_quiet (fail); try go_wp2)
            go_ret
            exact ⟨by first | rfl | (simp [errW_none, errW_some] <;> rfl) | (simp [*, errW_none, errW_some] <;> rfl), by repeat (first | (with_reducible first | exact HB.out | apply below_alloc | apply pw_below_drewN | apply below_drew1) | exact HB.out)⟩
    · replace c7 := Bool.eq_false_iff.mpr c7
      subst c7
      have H1 : (some 34) = some r := by rw [if_neg (show ¬ (false = true) by decide)] at H; exact H
      clear H
      have H := H1
      clear H1
      obtain rfl := Option.some.inj H
      go_enter Tryd.func37, Tryd.ntmps37
      go_wp2_with (first | (go_at_call 35; (with_reducible refine (forebearref24_Names.calls  t883 _ A3.out).mono ?_); rintro e w17 ⟨v884, rfl, ho0, hb⟩; have n0_ := Aside0.mk (Kd.R_lower ho0 (below_size (by repeat (first | (with_reducible first | exact HB.out | apply below_alloc | apply pw_below_drewN | apply below_drew1) | exact HB.out)))); have n1_ := Aside0.mk (below_step (by repeat (first | (with_reducible first | exact HB.out | apply below_alloc | apply pw_below_drewN | apply below_drew1) | exact HB.out)) hb); clear HB; have HO885 := n0_; have HB := n1_; clear n0_ n1_; (try clear hb); (try clear hb2); (try clear hk); (try clear hi); (try clear ho0); obtain ⟨Ao18, co18, eo18⟩ := Kd.R_slice HO885.out; subst eo18) | (go_at_call 54; (with_reducible refine (forebearref24_among.calls k a0 _ _ t883 true _ ?side1 ?side2 A4.out).mono ?_); (case side1 => repeat (first | exact (Kd.R_reads' HO885.out).2.2 | (with_reducible refine Kd.C_alloc ?_ _) | (with_reducible refine Kd.C_drewN ?_ _) | (with_reducible refine Kd.C_drew ?_))); (case side2 => exact (Kd.R_reads' HO885.out).2.1); rintro e w' ⟨rfl, ⟨nd, rfl⟩⟩; (try first | exact ⟨rfl, _, World.drewN_drewN _ _ _⟩ | exact ⟨rfl, _, Eq.trans (World.drewN_drewN _ _ _) (congrArg (World.drewN _) (Nat.add_assoc _ _ _))⟩)) | (go_at_call 55; (with_reducible refine (forebearref24_takes.calls k a0 (l1.length : Int) t887 false _ A6.out).mono ?_); rintro e w19 ⟨v889, rfl, ho0, hb⟩; have n0_ := Aside0.mk (Kd.R_below (by (with_reducible repeat (first | apply Kd.R_alloc | apply Kd.R_drewN | apply Kd.R_drew)); exact HO885.out) hb); have n1_ := Aside0.mk (Kd.R_lower ho0 (below_size (by repeat (first | (with_reducible first | exact HB.out | apply below_alloc | apply pw_below_drewN | apply below_drew1) | exact HB.out)))); have n2_ := Aside0.mk (below_step (by repeat (first | (with_reducible first | exact HB.out | apply below_alloc | apply pw_below_drewN | apply below_drew1) | exact HB.out)) hb); clear HO885; clear HB; have HO885 := n0_; have HO890 := n1_; have HB := n2_; clear n0_ n1_ n2_; (try clear hb); (try clear hb2); (try clear hk); (try clear hi); (try clear ho0)))
      repeat (go_quiet (first | (go_at_call 35; (with_reducible refine (forebearref24_Names.calls  t883 _ A3.out).mono ?_); rintro e w17 ⟨v884, rfl, ho0, hb⟩; have n0_ := Aside0.mk (Kd.R_lower ho0 (below_size (by repeat (first | (with_reducible first | exact HB.out | apply below_alloc | apply pw_below_drewN | apply below_drew1) | exact HB.out)))); have n1_ := Aside0.mk (below_step (by repeat (first | (with_reducible first | exact HB.out | apply below_alloc | apply pw_below_drewN | apply below_drew1) | exact HB.out)) hb); clear HB; have HO885 := n0_; have HB := n1_; clear n0_ n1_; (try clear hb); (try clear hb2); (try clear hk); (try clear hi); (try clear ho0); obtain ⟨Ao18, co18, eo18⟩ := Kd.R_slice HO885.out; subst eo18) | (go_at_call 54; (with_reducible refine (forebearref24_among.calls k a0 _ _ t883 true _ ?side1 ?side2 A4.out).mono ?_); (case side1 => repeat (first | exact (Kd.R_reads' HO885.out).2.2 | (with_reducible refine Kd.C_alloc ?_ _) | (with_reducible refine Kd.C_drewN ?_ _) | (with_reducible refine Kd.C_drew ?_))); (case side2 => exact (Kd.R_reads' HO885.out).2.1); rintro e w' ⟨rfl, ⟨nd, rfl⟩⟩; (try first | exact ⟨rfl, _, World.drewN_drewN _ _ _⟩ | exact ⟨rfl, _, Eq.trans (World.drewN_drewN _ _ _) (congrArg (World.drewN _) (Nat.add_assoc _ _ _))⟩)) | (go_at_call 55; (with_reducible refine (forebearref24_takes.calls k a0 (l1.length : Int) t887 false _ A6.out).mono ?_); rintro e w19 ⟨v889, rfl, ho0, hb⟩; have n0_ := Aside0.mk (Kd.R_below (by (with_reducible repeat (first | apply Kd.R_alloc | apply Kd.R_drewN | apply Kd.R_drew)); exact HO885.out) hb); have n1_ := Aside0.mk (Kd.R_lower ho0 (below_size (by repeat (first | (with_reducible first | exact HB.out | apply below_alloc | apply pw_below_drewN | apply below_drew1) | exact HB.out)))); have n2_ := Aside0.mk (below_step (by repeat (first | (with_reducible first | exact HB.out | apply below_alloc | apply pw_below_drewN | apply below_drew1) | exact HB.out)) hb); clear HO885; clear HB; have HO885 := n0_; have HO890 := n1_; have HB := n2_; clear n0_ n1_ n2_; (try clear hb); (try clear hb2); (try clear hk); (try clear hi); (try clear ho0))); try go_wp2_with (first | (go_at_call 35; (with_reducible refine (forebearref24_Names.calls  t883 _ A3.out).mono ?_); rintro e w17 ⟨v884, rfl, ho0, hb⟩; have n0_ := Aside0.mk (Kd.R_lower ho0 (below_size (by repeat (first | (with_reducible first | exact HB.out | apply below_alloc | apply pw_below_drewN | apply below_drew1) | exact HB.out)))); have n1_ := Aside0.mk (below_step (by repeat (first | (with_reducible first | exact HB.out | apply below_alloc | apply pw_below_drewN | apply below_drew1) | exact HB.out)) hb); clear HB; have HO885 := n0_; have HB := n1_; clear n0_ n1_; (try clear hb); (try clear hb2); (try clear hk); (try clear hi); (try clear ho0); obtain ⟨Ao18, co18, eo18⟩ := Kd.R_slice HO885.out; subst eo18) | (go_at_call 54; (with_reducible refine (forebearref24_among.calls k a0 _ _ t883 true _ ?side1 ?side2 A4.out).mono ?_); (case side1 => repeat (first | exact (Kd.R_reads' HO885.out).2.2 | (with_reducible refine Kd.C_alloc ?_ _) | (with_reducible refine Kd.C_drewN ?_ _) | (with_reducible refine Kd.C_drew ?_))); (case side2 => exact (Kd.R_reads' HO885.out).2.1); rintro e w' ⟨rfl, ⟨nd, rfl⟩⟩; (try first | exact ⟨rfl, _, World.drewN_drewN _ _ _⟩ | exact ⟨rfl, _, Eq.trans (World.drewN_drewN _ _ _) (congrArg (World.drewN _) (Nat.add_assoc _ _ _))⟩)) | (go_at_call 55; (with_reducible refine (forebearref24_takes.calls k a0 (l1.length : Int) t887 false _ A6.out).mono ?_); rintro e w19 ⟨v889, rfl, ho0, hb⟩; have n0_ := Aside0.mk (Kd.R_below (by (with_reducible repeat (first | apply Kd.R_alloc | apply Kd.R_drewN | apply Kd.R_drew)); exact HO885.out) hb); have n1_ := Aside0.mk (Kd.R_lower ho0 (below_size (by repeat (first | (with_reducible first | exact HB.out | apply below_alloc | apply pw_below_drewN | apply below_drew1) | exact HB.out)))); have n2_ := Aside0.mk (below_step (by repeat (first | (with_reducible first | exact HB.out | apply below_alloc | apply pw_below_drewN | apply below_drew1) | exact HB.out)) hb); clear HO885; clear HB; have HO885 := n0_; have HO890 := n1_; have HB := n2_; clear n0_ n1_ n2_; (try clear hb); (try clear hb2); (try clear hk); (try clear hi); (try clear ho0))))
      go_ret
      exact ⟨by first | rfl | (simp [errW_none, errW_some] <;> rfl) | (simp [*, errW_none, errW_some] <;> rfl), by repeat (first | (with_reducible first | exact HB.out | apply below_alloc | apply pw_below_drewN | apply below_drew1) | exact HB.out)⟩
  · replace c5 := Bool.eq_false_iff.mpr c5
    subst c5
    have H1 : (some 33) = some r := by rw [if_neg (show ¬ (false = true) by decide)] at H; exact H
    clear H
    have H := H1
    clear H1
    obtain rfl := Option.some.inj H
    go_enter Tryd.func37, Tryd.ntmps37
    go_wp2_with (first | (go_at_call 35; (with_reducible refine (forebearref24_Names.calls  t883 _ A3.out).mono ?_); rintro e w20 ⟨v884, rfl, ho0, hb⟩; have n0_ := Aside0.mk (Kd.R_lower ho0 (below_size (by repeat (first | (with_reducible first | exact HB.out | apply below_alloc | apply pw_below_drewN | apply below_drew1) | exact HB.out)))); have n1_ := Aside0.mk (below_step (by repeat (first | (with_reducible first | exact HB.out | apply below_alloc | apply pw_below_drewN | apply below_drew1) | exact HB.out)) hb); clear HB; have HO885 := n0_; have HB := n1_; clear n0_ n1_; (try clear hb); (try clear hb2); (try clear hk); (try clear hi); (try clear ho0); obtain ⟨Ao21, co21, eo21⟩ := Kd.R_slice HO885.out; subst eo21) | (go_at_call 54; (with_reducible refine (forebearref24_among.calls k a0 _ _ t883 false _ ?side1 ?side2 A4.out).mono ?_); (case side1 => repeat (first | exact (Kd.R_reads' HO885.out).2.2 | (with_reducible refine Kd.C_alloc ?_ _) | (with_reducible refine Kd.C_drewN ?_ _) | (with_reducible refine Kd.C_drew ?_))); (case side2 => exact (Kd.R_reads' HO885.out).2.1); rintro e w' ⟨rfl, ⟨nd, rfl⟩⟩; (try first | exact ⟨rfl, _, World.drewN_drewN _ _ _⟩ | exact ⟨rfl, _, Eq.trans (World.drewN_drewN _ _ _) (congrArg (World.drewN _) (Nat.add_assoc _ _ _))⟩)))
    repeat (go_quiet (first | (go_at_call 35; (with_reducible refine (forebearref24_Names.calls  t883 _ A3.out).mono ?_); rintro e w20 ⟨v884, rfl, ho0, hb⟩; have n0_ := Aside0.mk (Kd.R_lower ho0 (below_size (by repeat (first | (with_reducible first | exact HB.out | apply below_alloc | apply pw_below_drewN | apply below_drew1) | exact HB.out)))); have n1_ := Aside0.mk (below_step (by repeat (first | (with_reducible first | exact HB.out | apply below_alloc | apply pw_below_drewN | apply below_drew1) | exact HB.out)) hb); clear HB; have HO885 := n0_; have HB := n1_; clear n0_ n1_; (try clear hb); (try clear hb2); (try clear hk); (try clear hi); (try clear ho0); obtain ⟨Ao21, co21, eo21⟩ := Kd.R_slice HO885.out; subst eo21) | (go_at_call 54; (with_reducible refine (forebearref24_among.calls k a0 _ _ t883 false _ ?side1 ?side2 A4.out).mono ?_); (case side1 => repeat (first | exact (Kd.R_reads' HO885.out).2.2 | (with_reducible refine Kd.C_alloc ?_ _) | (with_reducible refine Kd.C_drewN ?_ _) | (with_reducible refine Kd.C_drew ?_))); (case side2 => exact (Kd.R_reads' HO885.out).2.1); rintro e w' ⟨rfl, ⟨nd, rfl⟩⟩; (try first | exact ⟨rfl, _, World.drewN_drewN _ _ _⟩ | exact ⟨rfl, _, Eq.trans (World.drewN_drewN _ _ _) (congrArg (World.drewN _) (Nat.add_assoc _ _ _))⟩))); try go_wp2_with (first | (go_at_call 35; (with_reducible refine (forebearref24_Names.calls  t883 _ A3.out).mono ?_); rintro e w20 ⟨v884, rfl, ho0, hb⟩; have n0_ := Aside0.mk (Kd.R_lower ho0 (below_size (by repeat (first | (with_reducible first | exact HB.out | apply below_alloc | apply pw_below_drewN | apply below_drew1) | exact HB.out)))); have n1_ := Aside0.mk (below_step (by repeat (first | (with_reducible first | exact HB.out | apply below_alloc | apply pw_below_drewN | apply below_drew1) | exact HB.out)) hb); clear HB; have HO885 := n0_; have HB := n1_; clear n0_ n1_; (try clear hb); (try clear hb2); (try clear hk); (try clear hi); (try clear ho0); obtain ⟨Ao21, co21, eo21⟩ := Kd.R_slice HO885.out; subst eo21) | (go_at_call 54; (with_reducible refine (forebearref24_among.calls k a0 _ _ t883 false _ ?side1 ?side2 A4.out).mono ?_); (case side1 => repeat (first | exact (Kd.R_reads' HO885.out).2.2 | (with_reducible refine Kd.C_alloc ?_ _) | (with_reducible refine Kd.C_drewN ?_ _) | (with_reducible refine Kd.C_drew ?_))); (case side2 => exact (Kd.R_reads' HO885.out).2.1); rintro e w' ⟨rfl, ⟨nd, rfl⟩⟩; (try first | exact ⟨rfl, _, World.drewN_drewN _ _ _⟩ | exact ⟨rfl, _, Eq.trans (World.drewN_drewN _ _ _) (congrArg (World.drewN _) (Nat.add_assoc _ _ _))⟩))))
    go_ret
    exact ⟨by first | rfl | (simp [errW_none, errW_some] <;> rfl) | (simp [*, errW_none, errW_some] <;> rfl), by repeat (first | (with_reducible first | exact HB.out | apply below_alloc | apply pw_below_drewN | apply below_drew1) | exact HB.out)⟩

end
section
open Go.RowKit Go.Proofs.YtfgfoofojofnmaaDoorW.PrintWords Go.Proofs.YtfgfoofojofnmaaDoorW.PrintLast Go.Proofs.YtfgfoofojofnmaaDoorW.PrintMore
attribute [local go_sem] Go.Proofs.YtfgfoofojofnmaaDoor.Hand.w64_mod256 Go.Proofs.YtfgfoofojofnmaaDoor.Hand.w64_mod32 max2_int min2_int max_two min_two max_three min_three max_four min_four   -- for this text's walks alone
set_option linter.unusedVariables false
set_option linter.unusedSimpArgs false

/-! ### forebearlaw24_CheckFits: function 13 -/
mutual
def forebearlaw24_CheckFits.l0 : Nat → ByteArray → List Int → List Int → Int → Option (Bool)
  | 0, _, _, _, _ => none
  | k + 1, x0, x1, x5, x6 => if x6 < (x1.length : Int) then (if 0 ≤ x6 then (if x5.length < 17592186044416 then (forebearlaw24_CheckFits.l0 k x0 x1 (x5 ++ [rd x1 x6]) (wrap64 (x6 + 1))) else (none)) else (none)) else ((check_Functions.f).bind fun t898 => ((forebearref24_Names.f).bind fun t901 => ((forebearref03_Same.f k t898 t901).bind fun t904 => (forebearlaw24_CheckFits.l1 k x0 x1 x5 t898 t904 0))))
def forebearlaw24_CheckFits.l1 : Nat → ByteArray → List Int → List Int → List ByteArray → Bool → Int → Option (Bool)
  | 0, _, _, _, _, _, _ => none
  | k + 1, x0, x1, x5, x7, x8, x9 => if x9 < (x7.length : Int) then (if 0 ≤ x9 then (forebearlaw24_CheckFits.l1 k x0 x1 x5 (x7.set (x9 : Int).toNat (⟨#[109, 97, 114, 107, 101, 100]⟩ : ByteArray)) x8 (wrap64 (x9 + 1))) else (none)) else (if x8 = true then ((check_Fits.f k x0 x5).bind fun t906 => ((forebearref24_Fits.f k x0 x1).bind fun t907 => (if t906 = t907 then ((check_Functions.f).bind fun t908 => ((forebearref24_Names.f).bind fun t911 => ((forebearref03_Same.f k t908 t911).bind fun t914 => (some t914)))) else (some false)))) else (some false))
end
def forebearlaw24_CheckFits.f (k : Nat) (a0 : ByteArray) (l1 : List Int) : Option (Bool) := (forebearlaw24_awake.f).bind fun t893 => (if t893 = true then (forebearlaw24_CheckFits.l0 k a0 l1 ([] : List Int) 0) else (some false))
theorem forebearlaw24_CheckFits.mono_l : ∀ k, (∀ y0 y1 y2 y3, LeO (forebearlaw24_CheckFits.l0 k y0 y1 y2 y3) (forebearlaw24_CheckFits.l0 (k + 1) y0 y1 y2 y3)) ∧ (∀ y0 y1 y2 y3 y4 y5, LeO (forebearlaw24_CheckFits.l1 k y0 y1 y2 y3 y4 y5) (forebearlaw24_CheckFits.l1 (k + 1) y0 y1 y2 y3 y4 y5))
  | 0 => ⟨fun _ _ _ _ r h => by simp [forebearlaw24_CheckFits.l0] at h, fun _ _ _ _ _ _ r h => by simp [forebearlaw24_CheckFits.l1] at h⟩
  | k + 1 => by
    obtain ⟨ih0, ih1⟩ := forebearlaw24_CheckFits.mono_l k
    refine ⟨?_, ?_⟩
    · intro y0 y1 y2 y3
      unfold forebearlaw24_CheckFits.l0
      repeat' first
      | (with_reducible exact ih0 _ _ _ _)
      | (with_reducible exact ih1 _ _ _ _ _ _)
      | (with_reducible exact check_Fits.mono _ _ _)
      | (with_reducible exact forebearref03_Same.mono _ _ _)
      | (with_reducible exact forebearref24_Fits.mono _ _ _)
      | (with_reducible exact LeO.refl _)
      | (with_reducible exact LeO.none _)
      | (with_reducible refine LeO.ite ?_ ?_)
      | (with_reducible refine LeO.bind ?_ (fun _ => ?_))
      | exact ih0 _ _ _ _
      | exact ih1 _ _ _ _ _ _
      | exact check_Fits.mono _ _ _
      | exact forebearref03_Same.mono _ _ _
      | exact forebearref24_Fits.mono _ _ _
      | exact LeO.none _
      | refine LeO.ite ?_ ?_
      | refine LeO.bind ?_ (fun _ => ?_)
    · intro y0 y1 y2 y3 y4 y5
      unfold forebearlaw24_CheckFits.l1
      repeat' first
      | (with_reducible exact ih0 _ _ _ _)
      | (with_reducible exact ih1 _ _ _ _ _ _)
      | (with_reducible exact check_Fits.mono _ _ _)
      | (with_reducible exact forebearref03_Same.mono _ _ _)
      | (with_reducible exact forebearref24_Fits.mono _ _ _)
      | (with_reducible exact LeO.refl _)
      | (with_reducible exact LeO.none _)
      | (with_reducible refine LeO.ite ?_ ?_)
      | (with_reducible refine LeO.bind ?_ (fun _ => ?_))
      | exact ih0 _ _ _ _
      | exact ih1 _ _ _ _ _ _
      | exact check_Fits.mono _ _ _
      | exact forebearref03_Same.mono _ _ _
      | exact forebearref24_Fits.mono _ _ _
      | exact LeO.none _
      | refine LeO.ite ?_ ?_
      | refine LeO.bind ?_ (fun _ => ?_)
theorem forebearlaw24_CheckFits.mono : ∀ a0 a1 k, LeO (forebearlaw24_CheckFits.f k a0 a1) (forebearlaw24_CheckFits.f (k + 1) a0 a1) := by
  intro a0 a1 k
  obtain ⟨ih0, ih1⟩ := forebearlaw24_CheckFits.mono_l k
  unfold forebearlaw24_CheckFits.f
  repeat' first
      | (with_reducible exact ih0 _ _ _ _)
      | (with_reducible exact ih1 _ _ _ _ _ _)
      | (with_reducible exact check_Fits.mono _ _ _)
      | (with_reducible exact forebearref03_Same.mono _ _ _)
      | (with_reducible exact forebearref24_Fits.mono _ _ _)
      | (with_reducible exact LeO.refl _)
      | (with_reducible exact LeO.none _)
      | (with_reducible refine LeO.ite ?_ ?_)
      | (with_reducible refine LeO.bind ?_ (fun _ => ?_))
      | exact ih0 _ _ _ _
      | exact ih1 _ _ _ _ _ _
      | exact check_Fits.mono _ _ _
      | exact forebearref03_Same.mono _ _ _
      | exact forebearref24_Fits.mono _ _ _
      | exact LeO.none _
      | refine LeO.ite ?_ ?_
      | refine LeO.bind ?_ (fun _ => ?_)
set_option maxHeartbeats 8000000 in
set_option maxRecDepth 100000 in
theorem forebearlaw24_CheckFits.calls (k : Nat) (a0 : ByteArray) (A1 : Option Addr) (c1 : Nat) (l1 : List Int) (r : Bool) (w : World) (hr1 : Kd.C (Kd.int .i64) w A1 l1.length l1) (hc1 : l1.length ≤ c1) (h : forebearlaw24_CheckFits.f k a0 l1 = some r) :
    Calls Tryd.prog 13 #[.string a0, .slice A1 l1.length c1] w fun e w' => e = .returned (.bool r) ∧ Below w.heap.size w w' := by
  have HR1 := Aside0.mk hr1
  have HC1 := Aside0.mk hc1
  clear hr1 hc1
  have HB := Aside0.mk (Below.refl w.heap.size w)
  have H : ((forebearlaw24_awake.f).bind fun t893 => (if t893 = true then (forebearlaw24_CheckFits.l0 k a0 l1 ([] : List Int) 0) else (some false))) = some r := h
  clear h
  replace H := Option.bind_eq_some_iff.mp H
  obtain ⟨t893, A30, H⟩ := H
  replace H : (if t893 = true then (forebearlaw24_CheckFits.l0 k a0 l1 ([] : List Int) 0) else (some false)) = some r := H
  have A3 := Aside0.mk A30
  clear A30
  by_cases c4 : t893 = true
  · subst c4
    have H1 : (forebearlaw24_CheckFits.l0 k a0 l1 ([] : List Int) 0) = some r := by rw [if_pos rfl] at H; exact H
    clear H
    have H := H1
    clear H1
    have H' := Aside0.mk H
    clear H
    go_enter Tryd.func13, Tryd.ntmps13
    go_wp2_with (first | ((with_reducible refine gate_callee (f := 21) rfl ?_); refine goesL_ (some 10) rfl rfl Tryd.func21 (by kernel_rfl) rfl #[] rfl (by (try simp only [List.map_toArray, List.map_cons, List.map_nil]); first | done | rfl | (simp only [List.length_drop, List.length_take]; rfl)) ?_; (with_reducible refine (forebearlaw24_awake.calls  true _ A3.out).mono ?_); rintro e w5 ⟨rfl, hb⟩; refine ⟨_, rfl, ?_⟩; have n0_ := Aside0.mk (below_step (by repeat (first | (with_reducible first | exact HB.out | apply below_alloc | apply pw_below_drewN | apply below_drew1) | exact HB.out)) hb); clear HB; have HB := n0_; clear n0_; (try clear hb); (try clear hb2); (try clear hk); (try clear hi)))
    go_loopg [5, 6] k (fun kq v5 v6 w' => ∃ (x5_1 : List Int) (x6_1 : Int), v6 = .int .i64 x6_1 ∧ Aside0 (forebearlaw24_CheckFits.l0 kq a0 l1 x5_1 x6_1 = some r) ∧ Aside0 (kq ≤ k) ∧ Aside0 (Kd.R (Kd.int .i64) 47 w' w.heap.size (fun _ => True) v5 x5_1) ∧ Aside0 (Below w.heap.size w w'))
    case atStart => exact ⟨(([] : List Int)), (0), (by first | rfl | (simp; done) | (simp [*]; done)), H', ⟨Nat.le_refl _⟩, ⟨by first | exact Kd.R_nil _ _ _ _ _ | exact Kd.N_nil _ _ _ _ _ | exact Kd.V_nil _ _ _ _ _ | exact Kd.Q_nil _ _ _ _ _ | exact Kd.S_nil _ _ _ _ _⟩, ⟨by repeat (first | (with_reducible first | exact HB.out | apply below_alloc | apply pw_below_drewN | apply below_drew1) | exact HB.out)⟩⟩
    case round =>
      clear H'
      (try clear c1)
      obtain ⟨x5_1, x6_1, rfl, HA, HK1, HO_5, HB⟩ := hrel
      cases gk with
      | zero => exact absurd HA.out (by simp [forebearlaw24_CheckFits.l0])
      | succ k1 =>
        have H := HA.out
        clear HA
        simp only [forebearlaw24_CheckFits.l0] at H
        by_cases c6 : x6_1 < (l1.length : Int)
        · rw [if_pos c6] at H
          have c6b0 : decide (x6_1 < (l1.length : Int)) = true := decide_eq_true c6
          clear c6
          by_cases c7 : 0 ≤ x6_1
          · rw [if_pos c7] at H
            have c7b0 : decide (0 ≤ x6_1) = true := decide_eq_true c7
            clear c7
            by_cases c8 : x5_1.length < 17592186044416
            · rw [if_pos c8] at H
              have LMc8 := Aside0.mk c8
              clear c8
              obtain ⟨y895, hy895⟩ : ∃ y_ : List Int, y_ = (x5_1 ++ [rd l1 x6_1]) := ⟨_, rfl⟩
              replace H : (forebearlaw24_CheckFits.l0 k1 a0 l1 y895 (wrap64 (x6_1 + 1))) = some r := by first | (rw [hy895]; with_reducible exact H) | (have H2_ := (Option.bind_some _ _).symm.trans H; rw [hy895]; with_reducible exact H2_) | (have H2_ := (Option.bind_some _ _).symm.trans H; with_reducible exact H2_) | with_reducible exact H | (rw [hy895]; exact H) | exact H
              have Ny895 := Aside0.mk hy895
              clear hy895
              have H' := Aside0.mk H
              clear H
              have p894 : 0 ≤ (x6_1 : Int) := of_decide_eq_true (by first | (with_reducible assumption) | assumption)
              have q894 : x6_1 < (l1.length : Int) := of_decide_eq_true (by first | (with_reducible assumption) | assumption)
              obtain ⟨ad894, e894, hx894_0⟩ := Kd.at_int HR1.out x6_1 p894 q894
              cases e894
              replace hx894_0 := (HB.out.cell (World.block_lt_of_cell? w _ hx894_0)).trans hx894_0
              replace p894 := eq_true p894
              replace q894 := eq_true q894
              go_wp2_with (first | ((with_reducible refine gate_builtin (b := .append) (xs := #[.tmp 18, .tmp 23]) rfl ?_); at_builtin; refine Kd.R_append (Kd.int .i64) (w0 := w) w.heap.size rfl (.tmp 18) (.tmp 23) 68 47 (.int .i64 0) 8 rfl Tryd.underlying68 info47 rfl (by decide) (by omega) u5 x5_1 (rd l1 x6_1) [.int .i64 (rd l1 x6_1)] (fun _ => True) (fun _ => False) rfl rfl ?aP (fun _ hk => hk.elim) ?aF ?aO ?aB ?aS ?aL ?_; (case aP => exact rfl); (case aB => exact (by repeat (first | (with_reducible first | exact HB.out | apply below_alloc | apply pw_below_drewN | apply below_drew1) | exact HB.out))); (case aF => exact (fun _ _ => trivial)); (case aO => exact (by (with_reducible repeat (first | apply Kd.R_alloc | apply Kd.R_drewN | apply Kd.R_drew)); exact HO_5.out)); (case aS => exact (below_size (by repeat (first | (with_reducible first | exact HB.out | apply below_alloc | apply pw_below_drewN | apply below_drew1) | exact HB.out)))); (case aL => have := LMc8.out; omega); intro v896 w9 ho hb hg hat; rw [← Ny895.out] at ho; have n0_ := Aside0.mk (hb); have n1_ := Aside0.mk (ho); clear HB; clear HO_5; have HB := n0_; have HO897 := n1_; clear n0_ n1_; clear ho hb hg hat))
              go_roundg k1
              case measure => have := HK1.out; omega
              case rel => exact ⟨(y895), (wrap64 (x6_1 + 1)), (by first | rfl | (simp; done) | (simp [*]; done)), H', ⟨by have := HK1.out; omega⟩, ⟨by (with_reducible repeat (first | apply Kd.R_alloc | apply Kd.R_drewN | apply Kd.R_drew)); exact HO897.out⟩, ⟨by repeat (first | (with_reducible first | exact HB.out | apply below_alloc | apply pw_below_drewN | apply below_drew1) | exact HB.out)⟩⟩
            · rw [if_neg c8] at H
              exact absurd H (by simp)
          · rw [if_neg c7] at H
            exact absurd H (by simp)
        · rw [if_neg c6] at H
          have c6b0 : decide (x6_1 < (l1.length : Int)) = false := decide_eq_false c6
          clear c6
          replace H := Option.bind_eq_some_iff.mp H
          obtain ⟨t898, A100, H⟩ := H
          replace H : ((forebearref24_Names.f).bind fun t901 => ((forebearref03_Same.f k1 t898 t901).bind fun t904 => (forebearlaw24_CheckFits.l1 k1 a0 l1 x5_1 t898 t904 0))) = some r := H
          have A10 := Aside0.mk A100
          clear A100
          replace H := Option.bind_eq_some_iff.mp H
          obtain ⟨t901, A110, H⟩ := H
          replace H : ((forebearref03_Same.f k1 t898 t901).bind fun t904 => (forebearlaw24_CheckFits.l1 k1 a0 l1 x5_1 t898 t904 0)) = some r := H
          have A11 := Aside0.mk A110
          clear A110
          replace H := Option.bind_eq_some_iff.mp H
          obtain ⟨t904, A120, H⟩ := H
          replace H : (forebearlaw24_CheckFits.l1 k1 a0 l1 x5_1 t898 t904 0) = some r := H
          have A12 := Aside0.mk A120
          clear A120
          have H' := Aside0.mk H
          clear H
          go_wp2_with (first | ((with_reducible refine gate_callee (f := 33) rfl ?_); refine goesL_ (some 25) rfl rfl Tryd.func33 (by kernel_rfl) rfl #[] rfl (by (try simp only [List.map_toArray, List.map_cons, List.map_nil]); first | done | rfl | (simp only [List.length_drop, List.length_take]; rfl)) ?_; (with_reducible refine (check_Functions.calls  t898 _ A10.out).mono ?_); rintro e w13 ⟨v899, rfl, ho0, hb⟩; refine ⟨_, rfl, ?_⟩; have n0_ := Aside0.mk (Kd.R_below (by (with_reducible repeat (first | apply Kd.R_alloc | apply Kd.R_drewN | apply Kd.R_drew)); exact HO_5.out) hb); have n1_ := Aside0.mk (Kd.R_lower ho0 (below_size (by repeat (first | (with_reducible first | exact HB.out | apply below_alloc | apply pw_below_drewN | apply below_drew1) | exact HB.out)))); have n2_ := Aside0.mk (below_step (by repeat (first | (with_reducible first | exact HB.out | apply below_alloc | apply pw_below_drewN | apply below_drew1) | exact HB.out)) hb); clear HO_5; clear HB; have HO_5 := n0_; have HO900 := n1_; have HB := n2_; clear n0_ n1_ n2_; (try clear hb); (try clear hb2); (try clear hk); (try clear hi); (try clear ho0)) | ((with_reducible refine gate_callee (f := 35) rfl ?_); refine goesL_ (some 27) rfl rfl Tryd.func35 (by kernel_rfl) rfl #[] rfl (by (try simp only [List.map_toArray, List.map_cons, List.map_nil]); first | done | rfl | (simp only [List.length_drop, List.length_take]; rfl)) ?_; (with_reducible refine (forebearref24_Names.calls  t901 _ A11.out).mono ?_); rintro e w14 ⟨v902, rfl, ho0, hb⟩; refine ⟨_, rfl, ?_⟩; have n0_ := Aside0.mk (Kd.R_below (by (with_reducible repeat (first | apply Kd.R_alloc | apply Kd.R_drewN | apply Kd.R_drew)); exact HO_5.out) hb); have n1_ := Aside0.mk (Kd.R_elder' (by (with_reducible repeat (first | apply Kd.R_alloc | apply Kd.R_drewN | apply Kd.R_drew)); exact HO900.out) (Kd.R_base ho0) hb); have n2_ := Aside0.mk (Kd.R_lower (Kd.R_new' ho0 (Kd.R_lt (by (with_reducible repeat (first | apply Kd.R_alloc | apply Kd.R_drewN | apply Kd.R_drew)); exact HO900.out))) (below_size (by repeat (first | (with_reducible first | exact HB.out | apply below_alloc | apply pw_below_drewN | apply below_drew1) | exact HB.out)))); have n3_ := Aside0.mk (below_step (by repeat (first | (with_reducible first | exact HB.out | apply below_alloc | apply pw_below_drewN | apply below_drew1) | exact HB.out)) hb); clear HO_5; clear HO900; clear HB; have HO_5 := n0_; have HO900 := n1_; have HO903 := n2_; have HB := n3_; clear n0_ n1_ n2_ n3_; (try clear hb); (try clear hb2); (try clear hk); (try clear hi); (try clear ho0); obtain ⟨Ao15, co15, eo15⟩ := Kd.R_slice HO900.out; subst eo15; obtain ⟨Ao16, co16, eo16⟩ := Kd.R_slice HO903.out; subst eo16) | ((with_reducible refine gate_callee (f := 34) rfl ?_); refine goesL_ (some 28) rfl rfl Tryd.func34 (by kernel_rfl) rfl #[.slice Ao15 t898.length co15, .slice Ao16 t901.length co16] rfl (by (try simp only [List.map_toArray, List.map_cons, List.map_nil]); first | done | rfl | (simp only [List.length_drop, List.length_take]; rfl)) ?_; (with_reducible refine (forebearref03_Same.calls k1 _ _ t898 _ _ t901 t904 _ ?side1 ?side2 ?side3 ?side4 A12.out).mono ?_); (case side1 => repeat (first | exact (Kd.R_reads' HO900.out).2.2 | (with_reducible refine Kd.C_alloc ?_ _) | (with_reducible refine Kd.C_drewN ?_ _) | (with_reducible refine Kd.C_drew ?_))); (case side2 => exact (Kd.R_reads' HO900.out).2.1); (case side3 => repeat (first | exact (Kd.R_reads' HO903.out).2.2 | (with_reducible refine Kd.C_alloc ?_ _) | (with_reducible refine Kd.C_drewN ?_ _) | (with_reducible refine Kd.C_drew ?_))); (case side4 => exact (Kd.R_reads' HO903.out).2.1); rintro e w' ⟨rfl, ⟨nd, rfl⟩⟩; refine ⟨_, rfl, ?_⟩))
          go_loopg [9] k1 (fun kq v9 w' => ∃ (x7_2 : List ByteArray) (x9_2 : Int), v9 = .int .i64 x9_2 ∧ Aside0 (forebearlaw24_CheckFits.l1 kq a0 l1 x5_1 x7_2 t904 x9_2 = some r) ∧ Aside0 (kq ≤ k1) ∧ Aside0 (Kd.R (Kd.int .i64) 47 w' w.heap.size (fun _ => True) u5 x5_1) ∧ Aside0 (Kd.R Kd.string 9 w' w.heap.size (fun _ => True) (.slice Ao15 t898.length co15) x7_2) ∧ Aside0 (Below w.heap.size w w'))
          case atStart => exact ⟨(t898), (0), (by first | rfl | (simp; done) | (simp [*]; done)), H', ⟨Nat.le_refl _⟩, ⟨by (with_reducible repeat (first | apply Kd.R_alloc | apply Kd.R_drewN | apply Kd.R_drew)); exact HO_5.out⟩, ⟨by (with_reducible repeat (first | apply Kd.R_alloc | apply Kd.R_drewN | apply Kd.R_drew)); exact Kd.R_mono HO900.out (fun _ hk => trivial)⟩, ⟨by repeat (first | (with_reducible first | exact HB.out | apply below_alloc | apply pw_below_drewN | apply below_drew1) | exact HB.out)⟩⟩
          case round =>
            clear H'
            (try clear c1)
            obtain ⟨x7_2, x9_2, rfl, HA, HK2, HO_5, HO_7, HB⟩ := hrel
            have hl7_2 := (Kd.R_reads' HO_7.out).1
            rw [hl7_2] at HO_7
            (try simp only [hl7_2])
            (try simp only [hl7_2] at HO_5)
            cases gk with
            | zero => exact absurd HA.out (by simp [forebearlaw24_CheckFits.l1])
            | succ k2 =>
              have H := HA.out
              clear HA
              simp only [forebearlaw24_CheckFits.l1] at H
              by_cases c17 : x9_2 < (x7_2.length : Int)
              · rw [if_pos c17] at H
                have c17b0 : decide (x9_2 < (x7_2.length : Int)) = true := decide_eq_true c17
                clear c17
                by_cases c18 : 0 ≤ x9_2
                · rw [if_pos c18] at H
                  have c18b0 : decide (0 ≤ x9_2) = true := decide_eq_true c18
                  clear c18
                  obtain ⟨y905, hy905⟩ : ∃ y_ : List ByteArray, y_ = (x7_2.set (x9_2 : Int).toNat (⟨#[109, 97, 114, 107, 101, 100]⟩ : ByteArray)) := ⟨_, rfl⟩
                  replace H : (forebearlaw24_CheckFits.l1 k2 a0 l1 x5_1 y905 t904 (wrap64 (x9_2 + 1))) = some r := by first | (rw [hy905]; with_reducible exact H) | (have H2_ := (Option.bind_some _ _).symm.trans H; rw [hy905]; with_reducible exact H2_) | (have H2_ := (Option.bind_some _ _).symm.trans H; with_reducible exact H2_) | with_reducible exact H | (rw [hy905]; exact H) | exact H
                  have Ny905 := Aside0.mk hy905
                  clear hy905
                  have H' := Aside0.mk H
                  clear H
                  have p19 : 0 ≤ (x9_2 : Int) := of_decide_eq_true (by first | (with_reducible assumption) | assumption)
                  have q19 : (x9_2 : Int) < ((x7_2.length : Int) : Int) := of_decide_eq_true (by first | (with_reducible assumption) | assumption)
                  obtain ⟨go19, co19, eo19, gb19, gl19, cl19, HG19⟩ := Kd.R_form HO_7.out (by omega)
                  (first | cases eo19 | (injection eo19 with ea_ en_ ec_; (first | subst ea_ | (injection ea_ with ea_; subst ea_)); subst ec_; clear en_))
                  have GB19 := Aside0.mk gb19
                  have GG19 := Aside0.mk HG19
                  clear gb19 gl19 HG19
                  obtain ⟨hx19_0, hf19_0⟩ := Kd.R_celln (⟨#[]⟩ : ByteArray) HO_7.out (x9_2 : Int) p19 q19
                  replace p19 := eq_true p19
                  replace q19 := eq_true q19
                  have HP20 := Kd.R_putg HO_7.out (x9_2 : Int) (⟨#[109, 97, 114, 107, 101, 100]⟩ : ByteArray)
                  go_wp2_with (first | ((with_reducible refine gate_store (t := 9) (p := 37) rfl ?_); refine store_event (t := 9) (p := 37) (v := ?vo_w21) (w1 := (wr.setCell ⟨go19, (x9_2 : Int).toNat, none⟩ (.string (⟨#[109, 97, 114, 107, 101, 100]⟩ : ByteArray)))) ?hg ?ho ?hn ?hr ?_; (case ho => rfl); (case hg => rfl); (case hn => rfl); (case hr => first | (go_simp; done) | (go_simp; rfl)); intro w21 hw; have hg : wr.grownBy w21 (some go19) := (by rw [hw]; exact HP20.2); have hp_ : Kd.R Kd.string 9 w21 w.heap.size (fun _ => True) (.slice (some ⟨go19, 0, none⟩) x7_2.length co15) y905 := (by rw [hw, Ny905.out]; exact HP20.1); clear HP20; have n0_ := Aside0.mk (Kd.R_over' (v := (.slice (some ⟨go19, 0, none⟩) x7_2.length co15)) (by (with_reducible repeat (first | apply Kd.R_alloc | apply Kd.R_drewN | apply Kd.R_drew)); exact HO_5.out) (Kd.R_typed HO_7.out) (by decide) hg); have n1_ := Aside0.mk (hp_); have n2_ := Aside0.mk ((by rw [hw]; exact below_set (HB.out) GB19.out : Below w.heap.size w w21)); clear HO_5; clear HO_7; clear HB; have HO_5 := n0_; have HO_7 := n1_; have HB := n2_; clear n0_ n1_ n2_; clear hg hw hp_))
                  (try simp only [← hl7_2])
                  go_roundg k2
                  case measure => have := HK1.out; have := HK2.out; omega
                  case rel => exact ⟨(y905), (wrap64 (x9_2 + 1)), (by first | rfl | (simp; done) | (simp [*]; done)), H', ⟨by have := HK1.out; have := HK2.out; omega⟩, ⟨by (try simp only [hl7_2]); (with_reducible repeat (first | apply Kd.R_alloc | apply Kd.R_drewN | apply Kd.R_drew)); exact HO_5.out⟩, ⟨by (try simp only [hl7_2]); (with_reducible repeat (first | apply Kd.R_alloc | apply Kd.R_drewN | apply Kd.R_drew)); exact HO_7.out⟩, ⟨by repeat (first | (with_reducible first | exact HB.out | apply below_alloc | apply pw_below_drewN | apply below_drew1) | exact HB.out)⟩⟩
                · rw [if_neg c18] at H
                  exact absurd H (by simp)
              · rw [if_neg c17] at H
                have c17b0 : decide (x9_2 < (x7_2.length : Int)) = false := decide_eq_false c17
                clear c17
                by_cases c22 : t904 = true
                · subst c22
                  have H1 : ((check_Fits.f k2 a0 x5_1).bind fun t906 => ((forebearref24_Fits.f k2 a0 l1).bind fun t907 => (if t906 = t907 then ((check_Functions.f).bind fun t908 => ((forebearref24_Names.f).bind fun t911 => ((forebearref03_Same.f k2 t908 t911).bind fun t914 => (some t914)))) else (some false)))) = some r := by rw [if_pos rfl] at H; exact H
                  clear H
                  have H := H1
                  clear H1
                  replace H := Option.bind_eq_some_iff.mp H
                  obtain ⟨t906, A230, H⟩ := H
                  replace H : ((forebearref24_Fits.f k2 a0 l1).bind fun t907 => (if t906 = t907 then ((check_Functions.f).bind fun t908 => ((forebearref24_Names.f).bind fun t911 => ((forebearref03_Same.f k2 t908 t911).bind fun t914 => (some t914)))) else (some false))) = some r := H
                  have A23 := Aside0.mk A230
                  clear A230
                  replace H := Option.bind_eq_some_iff.mp H
                  obtain ⟨t907, A240, H⟩ := H
                  replace H : (if t906 = t907 then ((check_Functions.f).bind fun t908 => ((forebearref24_Names.f).bind fun t911 => ((forebearref03_Same.f k2 t908 t911).bind fun t914 => (some t914)))) else (some false)) = some r := H
                  have A24 := Aside0.mk A240
                  clear A240
                  by_cases c25 : t906 = t907
                  · rw [if_pos c25] at H
                    have c25b0 : (t906 == t907) = true := beq_iff_eq.mpr c25
                    have c25b1 : (t906 != t907) = false := bne_eq_false_iff_eq.mpr c25
                    clear c25
                    replace H := Option.bind_eq_some_iff.mp H
                    obtain ⟨t908, A260, H⟩ := H
                    replace H : ((forebearref24_Names.f).bind fun t911 => ((forebearref03_Same.f k2 t908 t911).bind fun t914 => (some t914))) = some r := H
                    have A26 := Aside0.mk A260
                    clear A260
                    replace H := Option.bind_eq_some_iff.mp H
                    obtain ⟨t911, A270, H⟩ := H
                    replace H : ((forebearref03_Same.f k2 t908 t911).bind fun t914 => (some t914)) = some r := H
                    have A27 := Aside0.mk A270
                    clear A270
                    replace H := Option.bind_eq_some_iff.mp H
                    obtain ⟨t914, A280, H⟩ := H
                    replace H : (some t914) = some r := H
                    have A28 := Aside0.mk A280
                    clear A280
                    obtain rfl := Option.some.inj H
                    obtain ⟨Ao29, co29, eo29⟩ := Kd.R_slice HO_5.out
                    subst eo29
                    go_wp2_with (first | (go_at_call 36; (with_reducible refine (check_Fits.calls k2 a0 _ _ x5_1 t906 _ ?side1 ?side2 A23.out).mono ?_); (case side1 => repeat (first | exact (Kd.R_reads' HO_5.out).2.2 | (with_reducible refine Kd.C_alloc ?_ _) | (with_reducible refine Kd.C_drewN ?_ _) | (with_reducible refine Kd.C_drew ?_))); (case side2 => exact (Kd.R_reads' HO_5.out).2.1); rintro e w30 ⟨rfl, hb⟩; have n0_ := Aside0.mk (Kd.R_below (by (with_reducible repeat (first | apply Kd.R_alloc | apply Kd.R_drewN | apply Kd.R_drew)); exact HO_5.out) hb); have n1_ := Aside0.mk (Kd.R_below (by (with_reducible repeat (first | apply Kd.R_alloc | apply Kd.R_drewN | apply Kd.R_drew)); exact HO_7.out) hb); have n2_ := Aside0.mk (below_step (by repeat (first | (with_reducible first | exact HB.out | apply below_alloc | apply pw_below_drewN | apply below_drew1) | exact HB.out)) hb); clear HO_5; clear HO_7; clear HB; have HO_5 := n0_; have HO_7 := n1_; have HB := n2_; clear n0_ n1_ n2_; (try clear hb); (try clear hb2); (try clear hk); (try clear hi)) | (go_at_call 37; (with_reducible refine (forebearref24_Fits.calls k2 a0 _ _ l1 t907 _ ?side1 ?side2 A24.out).mono ?_); (case side1 => repeat (first | exact (Kd.C_below HR1.out HB.out) | (with_reducible refine Kd.C_alloc ?_ _) | (with_reducible refine Kd.C_drewN ?_ _) | (with_reducible refine Kd.C_drew ?_))); (case side2 => exact HC1.out); rintro e w31 ⟨rfl, hb⟩; have n0_ := Aside0.mk (Kd.R_below (by (with_reducible repeat (first | apply Kd.R_alloc | apply Kd.R_drewN | apply Kd.R_drew)); exact HO_5.out) hb); have n1_ := Aside0.mk (Kd.R_below (by (with_reducible repeat (first | apply Kd.R_alloc | apply Kd.R_drewN | apply Kd.R_drew)); exact HO_7.out) hb); have n2_ := Aside0.mk (below_step (by repeat (first | (with_reducible first | exact HB.out | apply below_alloc | apply pw_below_drewN | apply below_drew1) | exact HB.out)) hb); clear HO_5; clear HO_7; clear HB; have HO_5 := n0_; have HO_7 := n1_; have HB := n2_; clear n0_ n1_ n2_; (try clear hb); (try clear hb2); (try clear hk); (try clear hi)) | (go_at_call 33; (with_reducible refine (check_Functions.calls  t908 _ A26.out).mono ?_); rintro e w32 ⟨v909, rfl, ho0, hb⟩; have n0_ := Aside0.mk (Kd.R_below (by (with_reducible repeat (first | apply Kd.R_alloc | apply Kd.R_drewN | apply Kd.R_drew)); exact HO_5.out) hb); have n1_ := Aside0.mk (Kd.R_elder' (by (with_reducible repeat (first | apply Kd.R_alloc | apply Kd.R_drewN | apply Kd.R_drew)); exact HO_7.out) (Kd.R_base ho0) hb); have n2_ := Aside0.mk (Kd.R_lower (Kd.R_new' ho0 (Kd.R_lt (by (with_reducible repeat (first | apply Kd.R_alloc | apply Kd.R_drewN | apply Kd.R_drew)); exact HO_7.out))) (below_size (by repeat (first | (with_reducible first | exact HB.out | apply below_alloc | apply pw_below_drewN | apply below_drew1) | exact HB.out)))); have n3_ := Aside0.mk (below_step (by repeat (first | (with_reducible first | exact HB.out | apply below_alloc | apply pw_below_drewN | apply below_drew1) | exact HB.out)) hb); clear HO_5; clear HO_7; clear HB; have HO_5 := n0_; have HO_7 := n1_; have HO910 := n2_; have HB := n3_; clear n0_ n1_ n2_ n3_; (try clear hb); (try clear hb2); (try clear hk); (try clear hi); (try clear ho0)) | (go_at_call 35; (with_reducible refine (forebearref24_Names.calls  t911 _ A27.out).mono ?_); rintro e w33 ⟨v912, rfl, ho0, hb⟩; have n0_ := Aside0.mk (Kd.R_below (by (with_reducible repeat (first | apply Kd.R_alloc | apply Kd.R_drewN | apply Kd.R_drew)); exact HO_5.out) hb); have n1_ := Aside0.mk (Kd.R_elder' (by (with_reducible repeat (first | apply Kd.R_alloc | apply Kd.R_drewN | apply Kd.R_drew)); exact HO_7.out) (Kd.R_base ho0) hb); have n2_ := Aside0.mk (Kd.R_elder' (by (with_reducible repeat (first | apply Kd.R_alloc | apply Kd.R_drewN | apply Kd.R_drew)); exact HO910.out) (Kd.R_base ho0) hb); have n3_ := Aside0.mk (Kd.R_lower (Kd.R_new' (Kd.R_new' ho0 (Kd.R_lt (by (with_reducible repeat (first | apply Kd.R_alloc | apply Kd.R_drewN | apply Kd.R_drew)); exact HO_7.out))) (Kd.R_lt (by (with_reducible repeat (first | apply Kd.R_alloc | apply Kd.R_drewN | apply Kd.R_drew)); exact HO910.out))) (below_size (by repeat (first | (with_reducible first | exact HB.out | apply below_alloc | apply pw_below_drewN | apply below_drew1) | exact HB.out)))); have n4_ := Aside0.mk (below_step (by repeat (first | (with_reducible first | exact HB.out | apply below_alloc | apply pw_below_drewN | apply below_drew1) | exact HB.out)) hb); clear HO_5; clear HO_7; clear HO910; clear HB; have HO_5 := n0_; have HO_7 := n1_; have HO910 := n2_; have HO913 := n3_; have HB := n4_; clear n0_ n1_ n2_ n3_ n4_; (try clear hb); (try clear hb2); (try clear hk); (try clear hi); (try clear ho0); obtain ⟨Ao34, co34, eo34⟩ := Kd.R_slice HO910.out; subst eo34; obtain ⟨Ao35, co35, eo35⟩ := Kd.R_slice HO913.out; subst eo35) | (go_at_call 34; (with_reducible refine (forebearref03_Same.calls k2 _ _ t908 _ _ t911 t914 _ ?side1 ?side2 ?side3 ?side4 A28.out).mono ?_); (case side1 => repeat (first | exact (Kd.R_reads' HO910.out).2.2 | (with_reducible refine Kd.C_alloc ?_ _) | (with_reducible refine Kd.C_drewN ?_ _) | (with_reducible refine Kd.C_drew ?_))); (case side2 => exact (Kd.R_reads' HO910.out).2.1); (case side3 => repeat (first | exact (Kd.R_reads' HO913.out).2.2 | (with_reducible refine Kd.C_alloc ?_ _) | (with_reducible refine Kd.C_drewN ?_ _) | (with_reducible refine Kd.C_drew ?_))); (case side4 => exact (Kd.R_reads' HO913.out).2.1); rintro e w' ⟨rfl, ⟨nd, rfl⟩⟩))
                    go_ret
                    exact ⟨by first | rfl | (simp [errW_none, errW_some] <;> rfl) | (simp [*, errW_none, errW_some] <;> rfl), by repeat (first | (with_reducible first | exact HB.out | apply below_alloc | apply pw_below_drewN | apply below_drew1) | exact HB.out)⟩
                  · rw [if_neg c25] at H
                    have c25b0 : (t906 == t907) = false := beq_eq_false_iff_ne.mpr c25
                    have c25b1 : (t906 != t907) = true := bne_iff_ne.mpr c25
                    obtain rfl := Option.some.inj H
                    obtain ⟨Ao36, co36, eo36⟩ := Kd.R_slice HO_5.out
                    subst eo36
                    go_wp2_with (first | (go_at_call 36; (with_reducible refine (check_Fits.calls k2 a0 _ _ x5_1 t906 _ ?side1 ?side2 A23.out).mono ?_); (case side1 => repeat (first | exact (Kd.R_reads' HO_5.out).2.2 | (with_reducible refine Kd.C_alloc ?_ _) | (with_reducible refine Kd.C_drewN ?_ _) | (with_reducible refine Kd.C_drew ?_))); (case side2 => exact (Kd.R_reads' HO_5.out).2.1); rintro e w37 ⟨rfl, hb⟩; have n0_ := Aside0.mk (Kd.R_below (by (with_reducible repeat (first | apply Kd.R_alloc | apply Kd.R_drewN | apply Kd.R_drew)); exact HO_5.out) hb); have n1_ := Aside0.mk (Kd.R_below (by (with_reducible repeat (first | apply Kd.R_alloc | apply Kd.R_drewN | apply Kd.R_drew)); exact HO_7.out) hb); have n2_ := Aside0.mk (below_step (by repeat (first | (with_reducible first | exact HB.out | apply below_alloc | apply pw_below_drewN | apply below_drew1) | exact HB.out)) hb); clear HO_5; clear HO_7; clear HB; have HO_5 := n0_; have HO_7 := n1_; have HB := n2_; clear n0_ n1_ n2_; (try clear hb); (try clear hb2); (try clear hk); (try clear hi)) | (go_at_call 37; (with_reducible refine (forebearref24_Fits.calls k2 a0 _ _ l1 t907 _ ?side1 ?side2 A24.out).mono ?_); (case side1 => repeat (first | exact (Kd.C_below HR1.out HB.out) | (with_reducible refine Kd.C_alloc ?_ _) | (with_reducible refine Kd.C_drewN ?_ _) | (with_reducible refine Kd.C_drew ?_))); (case side2 => exact HC1.out); rintro e w38 ⟨rfl, hb⟩; have n0_ := Aside0.mk (Kd.R_below (by (with_reducible repeat (first | apply Kd.R_alloc | apply Kd.R_drewN | apply Kd.R_drew)); exact HO_5.out) hb); have n1_ := Aside0.mk (Kd.R_below (by (with_reducible repeat (first | apply Kd.R_alloc | apply Kd.R_drewN | apply Kd.R_drew)); exact HO_7.out) hb); have n2_ := Aside0.mk (below_step (by repeat (first | (with_reducible first | exact HB.out | apply below_alloc | apply pw_below_drewN | apply below_drew1) | exact HB.out)) hb); clear HO_5; clear HO_7; clear HB; have HO_5 := n0_; have HO_7 := n1_; have HB := n2_; clear n0_ n1_ n2_; (try clear hb); (try clear hb2); (try clear hk); (try clear hi)))
                    go_ret
                    exact ⟨by first | rfl | (simp [errW_none, errW_some] <;> rfl) | (simp [*, errW_none, errW_some] <;> rfl), by repeat (first | (with_reducible first | exact HB.out | apply below_alloc | apply pw_below_drewN | apply below_drew1) | exact HB.out)⟩
                · replace c22 := Bool.eq_false_iff.mpr c22
                  subst c22
                  have H1 : (some false) = some r := by rw [if_neg (show ¬ (false = true) by decide)] at H; exact H
                  clear H
                  have H := H1
                  clear H1
                  obtain rfl := Option.some.inj H
                  go_wp2
                  go_ret
                  exact ⟨by first | rfl | (simp [errW_none, errW_some] <;> rfl) | (simp [*, errW_none, errW_some] <;> rfl), by repeat (first | (with_reducible first | exact HB.out | apply below_alloc | apply pw_below_drewN | apply below_drew1) | exact HB.out)⟩
  · replace c4 := Bool.eq_false_iff.mpr c4
    subst c4
    have H1 : (some false) = some r := by rw [if_neg (show ¬ (false = true) by decide)] at H; exact H
    clear H
    have H := H1
    clear H1
    obtain rfl := Option.some.inj H
    go_enter Tryd.func13, Tryd.ntmps13
    go_wp2_with (first | ((with_reducible refine gate_callee (f := 21) rfl ?_); refine goesL_ (some 10) rfl rfl Tryd.func21 (by kernel_rfl) rfl #[] rfl (by (try simp only [List.map_toArray, List.map_cons, List.map_nil]); first | done | rfl | (simp only [List.length_drop, List.length_take]; rfl)) ?_; (with_reducible refine (forebearlaw24_awake.calls  false _ A3.out).mono ?_); rintro e w39 ⟨rfl, hb⟩; refine ⟨_, rfl, ?_⟩; have n0_ := Aside0.mk (below_step (by repeat (first | (with_reducible first | exact HB.out | apply below_alloc | apply pw_below_drewN | apply below_drew1) | exact HB.out)) hb); clear HB; have HB := n0_; clear n0_; (try clear hb); (try clear hb2); (try clear hk); (try clear hi)))
    go_ret
    exact ⟨by first | rfl | (simp [errW_none, errW_some] <;> rfl) | (simp [*, errW_none, errW_some] <;> rfl), by repeat (first | (with_reducible first | exact HB.out | apply below_alloc | apply pw_below_drewN | apply below_drew1) | exact HB.out)⟩

end
section
open Go.RowKit Go.Proofs.YtfgfoofojofnmaaDoorW.PrintWords Go.Proofs.YtfgfoofojofnmaaDoorW.PrintLast Go.Proofs.YtfgfoofojofnmaaDoorW.PrintMore
set_option linter.unusedVariables false
set_option linter.unusedSimpArgs false
open Go.Proofs.YtfgfoofojofnmaaDoor.Hand
namespace Fz
theorem among_f (a : ByteArray) (l : List ByteArray) (hl : l.length ≤ 2000000) (k : Nat) (hk : l.length < k) : forebearref24_among.f k a l = some (l.any (fun b => b.data.toList == a.toList)) := by
  have loop : ∀ (d : Nat) (k i : Nat), d = l.length - i → i ≤ l.length → d < k → forebearref24_among.l0 k a l (i : Int) = some ((l.drop i).any (fun b => b.data.toList == a.toList)) := by
    intro d
    induction d with
    | zero =>
      intro k i hd hi2 hk2
      obtain ⟨k, rfl⟩ : ∃ k1, k = k1 + 1 := ⟨k - 1, by omega⟩
      rw [forebearref24_among.l0, if_neg (by omega), List.drop_eq_nil_of_le (by omega)]
      rfl
    | succ d ihd =>
      intro k i hd hi2 hk2
      obtain ⟨k, rfl⟩ : ∃ k1, k = k1 + 1 := ⟨k - 1, by omega⟩
      have hil : i < l.length := by omega
      have h9 := ihd k (i + 1) (by omega) (by omega) (by omega)
      have hrd : (rdOf ByteArray.empty l (i : Int)) = l[i] := by simp [rdOf, List.getD_eq_getElem?_getD, List.getElem?_eq_getElem hil]
      rw [forebearref24_among.l0, if_pos (by omega), if_pos (by omega), hrd, List.drop_eq_getElem_cons hil, List.any_cons, ByteArray.toList_eq (l[i])]
      by_cases he : l[i].data.toList = a.toList
      · rw [if_pos he, beq_iff_eq.2 he]; rfl
      · have hw := Lib.hid (show wrap64 ((i : Int) + 1) = ((i + 1 : Nat) : Int) by unfold wrap64; omega)
        rw [if_neg he, beq_eq_false_iff_ne.2 he, hw.out, h9]; rfl
  rw [forebearref24_among.f]
  exact loop l.length k 0 (by omega) (by omega) hk
def takesT (c n : Nat) : List Int × Bool :=
  if c = 1 then ([], n == 0) else if c = 2 then ([3], n == 1) else if c = 3 then ([1, 2], n == 1 || n == 2) else if c = 5 then ([1, 3], n == 2) else if c = 6 then ([1, 2], n == 2)
  else if c = 7 then (List.replicate n 1, decide (1 ≤ n)) else ([1], n == 1)
theorem takes_loop (n : Nat) (hn : n ≤ 2000000) : ∀ (d k i : Nat), d = n - i → i ≤ n → d < k → forebearref24_takes.l0 k (n : Int) (List.replicate i 1) (i : Int) = some (List.replicate n 1, decide ((n : Int) ≥ 1)) := by
  intro d
  induction d with
  | zero =>
    intro k i hd hi2 hk2
    obtain ⟨k, rfl⟩ : ∃ k1, k = k1 + 1 := ⟨k - 1, by omega⟩
    obtain rfl : i = n := by omega
    rw [forebearref24_takes.l0, if_neg (by omega)]
  | succ d ihd =>
    intro k i hd hi2 hk2
    obtain ⟨k, rfl⟩ : ∃ k1, k = k1 + 1 := ⟨k - 1, by omega⟩
    have h9 := ihd k (i + 1) (by omega) (by omega) (by omega)
    rw [forebearref24_takes.l0, if_pos (by omega), if_pos (by rw [List.length_replicate]; omega)]
    have hw := Lib.hid (show wrap64 ((i : Int) + 1) = ((i + 1 : Nat) : Int) by unfold wrap64; omega)
    rw [hw.out, ← h9, List.replicate_succ']
theorem ieq (n : Nat) (m : Nat) : ((n : Int) == (m : Int)) = (n == m) := by
  rw [Bool.eq_iff_iff, beq_iff_eq, beq_iff_eq]; omega
theorem takes_f (a : ByteArray) (n : Nat) (hn : n ≤ 2000000) (k : Nat) (hk : n + 10 ≤ k) : forebearref24_takes.f k a (n : Int) = some (takesT (nameC a.toList) n) := by
  obtain ⟨k, rfl⟩ : ∃ k1, k = k1 + 3 := ⟨k - 3, by omega⟩
  have hl := takes_loop n hn n (k + 1) 0 (by omega) (by omega) (by omega)
  have hl' : forebearref24_takes.l0 (k + 1) (n : Int) [] 0 = some (List.replicate n 1, decide ((n : Int) ≥ 1)) := hl
  have t1 : (if (n : Int) = 1 then some ([1, 2], true) else some (([1, 2] : List Int), (n == 2))) = some ([1, 2], n == 1 || n == 2) := by
    by_cases h : n = 1
    · subst h; rfl
    · rw [if_neg (by omega), show (n == 1) = false from beq_eq_false_iff_ne.2 h]; rfl
  have e0 : ((n : Int) == 0) = (n == 0) := ieq n 0
  have e1 : ((n : Int) == 1) = (n == 1) := ieq n 1
  have e2 : ((n : Int) == 2) = (n == 2) := ieq n 2
  have e3 : decide ((n : Int) ≥ 1) = decide (1 ≤ n) := by rw [decide_eq_decide]; omega
  rw [forebearref24_takes.f, among_f _ _ (by decide) _ (by simp; omega), Option.bind_some]
  simp only [forebearref24_takes.j0, forebearref24_takes.j1, hl', Option.bind_some, e0, e1, e2, e3]
  simp only [t1]
  rw [among_f _ _ (by decide) _ (by simp; omega), Option.bind_some]
  generalize a.toList = s
  clear hl hl' t1 e0 e1 e2 e3
  induction s using names_cases
  case h0 hh =>
    obtain ⟨g1, g2, g3, g4, g5, g6, g7, g8, g9, g10, g11, g12, g13, g14, g15, g16, g17, g18, g19, g20, g21⟩ := hh
    simp [nameC, takesT, *]
    simp [Ne.symm g1, Ne.symm g2, Ne.symm g3, Ne.symm g4, Ne.symm g16, Ne.symm g17, Ne.symm g18]
  all_goals rfl
theorem at_f (lo hi is : Int) (tk : List Int) (i : Nat) (h : 0 < tk.length) (hb : tk.length ≤ 2000000) (hi2 : i ≤ 2000000) : check_face_at.f lo hi tk is (i : Int) = some (atT tk i) := by
  have hm : mn (i : Int) ((tk.length : Int) - 1) = ((min i (tk.length - 1) : Nat) : Int) := by
    unfold mn
    split <;> omega
  have hw := Lib.hid (show wrap64 ((tk.length : Int) - 1) = (tk.length : Int) - 1 by unfold wrap64; omega)
  unfold check_face_at.f
  rw [hw.out, hm, if_pos (by omega), if_pos (by omega)]
  simp [rd, atT]
theorem face_takes (s : List UInt8) (n : Nat) (hn : n ≤ 2000000) (h : (faceC (nameC s)).2.2.2.2 = true) :
    (((n : Int) < (faceC (nameC s)).1 ∨ (faceC (nameC s)).2.1 < (n : Int)) ↔ (takesT (nameC s) n).2 = false) ∧
    ((takesT (nameC s) n).2 = true → ∀ i, i < n → i < (takesT (nameC s) n).1.length ∧ (takesT (nameC s) n).1.getD i 0 = atT (faceC (nameC s)).2.2.1 i) := by
  generalize nameC s = c at *
  by_cases h1 : c = 1
  · subst h1
    rw [show faceC 1 = (0, 0, [], 1, true) from rfl, show takesT 1 n = ([], n == 0) from rfl]
    refine ⟨by simp; omega, fun e i hi => ?_⟩
    have hn1 : n = 0 := by simpa using e
    omega
  by_cases h2 : c = 2
  · subst h2
    rw [show faceC 2 = (1, 1, [3], 1, true) from rfl, show takesT 2 n = ([3], n == 1) from rfl]
    refine ⟨by simp; omega, fun e i hi => ?_⟩
    have hn1 : n = 1 := by simpa using e
    obtain rfl : i = 0 := by omega
    exact ⟨by show 0 < 1; decide, rfl⟩
  by_cases h3 : c = 3
  · subst h3
    rw [show faceC 3 = (1, 2, [1, 2], 1, true) from rfl, show takesT 3 n = ([1, 2], n == 1 || n == 2) from rfl]
    refine ⟨by simp; omega, fun e i hi => ?_⟩
    have hn1 : n = 1 ∨ n = 2 := by simpa using e
    have hi1 : i = 0 ∨ i = 1 := by omega
    rcases hi1 with rfl | rfl
    · exact ⟨by show 0 < 2; decide, rfl⟩
    · exact ⟨by show 1 < 2; decide, rfl⟩
  by_cases h4 : c = 4
  · subst h4
    rw [show faceC 4 = (1, 1, [1], 1, true) from rfl, show takesT 4 n = ([1], n == 1) from rfl]
    refine ⟨by simp; omega, fun e i hi => ?_⟩
    have hn1 : n = 1 := by simpa using e
    obtain rfl : i = 0 := by omega
    exact ⟨by show 0 < 1; decide, rfl⟩
  by_cases h5 : c = 5
  · subst h5
    rw [show faceC 5 = (2, 2, [1, 3], 1, true) from rfl, show takesT 5 n = ([1, 3], n == 2) from rfl]
    refine ⟨by simp; omega, fun e i hi => ?_⟩
    have hn1 : n = 2 := by simpa using e
    have hi1 : i = 0 ∨ i = 1 := by omega
    rcases hi1 with rfl | rfl
    · exact ⟨by show 0 < 2; decide, rfl⟩
    · exact ⟨by show 1 < 2; decide, rfl⟩
  by_cases h6 : c = 6
  · subst h6
    rw [show faceC 6 = (2, 2, [1, 2], 1, true) from rfl, show takesT 6 n = ([1, 2], n == 2) from rfl]
    refine ⟨by simp; omega, fun e i hi => ?_⟩
    have hn1 : n = 2 := by simpa using e
    have hi1 : i = 0 ∨ i = 1 := by omega
    rcases hi1 with rfl | rfl
    · exact ⟨by show 0 < 2; decide, rfl⟩
    · exact ⟨by show 1 < 2; decide, rfl⟩
  by_cases h7 : c = 7
  · subst h7
    rw [show faceC 7 = (1, 1073741824, [1], 1, true) from rfl, show takesT 7 n = (List.replicate n 1, decide (1 ≤ n)) from rfl]
    refine ⟨by simp; omega, fun e i hi => ⟨by simpa using hi, ?_⟩⟩
    have e1 : (List.replicate n (1 : Int)).getD i 0 = 1 := by simp [List.getD_eq_getElem?_getD, hi]
    show (List.replicate n (1 : Int)).getD i 0 = atT [1] i
    rw [e1]
    simp [atT]
  by_cases h8 : c = 8
  · subst h8
    rw [show faceC 8 = (1, 1, [1], 2, true) from rfl, show takesT 8 n = ([1], n == 1) from rfl]
    refine ⟨by simp; omega, fun e i hi => ?_⟩
    have hn1 : n = 1 := by simpa using e
    obtain rfl : i = 0 := by omega
    exact ⟨by show 0 < 1; decide, rfl⟩
  exfalso
  unfold faceC at h
  rw [if_neg h1, if_neg h2, if_neg h3, if_neg h4, if_neg h5, if_neg h6, if_neg h7, if_neg h8] at h
  exact absurd h (by decide)
theorem names_any (s : List UInt8) : (forebearref24_Names.f.getD []).any (fun b => b.data.toList == s) = (faceC (nameC s)).2.2.2.2 := by
  induction s using names_cases
  case h0 hh =>
    obtain ⟨g1, g2, g3, g4, g5, g6, g7, g8, g9, g10, g11, g12, g13, g14, g15, g16, g17, g18, g19, g20, g21⟩ := hh
    simp [nameC, faceC, forebearref24_Names.f, *]
    simp [Ne.symm g1, Ne.symm g2, Ne.symm g3, Ne.symm g4, Ne.symm g5, Ne.symm g6, Ne.symm g7, Ne.symm g8, Ne.symm g9, Ne.symm g10, Ne.symm g11, Ne.symm g12, Ne.symm g13, Ne.symm g14, Ne.symm g15, Ne.symm g16, Ne.symm g17, Ne.symm g18, Ne.symm g19, Ne.symm g20, Ne.symm g21]
  all_goals rfl
theorem face_len (c : Nat) (h : (faceC c).2.2.2.2 = true) (n : Nat) (hn : 0 < n) (h2 : ¬ (faceC c).2.1 < (n : Int)) : 0 < (faceC c).2.2.1.length ∧ (faceC c).2.2.1.length ≤ 2000000 := by
  by_cases h1 : c = 1
  · subst h1
    have h3 : ¬ (0 : Int) < (n : Int) := h2
    omega
  by_cases h2' : c = 2
  · subst h2'
    decide
  by_cases h3' : c = 3
  · subst h3'
    decide
  by_cases h4' : c = 4
  · subst h4'
    decide
  by_cases h5' : c = 5
  · subst h5'
    decide
  by_cases h6' : c = 6
  · subst h6'
    decide
  by_cases h7' : c = 7
  · subst h7'
    decide
  by_cases h8' : c = 8
  · subst h8'
    decide
  exfalso
  unfold faceC at h
  rw [if_neg h1, if_neg h2', if_neg h3', if_neg h4', if_neg h5', if_neg h6', if_neg h7', if_neg h8'] at h
  exact absurd h (by decide)
theorem fits_loop (l1 : List Int) (lo hi is : Int) (tk t2 : List Int) (hl : l1.length ≤ 2000000) (ht : 0 < l1.length → 0 < tk.length ∧ tk.length ≤ 2000000) (hh : ∀ i, i < l1.length → i < t2.length ∧ t2.getD i 0 = atT tk i) (d : Nat) : ∀ (k1 k2 i : Nat), d = l1.length - i → i ≤ l1.length → d < k1 → d < k2 → ∃ r, check_Fits.l0 k1 l1 (l1.length : Int) (i : Int) lo hi tk is = some r ∧ forebearref24_Fits.l0 k2 l1 t2 (i : Int) = some r := by
  induction d with
  | zero =>
    intro k1 k2 i hd hi2 h1 h2
    obtain ⟨k1, rfl⟩ : ∃ k, k1 = k + 1 := ⟨k1 - 1, by omega⟩
    obtain ⟨k2, rfl⟩ : ∃ k, k2 = k + 1 := ⟨k2 - 1, by omega⟩
    exact ⟨0, by rw [check_Fits.l0, if_neg (by omega)], by rw [forebearref24_Fits.l0, if_neg (by omega)]⟩
  | succ d ih =>
    intro k1 k2 i hd hi2 h1 h2
    obtain ⟨k1, rfl⟩ : ∃ k, k1 = k + 1 := ⟨k1 - 1, by omega⟩
    obtain ⟨k2, rfl⟩ : ∃ k, k2 = k + 1 := ⟨k2 - 1, by omega⟩
    have hil : i < l1.length := by omega
    obtain ⟨t3, t4⟩ := ht (by omega)
    obtain ⟨h3, h4⟩ := hh i hil
    obtain ⟨r, r1, r2⟩ := ih k1 k2 (i + 1) (by omega) (by omega) (by omega) (by omega)
    have hw := Lib.hid (show wrap64 ((i : Int) + 1) = ((i + 1 : Nat) : Int) by unfold wrap64; omega)
    have e2 : rd t2 (i : Int) = atT tk i := by rw [← h4]; simp [rd]
    have e3 : check_Fits.l0 (k1 + 1) l1 (l1.length : Int) (i : Int) lo hi tk is = if rd l1 (i : Int) = atT tk i then check_Fits.l0 k1 l1 (l1.length : Int) ((i + 1 : Nat) : Int) lo hi tk is else some 35 := by
      rw [check_Fits.l0, if_pos (by omega), if_pos (by omega), if_pos (by omega), at_f lo hi is tk i t3 t4 (by omega), Option.bind_some, hw.out]
    have e4 : forebearref24_Fits.l0 (k2 + 1) l1 t2 (i : Int) = if rd l1 (i : Int) = atT tk i then forebearref24_Fits.l0 k2 l1 t2 ((i + 1 : Nat) : Int) else some 35 := by
      rw [forebearref24_Fits.l0, if_pos (by omega), if_pos (by omega), if_pos (by omega), e2, hw.out]
    rw [e3, e4]
    by_cases h5 : rd l1 (i : Int) = atT tk i
    · rw [if_pos h5, if_pos h5]; exact ⟨r, r1, r2⟩
    · rw [if_neg h5, if_neg h5]; exact ⟨35, rfl, rfl⟩
theorem names_f : ∃ L, forebearref24_Names.f = some L ∧ L.length = 21 := ⟨_, rfl, rfl⟩
theorem fits_eq (a : ByteArray) (l1 : List Int) (hl : l1.length ≤ 2000000) (k : Nat) (hk : l1.length + 100 ≤ k) : ∃ r, check_Fits.f k a l1 = some r ∧ forebearref24_Fits.f k a l1 = some r := by
  obtain ⟨L, hL, hn⟩ := names_f
  have hany := names_any a.toList
  rw [hL, Option.getD_some] at hany
  unfold check_Fits.f forebearref24_Fits.f
  rw [hL, Option.bind_some, among_f a L (by omega) k (by omega), Option.bind_some, hany, takes_f a l1.length hl k (by omega), Option.bind_some]
  show ∃ r, (if (faceC (nameC a.toList)).2.2.2.2 = true then _ else some 33) = some r ∧ _
  by_cases hf : (faceC (nameC a.toList)).2.2.2.2 = true
  · rw [if_pos hf, if_pos hf]
    obtain ⟨h1, h2⟩ := face_takes a.toList l1.length hl hf
    have hz := face_len (nameC a.toList) hf
    by_cases h3 : (l1.length : Int) < (faceC (nameC a.toList)).1
    · rw [if_pos h3, if_neg (by rw [h1.1 (.inl h3)]; decide)]; exact ⟨34, rfl, rfl⟩
    · rw [if_neg h3]
      by_cases h4 : (faceC (nameC a.toList)).2.1 < (l1.length : Int)
      · rw [if_pos h4, if_neg (by rw [h1.1 (.inr h4)]; decide)]; exact ⟨34, rfl, rfl⟩
      · rw [if_neg h4]
        have h5 : (takesT (nameC a.toList) l1.length).2 = true := by
          cases h6 : (takesT (nameC a.toList) l1.length).2 with
          | true => rfl
          | false => exact absurd (h1.2 h6) (by rintro (h | h); exact h3 h; exact h4 h)
        rw [if_pos h5]
        exact fits_loop l1 _ _ _ _ _ hl (fun h => hz l1.length h h4) (h2 h5) l1.length k k 0 (by omega) (by omega) (by omega) (by omega)
  · rw [if_neg hf, if_neg hf]; exact ⟨33, rfl, rfl⟩
theorem same_names (k : Nat) (hk : 30 ≤ k) : ∃ L, check_Functions.f = some namesB ∧ forebearref24_Names.f = some L ∧ forebearref03_Same.f k namesB L = some true := by
  refine ⟨_, rfl, rfl, ?_⟩
  exact at_rounds (fun k => forebearref03_Same.mono _ _ k) hk (by decide +kernel)
theorem mark_loop (a : ByteArray) (l1 x5 : List Int) (r : Int) (K : Nat) (hc : check_Fits.f K a x5 = some r) (hr : forebearref24_Fits.f K a l1 = some r) (hK : 30 ≤ K) (x7 : List ByteArray) (d : Nat) : ∀ (i : Nat) (y : List ByteArray), y.length ≤ 1000 → d = y.length - i → i ≤ y.length → forebearlaw24_CheckFits.l1 (K + 1 + d) a l1 x5 y true (i : Int) = some true := by
  obtain ⟨L, f1, f2, f3⟩ := same_names K hK
  induction d with
  | zero =>
    intro i y hy hd hi
    rw [forebearlaw24_CheckFits.l1, if_neg (by omega), if_pos rfl, hc, Option.bind_some, hr, Option.bind_some, if_pos rfl, f1, Option.bind_some, f2, Option.bind_some, f3, Option.bind_some]
  | succ d ih =>
    intro i y hy hd hi
    have hw := Lib.hid (show wrap64 ((i : Int) + 1) = ((i + 1 : Nat) : Int) by unfold wrap64; omega)
    rw [← Nat.add_assoc, forebearlaw24_CheckFits.l1, if_pos (by omega), if_pos (by omega), hw.out]
    exact ih (i + 1) _ (by rw [List.length_set]; exact hy) (by rw [List.length_set]; omega) (by rw [List.length_set]; omega)
theorem copy_loop (a : ByteArray) (l1 : List Int) (hl : l1.length ≤ 2000000) (K : Nat) (hK : l1.length + 100 ≤ K) (d : Nat) : ∀ (i : Nat), d = l1.length - i → i ≤ l1.length → forebearlaw24_CheckFits.l0 (K + 1 + 21 + 1 + d) a l1 (l1.take i) (i : Int) = some true := by
  obtain ⟨r, r1, r2⟩ := fits_eq a l1 hl K hK
  induction d with
  | zero =>
    intro i hd hi
    obtain ⟨L, f1, f2, f3⟩ := same_names (K + 1 + 21) (by omega)
    rw [Nat.add_zero, forebearlaw24_CheckFits.l0, if_neg (by omega), f1, Option.bind_some, f2, Option.bind_some, f3, Option.bind_some, List.take_of_length_le (by omega)]
    exact mark_loop a l1 l1 r K r1 r2 (by omega) namesB 21 0 namesB (by decide) rfl (by decide)
  | succ d ih =>
    intro i hd hi
    have hil : i < l1.length := by omega
    have hw := Lib.hid (show wrap64 ((i : Int) + 1) = ((i + 1 : Nat) : Int) by unfold wrap64; omega)
    have e : l1.take i ++ [rd l1 (i : Int)] = l1.take (i + 1) := by
      rw [List.take_succ_eq_append_getElem hil]
      simp [rd, List.getD_eq_getElem?_getD, List.getElem?_eq_getElem hil]
    rw [← Nat.add_assoc, forebearlaw24_CheckFits.l0, if_pos (by omega), if_pos (by omega), if_pos (by rw [List.length_take]; omega), e, hw.out]
    exact ih (i + 1) (by omega) (by omega)
set_option maxRecDepth 100000 in
theorem awake24 : forebearlaw24_awake.f = some true := by decide +kernel
theorem pure (a : ByteArray) (l1 : List Int) (hl : l1.length ≤ 2000000) : ∃ k, forebearlaw24_CheckFits.f k a l1 = some true := by
  refine ⟨l1.length + 100 + 1 + 21 + 1 + l1.length, ?_⟩
  unfold forebearlaw24_CheckFits.f
  rw [awake24, Option.bind_some, if_pos rfl]
  exact copy_loop a l1 hl (l1.length + 100) (Nat.le_refl _) l1.length 0 (by omega) (by omega)
end Fz
end
section
open Go.RowKit Go.Proofs.YtfgfoofojofnmaaDoorW.PrintWords Go.Proofs.YtfgfoofojofnmaaDoorW.PrintLast Go.Proofs.YtfgfoofojofnmaaDoorW.PrintMore
set_option linter.unusedVariables false
set_option linter.unusedSimpArgs false
open Go.Proofs.YtfgfoofojofnmaaDoor.Hand
theorem checkFits_walk (a0 : ByteArray) (a1 : Option Addr) (len1 cap1 : Nat) (z1 : List Int) (w : World) (w0 : a0.size ≤ 140737488351232) (w1 : (a1 = none ∧ len1 = 0 ∧ cap1 = 0 ∧ z1 = []) ∨ ∃ x, a1 = some x ∧ len1 ≤ cap1 ∧ cap1 ≤ maxLen ∧ z1.length = cap1 ∧ (∀ i, i < z1.length → w.cell? (x.add i) = some (.int .i64 (z1.getD i 0))) ∧ ∀ n ∈ z1, (Lit.int .i64 n).wf = true) (hb : len1 ≤ 2000000) :
    Calls Tryd.prog 13 #[.string a0, .slice a1 len1 cap1] w fun e w' => e = .returned (.bool true) ∧ Below w.heap.size w w' := by
  obtain ⟨l1, rfl, hr1, hm1, hw1, hc1⟩ := ReadsInt.ofRowC w1
  obtain ⟨k, h⟩ := Fz.pure a0 l1 hb
  refine (forebearlaw24_CheckFits.calls k a0 _ _ l1 true w (Kd.C_of_reads (d := (0 : Int)) (h1 := fun _ => rfl) hr1) hc1 h).mono ?_
  rintro e w' ⟨rfl, hd⟩
  exact ⟨rfl, hd⟩
end
end Go.Proofs.YtfgfoofojofnmaaDoor.Q
