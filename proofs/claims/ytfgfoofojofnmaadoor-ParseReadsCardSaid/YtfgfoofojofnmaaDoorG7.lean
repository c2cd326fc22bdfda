/- Plain laws: a text in brackets with blanks; two texts in brackets with a sign; a call of two texts. -/
import Derived.Test.YtfgfoofojofnmaaDoorG5
import Derived.Test.YtfgfoofojofnmaaDoorG6
set_option linter.unusedVariables false
set_option linter.unusedSimpArgs false
namespace Go.Proofs.YtfgfoofojofnmaaDoor.Q
open Go.RowKit Go.Proofs.YtfgfoofojofnmaaDoorW.PrintWords Go.Proofs.YtfgfoofojofnmaaDoorW.PrintLast Go.Proofs.YtfgfoofojofnmaaDoorW.PrintMore
set_option linter.unusedVariables false
set_option linter.unusedSimpArgs false
open Go.Proofs.YtfgfoofojofnmaaDoor.Hand
end Go.Proofs.YtfgfoofojofnmaaDoor.Q
namespace Go.Proofs.YtfgfoofojofnmaaDoor.Q
open Go.RowKit Go.Proofs.YtfgfoofojofnmaaDoorW.PrintWords Go.Proofs.YtfgfoofojofnmaaDoorW.PrintLast Go.Proofs.YtfgfoofojofnmaaDoorW.PrintMore
set_option linter.unusedVariables false
set_option linter.unusedSimpArgs false
open Go.Proofs.YtfgfoofojofnmaaDoor.Hand
def NoS (s : ByteArray) (R : List S39) : Prop := ∀ b q, signAt s ⟨R, b, q⟩ = none
theorem nos_nil (s : ByteArray) : NoS s [] := fun _ _ => rfl
theorem l1 (c : UInt8) : (str1 c).toList = [c] := str1_list c
theorem l2 (c d : UInt8) : (str2 c d).toList = [c, d] := str2_list c d
def NoNum (R : List S39) : Prop := ∀ t r, R = t :: r → t.f0 ≠ 2
/-- Where an operand that holds together by w may end. -/
structure OkR (w : Nat) (R : List S39) : Prop where
  br : NoS (str1 40) R
  num : w ≤ 5 → NoNum R
  up : w ≤ 4 → NoS (str1 94) R
  dots : w ≤ 3 → NoS (str2 46 46) R ∧ NoS (str2 58 58) R
  amp : w ≤ 1 → NoS (str1 38) R
theorem OkR.mono {w v : Nat} {R : List S39} (h : OkR w R) (hv : w ≤ v) : OkR v R := ⟨h.br, fun e => h.num (by omega), fun e => h.up (by omega), fun e => h.dots (by omega), fun e => h.amp (by omega)⟩
/-- A kid's text, in brackets where it must, as bytes. -/
def kidL (x : S44) (w : Int) : List UInt8 := if levelT x.f0 < w then 40 :: ((showT x).data.toList ++ [41]) else (showT x).data.toList
theorem kid_list (ks : List S44) (i : Nat) (h : i < ks.length) (w : Int) : (kidAt (showM ks) i w).data.toList = kidL ks[i] w := by
  rw [kidAt_in ks i h w]
  unfold kidL
  split
  · simp
  · rfl
def lv (x : S44) : Nat := (levelT x.f0).toNat
/-! ### each form -/
theorem call_list (s : ByteArray) (ks : List S44) (p : Int) : (showT ⟨5, s, 0, 0, ks, p⟩).data.toList = s.data.toList ++ 40 :: (Lib.join (ks.map fun k => kidL k 1) [44, 32] ++ [41]) := by
  have hl : (showM ks).length = ks.length := by rw [showM_map, List.length_map]
  rw [showT]
  show (((s ++ (⟨#[40]⟩ : ByteArray)) ++ joinB ((List.range (showM ks).length).map fun i => kidAt (showM ks) i 1) (⟨#[44, 32]⟩ : ByteArray)) ++ (⟨#[41]⟩ : ByteArray)).data.toList = _
  have e : (((List.range (showM ks).length).map fun i => kidAt (showM ks) i 1).map fun x => x.data.toList) = ks.map fun k => kidL k 1 := by
    rw [hl, List.map_map]
    apply List.ext_getElem
    · simp
    · intro i h1 h2
      have hi : i < ks.length := by simpa using h1
      simp only [List.getElem_map, List.getElem_range, Function.comp_apply]
      exact kid_list ks i hi 1
  simp only [joinB, e]
  simp
end Go.Proofs.YtfgfoofojofnmaaDoor.Q
