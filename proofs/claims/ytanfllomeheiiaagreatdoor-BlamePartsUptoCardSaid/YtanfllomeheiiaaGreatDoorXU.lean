/- Small tactics for the abstract machine. -/
import Derived.Test.YtanfllomeheiiaaGreatDoorXM14
import Derived.Test.YtanfllomeheiiaaGreatDoorXMS
set_option linter.unusedVariables false
set_option linter.unusedSimpArgs false
namespace Go.XM
open RM Go.RowKit
theorem wrap_i64 {n : Int} (h1 : -9223372036854775808 ≤ n) (h2 : n ≤ 9223372036854775807) : IntKind.i64.wrap n = n := IntWalk.i64_in n ⟨h1, h2⟩
theorem eqI {k : IntKind} {a b : Int} (h : a = b) : av (.int k a) = av (.int k b) := by rw [h]
theorem eqB {a b : Bool} (h : a = b) : av (.bool a) = av (.bool b) := by rw [h]
theorem eqS {a b : ByteArray} (h : a = b) : av (.string a) = av (.string b) := by rw [h]
theorem lw_of {h' : Heap} {l : List Nat} (h : (l.all fun r => (get h' r).isSome) = true) : ∀ r, r ∈ l → id r = r ∧ (get h' r).isSome = true := fun r hr => ⟨rfl, List.all_eq_true.1 h r hr⟩
theorem Br.id {b : Bool} {p q : Prop} (h : Br b p q) : Br b p q := h
theorem Br.kt {b : Bool} {p q : Prop} (h : b = true) (hp : p) : Br b p q := ⟨fun _ => hp, fun e => (by rw [h] at e; cases e)⟩
theorem Br.kf {b : Bool} {p q : Prop} (h : b = false) (hp : q) : Br b p q := ⟨fun e => (by rw [h] at e; cases e), fun _ => hp⟩
/-- The next round: the state is one of the invariant's, the measure is less. -/
theorem goes {m0 : Nat} {W : Slots → Heap → Prop} {Inv : Nat → Slots → Heap → Prop} {m : Nat} {s : Slots} {h : Heap} (hI : Inv m s h) (hm : m < m0) (hw : W s h) : ∃ m s h, m < m0 ∧ W s h ∧ Inv m s h := ⟨m, s, h, hm, hw, hI⟩
theorem enters {W : Slots → Heap → Prop} {Inv : Nat → Slots → Heap → Prop} {R : Prop} (H : R) {m : Nat} {s : Slots} {h : Heap} (hI : Inv m s h) (hw : W s h) : (∃ m s h, W s h ∧ Inv m s h) ∧ R := ⟨⟨m, s, h, hw, hI⟩, H⟩
end Go.XM
namespace Go.XM
open RM Go.RowKit
def rowC {α : Type} (enc : α → Nat → D) (z : α) (l : List α) : Nat → Nat → D := fun i j => enc (l.getD i z) j
def sub (a k : Nat) : Nat → Nat := fun r => match Nat.beq r a with
  | true => k
  | false => r
theorem sub_inj {h' : Heap} {a k : Nat} (hk : get h' k = none) : ∀ q q', (get h' q).isSome = true → (get h' q').isSome = true → sub a k q = sub a k q' → q = q' := fun q q' h h' e => by
  unfold sub at e
  cases e1 : Nat.beq q a <;> cases e2 : Nat.beq q' a <;> rw [e1, e2] at e <;> dsimp only at e
  · exact e
  · subst e; rw [hk] at h; cases h
  · subst e; rw [hk] at h'; cases h'
  · rw [Nat.eq_of_beq_eq_true e1, Nat.eq_of_beq_eq_true e2]
theorem eqU_iff {x y : ByteArray} : eqU (lsU x) (lsU y) = true ↔ x = y := by
  rw [eqU_eq]
  exact ⟨fun h => ba_eq (by simpa using h), fun h => by simp [h]⟩
theorem eqU_not {x y : ByteArray} : eqU (lsU x) (lsU y) = false ↔ ¬ x = y := by
  rw [← eqU_iff]; simp
section
variable {α : Type} {enc : α → Nat → D} {z x : α} {l m : List α} {w : Nat}
theorem row_pre {i j : Nat} (h : i < l.length) : rowC enc z (l ++ m) i j = rowC enc z l i j := by
  show enc ((l ++ m).getD i z) j = enc (l.getD i z) j
  rw [List.getD_eq_getElem?_getD, List.getD_eq_getElem?_getD, List.getElem?_append_left h]
theorem row_end {j : Nat} : rowC enc z (l ++ x :: m) l.length j = enc x j := by
  show enc ((l ++ x :: m).getD l.length z) j = enc x j
  rw [List.getD_eq_getElem?_getD, List.getElem?_append_right (Nat.le_refl _), Nat.sub_self]; rfl
theorem dr_push {k : Nat} {ds : List D} (hk : k = l.length) (hd : ∀ j, j < w → DR (ds.getD j default) (enc x j)) {i j : Nat} (hi : i < k + 1) (hj : j < w) : DR (appC k (rowC enc z l) (litC w ds) i j) (rowC enc z (l ++ [x]) i j) := by
  subst hk
  unfold appC
  by_cases h : i < l.length
  · rw [if_pos h, row_pre h]; exact .refl _
  · rw [if_neg h]
    have e : i = l.length := by omega
    subst e
    rw [row_end, Nat.sub_self]
    have e2 : litC w ds 0 j = ds.getD j default := by show ds.getD (0 * w + j) default = _; rw [Nat.zero_mul, Nat.zero_add]
    rw [e2]
    exact hd j hj
end
end Go.XM
