import Derived.Test.YtfgfoofojofnmaaDoorGQ0
set_option linter.unusedVariables false
set_option linter.unusedSimpArgs false
-- Written by a program of this session's (wip/tools/hprint.py, over the kit's print.py). Not trusted: Lean checks it.
namespace Go.Proofs.YtfgfoofojofnmaaDoor.Q
open Go.RowKit Go.Proofs.YtfgfoofojofnmaaDoorW.PrintWords Go.Proofs.YtfgfoofojofnmaaDoorW.PrintLast Go.Proofs.YtfgfoofojofnmaaDoorW.PrintMore
attribute [local go_sem] Go.Proofs.YtfgfoofojofnmaaDoor.Hand.w64_mod256 Go.Proofs.YtfgfoofojofnmaaDoor.Hand.w64_mod32 max2_int min2_int max_two min_two max_three min_three max_four min_four   -- for this text's walks alone
set_option linter.unusedVariables false
set_option linter.unusedSimpArgs false

/-! ### strings_Join: function 45 -/
/-- The texts of some strings, a text between them. -/
def joinB (l : List ByteArray) (sep : ByteArray) : ByteArray := ⟨(Lib.join (l.map fun x => x.data.toList) sep.data.toList).toArray⟩
def strings_Join.f (l0 : List ByteArray) (a1 : ByteArray) : Option ByteArray :=
  if l0.length ≤ 140737488355328 ∧ (Lib.join (l0.map fun x => x.data.toList) a1.data.toList).length ≤ 140737488355328 then some (joinB l0 a1) else none
theorem strings_Join.calls (A0 : Option Addr) (c0 : Nat) (l0 : List ByteArray) (a1 : ByteArray) (r : ByteArray) (w : World) (hr0 : Kd.C Kd.string w A0 l0.length l0) (hc0 : l0.length ≤ c0) (h : strings_Join.f l0 a1 = some r) :
    Calls Tryd.prog 45 #[.slice A0 l0.length c0, .string a1] w fun e w' => e = .returned (.string r) ∧ Below w.heap.size w w' := by
  unfold strings_Join.f at h
  by_cases hb : l0.length ≤ 140737488355328 ∧ (Lib.join (l0.map fun x => x.data.toList) a1.data.toList).length ≤ 140737488355328
  · rw [if_pos hb] at h
    obtain rfl := Option.some.inj h
    by_cases h0 : l0.length = 0
    · have hl : l0 = [] := List.length_eq_zero_iff.mp h0
      subst hl
      refine (Tryd.strings_Join_none A0 c0 a1 w).mono ?_
      rintro e w' ⟨rfl, rfl⟩
      exact ⟨rfl, Below.refl _ _⟩
    · obtain ⟨ad, e, hx0⟩ := Kd.at_string hr0 0 (by omega) (by omega)
      cases e
      obtain ⟨bk, o, sp⟩ := ad
      have hsp : sp = none := by
        have := World.cell?_spot hx0
        simpa [Addr.add] using this
      subst hsp
      have hcells : ∀ (j : Nat) (x : ByteArray), l0[j]? = some x → w.cell? { block := bk, off := o + j } = some (Value.string x) := by
        intro j x hj
        have hlt := (List.getElem?_eq_some_iff.mp hj).1
        obtain ⟨ad2, e2, hx⟩ := Kd.at_string hr0 (j : Int) (by omega) (by omega)
        cases e2
        have ex : rdOf ByteArray.empty l0 (j : Int) = x := by simp [rdOf, hj]
        rw [ex, Int.toNat_natCast] at hx
        by_cases hj0 : j = 0
        · subst hj0
          simpa [Addr.add] using hx
        · simpa [Addr.add, hj0] using hx
      have hbk : bk < w.heap.size := by
        have := World.block_lt_of_cell? w _ hx0
        simpa [Addr.add] using this
      refine (Tryd.strings_Join bk o c0 l0 a1 w hcells hbk hb.1 hc0 hb.2).mono ?_
      rintro e w' ⟨rfl, hbel⟩
      exact ⟨rfl, hbel⟩
  · rw [if_neg hb] at h
    exact absurd h (by simp)

end Go.Proofs.YtfgfoofojofnmaaDoor.Q
