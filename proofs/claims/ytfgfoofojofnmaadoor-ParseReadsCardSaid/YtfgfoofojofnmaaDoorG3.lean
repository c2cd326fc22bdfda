/- Plain laws for the parser: rounds enough are rounds enough; what is read is read so at any place and ahead of what cannot go on. -/
import Derived.Test.YtfgfoofojofnmaaDoorGP2
set_option linter.unusedVariables false
set_option linter.unusedSimpArgs false
namespace Go.Proofs.YtfgfoofojofnmaaDoor.Q
open Go.RowKit Go.Proofs.YtfgfoofojofnmaaDoorW.PrintWords Go.Proofs.YtfgfoofojofnmaaDoorW.PrintLast Go.Proofs.YtfgfoofojofnmaaDoorW.PrintMore
set_option linter.unusedVariables false
set_option linter.unusedSimpArgs false
open Go.Proofs.YtfgfoofojofnmaaDoor.Hand
theorem failS_bad (ev : Int) (st : St) : (failS ev st).bad = true := by unfold failS; split <;> rfl
theorem signAt_bad {s : ByteArray} {st s1 : St} {p : Int} (h : signAt s st = some (p, s1)) : s1.bad = st.bad := by
  unfold signAt at h
  split at h
  · exact absurd h (by simp)
  · split at h
    · injection h with h; injection h with h1 h2
      rw [← h2]
    · exact absurd h (by simp)
/-- What has failed stays so. -/
theorem bad_all (ev : Int) : ∀ n : Nat, (∀ st, st.bad = true → (exprF ev n st).2.bad = true) ∧ (∀ a st, st.bad = true → (exprL ev n a st).2.bad = true) ∧ (∀ st, st.bad = true → (interF ev n st).2.bad = true) ∧ (∀ a st, st.bad = true → (interL ev n a st).2.bad = true) ∧ (∀ st, st.bad = true → (rangedF ev n st).2.bad = true) ∧ (∀ st, st.bad = true → (unaryF ev n st).2.bad = true) ∧ (∀ a st, st.bad = true → (upL ev n a st).2.bad = true) ∧ (∀ st, st.bad = true → (atomF ev n st).2.bad = true) ∧ (∀ t ks st, st.bad = true → (callL ev n t ks st).2.bad = true)
  | 0 => ⟨fun _ h => h, fun _ _ h => h, fun _ h => h, fun _ _ h => h, fun _ h => h, fun _ h => h, fun _ _ h => h, fun _ h => h, fun _ _ _ h => h⟩
  | n + 1 => by
    obtain ⟨hE, hEL, hI, hIL, hR, hU, hUL, hA, hC⟩ := bad_all ev n
    refine ⟨fun st h => hEL _ _ (hI st h), fun a st h => ?_, fun st h => hIL _ _ (hR st h), fun a st h => ?_, fun st h => ?_, fun st h => ?_, fun a st h => ?_, fun st h => ?_, fun t ks st h => ?_⟩
    · rcases h1 : signAt (str1 124) st with _ | ⟨p, s1⟩
      · rcases h2 : signAt (str1 45) st with _ | ⟨p, s1⟩
        · rw [exprL_none h1 h2]; exact h
        · rw [exprL_minus h1 h2]; exact hEL _ _ (hI s1 ((signAt_bad h2).trans h))
      · rw [exprL_or h1]; exact hEL _ _ (hI s1 ((signAt_bad h1).trans h))
    · rcases h1 : signAt (str1 38) st with _ | ⟨p, s1⟩
      · rw [interL_none h1]; exact h
      · rw [interL_some h1]; exact hIL _ _ (hR s1 ((signAt_bad h1).trans h))
    · have hu := hU st h
      rcases h1 : signAt (str2 46 46) (unaryF ev n st).2 with _ | ⟨p, s1⟩
      · rcases h2 : signAt (str2 58 58) (unaryF ev n st).2 with _ | ⟨p, s1⟩
        · rw [rangedF_none h1 h2]; exact hu
        · rw [rangedF_colons h1 h2]; exact hU s1 ((signAt_bad h2).trans hu)
      · rw [rangedF_dots h1]; exact hU s1 ((signAt_bad h1).trans hu)
    · rcases h1 : signAt (str1 33) st with _ | ⟨p, s1⟩
      · rw [unaryF_atom h1]; exact hUL _ _ (hA st h)
      · rw [unaryF_not h1]; exact hU s1 ((signAt_bad h1).trans h)
    · rcases h1 : signAt (str1 94) st with _ | ⟨p, ts, bad, pos⟩
      · rw [upL_none h1]; exact h
      · have hb := (signAt_bad h1).trans h
        simp only at hb
        subst hb
        cases ts with
        | nil => rw [upL_nil h1]; exact hUL _ _ rfl
        | cons t r =>
          by_cases h2 : t.f0 = 2
          · by_cases h4 : t.f2 = 0
            · rw [upL_zero h1 h2 h4]; exact failS_bad _ _
            · rw [upL_num h1 h2 h4]; exact hUL _ _ rfl
          · rw [upL_other h1 h2]; exact hUL _ _ rfl
    · rcases h1 : signAt (str1 40) st with _ | ⟨p, s1⟩
      · obtain ⟨ts, bad, pos⟩ := st
        simp only at h
        subst h
        cases ts with
        | nil => rw [atomF_nil h1]; exact failS_bad _ _
        | cons t r =>
          by_cases h2 : t.f0 = 5
          · rw [atomF_sign h1 h2]; exact failS_bad _ _
          · by_cases h3 : t.f0 = 4 ∨ t.f0 = 2 ∨ t.f0 = 3
            · rw [atomF_leaf h1 h2 h3]
            · rcases h4 : signAt (str1 40) ⟨r, true, pos⟩ with _ | ⟨p, s1⟩
              · rw [atomF_name h1 h2 h3 h4]
              · have hb := signAt_bad h4
                rw [atomF_call h1 h2 h3 h4]
                rcases h6 : signAt (str1 41) s1 with _ | ⟨p, s2⟩
                · rw [callS_none h6]; exact hC _ _ _ hb
                · rw [callS_some h6]; exact (signAt_bad h6).trans hb
      · have he := hE s1 ((signAt_bad h1).trans h)
        rcases h5 : signAt (str1 41) (exprF ev n s1).2 with _ | ⟨p2, s2⟩
        · rw [atomF_br_no h1 h5]; exact failS_bad _ _
        · rw [atomF_br h1 h5]; exact (signAt_bad h5).trans he
    · have he := hE st h
      rcases h1 : signAt (str1 44) (exprF ev n st).2 with _ | ⟨p, s2⟩
      · rcases h2 : signAt (str1 41) (exprF ev n st).2 with _ | ⟨p, s2⟩
        · rw [callL_bad h1 h2]; exact failS_bad _ _
        · rw [callL_end h1 h2]; exact (signAt_bad h2).trans he
      · rw [callL_comma h1]; exact hC _ _ _ ((signAt_bad h1).trans he)
/-! ### what is read is read so at any place, ahead of what cannot go on -/
mutual
/-- A tree at other places. -/
def mp (g : Int → Int) : S44 → S44
  | ⟨a, b, c, d, ks, e⟩ => ⟨a, b, c, d, mpM g ks, g e⟩
def mpM (g : Int → Int) : List S44 → List S44
  | [] => []
  | k :: ks => mp g k :: mpM g ks
end
/-- Nothing that stands here goes on with an operand. -/
structure Stop (rest : List S39) : Prop where
  none : ∀ s : ByteArray, s = str1 124 ∨ s = str1 45 ∨ s = str1 38 ∨ s = str2 46 46 ∨ s = str2 58 58 ∨ s = str1 94 ∨ s = str1 40 → ∀ b p, signAt s ⟨rest, b, p⟩ = none
  num : ∀ t r, rest = t :: r → t.f0 ≠ 2
theorem ok_of {b c : Bool} (h : b = true → c = true) (hc : c = false) : b = false := by
  cases b with
  | false => rfl
  | true => exact absurd ((h rfl).symm.trans hc) (by decide)
theorem fail_absurd {ev : Int} {st : St} {P : Prop} {x : S44} (h : (x, failS ev st).2.bad = false) : P := absurd ((failS_bad ev st).symm.trans h) (by decide)
end Go.Proofs.YtfgfoofojofnmaaDoor.Q
