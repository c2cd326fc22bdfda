/- Brackets about a text, and blanks, change nothing of the tree but the places; two texts in brackets with a sign between are that sign's node: the law, walked. -/
import Derived.Test.YtfgfoofojofnmaaDoorP2
import Derived.Test.YtfgfoofojofnmaaDoorL1
import Derived.Test.YtfgfoofojofnmaaDoorP4
import Derived.Test.YtfgfoofojofnmaaDoorQF25
import Derived.Test.YtfgfoofojofnmaaDoorQF31
import Derived.Test.YtfgfoofojofnmaaDoorQF28
import Derived.Test.YtfgfoofojofnmaaDoorQF22
import Derived.Test.YtfgfoofojofnmaaDoorQF29
import Derived.Outline
import Derived.Deep.DeepCutAuto
import Derived.Deep.CutBlock
import Derived.Test.YtfgfoofojofnmaaDoorQF32
import Derived.Deep.RegionHeld3
namespace Go.Proofs.YtfgfoofojofnmaaDoor.Q
section
open Go.RowKit Go.Proofs.YtfgfoofojofnmaaDoorW.PrintWords Go.Proofs.YtfgfoofojofnmaaDoorW.PrintLast Go.Proofs.YtfgfoofojofnmaaDoorW.PrintMore
set_option linter.unusedVariables false
set_option linter.unusedSimpArgs false
open Go.Proofs.YtfgfoofojofnmaaDoor.Hand
/-- One round more changes nothing where there are enough. -/
theorem fuel_all (ev : Int) : ∀ n : Nat, (∀ st, 6 * st.ts.length + 6 ≤ n → exprF ev (n + 1) st = exprF ev n st) ∧ (∀ a st, 6 * st.ts.length ≤ n → exprL ev (n + 1) a st = exprL ev n a st) ∧ (∀ st, 6 * st.ts.length + 5 ≤ n → interF ev (n + 1) st = interF ev n st) ∧ (∀ a st, 6 * st.ts.length ≤ n + 1 → interL ev (n + 1) a st = interL ev n a st) ∧ (∀ st, 6 * st.ts.length + 4 ≤ n → rangedF ev (n + 1) st = rangedF ev n st) ∧ (∀ st, 6 * st.ts.length + 3 ≤ n → unaryF ev (n + 1) st = unaryF ev n st) ∧ (∀ a st, st.ts.length ≤ n → upL ev (n + 1) a st = upL ev n a st) ∧ (∀ st, 6 * st.ts.length + 2 ≤ n → atomF ev (n + 1) st = atomF ev n st) ∧ (∀ t ks st, 6 * st.ts.length + 7 ≤ n → callL ev (n + 1) t ks st = callL ev n t ks st)
  | 0 => by
    refine ⟨fun st h => absurd h (by omega), fun a st h => ?_, fun st h => absurd h (by omega), fun a st h => ?_, fun st h => absurd h (by omega), fun st h => absurd h (by omega), fun a st h => ?_, fun st h => absurd h (by omega), fun t ks st h => absurd h (by omega)⟩
    all_goals
      obtain ⟨ts, bad, pos⟩ := st
      have : ts = [] := List.eq_nil_of_length_eq_zero (by simp only at h; omega)
      subst this
      rfl
  | n + 1 => by
    obtain ⟨hE, hEL, hI, hIL, hR, hU, hUL, hA, hC⟩ := fuel_all ev n
    obtain ⟨tE, tI, tR, tU, tA⟩ := ts_le ev n
    refine ⟨fun st h => ?_, fun a st h => ?_, fun st h => ?_, fun a st h => ?_, fun st h => ?_, fun st h => ?_, fun a st h => ?_, fun st h => ?_, fun t ks st h => ?_⟩
    · show exprL ev (n + 1) (interF ev (n + 1) st).1 (interF ev (n + 1) st).2 = exprL ev n (interF ev n st).1 (interF ev n st).2
      have := tI st
      rw [hI st (by omega), hEL _ _ (by omega)]
    · rcases h1 : signAt (str1 124) st with _ | ⟨p, s1⟩
      · rcases h2 : signAt (str1 45) st with _ | ⟨p, s1⟩
        · rw [exprL_none h1 h2, exprL_none h1 h2]
        · have h3 := signAt_len h2; have := tI s1
          rw [exprL_minus h1 h2, exprL_minus h1 h2, hI s1 (by omega), hEL _ _ (by omega)]
      · have h3 := signAt_len h1; have := tI s1
        rw [exprL_or h1, exprL_or h1, hI s1 (by omega), hEL _ _ (by omega)]
    · show interL ev (n + 1) (rangedF ev (n + 1) st).1 (rangedF ev (n + 1) st).2 = interL ev n (rangedF ev n st).1 (rangedF ev n st).2
      have := tR st
      rw [hR st (by omega), hIL _ _ (by omega)]
    · rcases h1 : signAt (str1 38) st with _ | ⟨p, s1⟩
      · rw [interL_none h1, interL_none h1]
      · have h3 := signAt_len h1; have := tR s1
        rw [interL_some h1, interL_some h1, hR s1 (by omega), hIL _ _ (by omega)]
    · have hu := hU st (by omega)
      have := tU st
      rcases h1 : signAt (str2 46 46) (unaryF ev n st).2 with _ | ⟨p, s1⟩
      · rcases h2 : signAt (str2 58 58) (unaryF ev n st).2 with _ | ⟨p, s1⟩
        · rw [rangedF_none h1 h2, rangedF_none (by rw [hu]; exact h1) (by rw [hu]; exact h2), hu]
        · have h3 := signAt_len h2
          rw [rangedF_colons h1 h2, rangedF_colons (by rw [hu]; exact h1) (by rw [hu]; exact h2), hu, hU s1 (by omega)]
      · have h3 := signAt_len h1
        rw [rangedF_dots h1, rangedF_dots (by rw [hu]; exact h1), hu, hU s1 (by omega)]
    · rcases h1 : signAt (str1 33) st with _ | ⟨p, s1⟩
      · have := tA st
        rw [unaryF_atom h1, unaryF_atom h1, hA st (by omega), hUL _ _ (by omega)]
      · have h3 := signAt_len h1
        rw [unaryF_not h1, unaryF_not h1, hU s1 (by omega)]
    · rcases h1 : signAt (str1 94) st with _ | ⟨p, ts, bad, pos⟩
      · rw [upL_none h1, upL_none h1]
      · have h3 := signAt_len h1
        cases ts with
        | nil => rw [upL_nil h1, upL_nil h1, hUL _ _ (by simp)]
        | cons t r =>
          simp only [List.length_cons] at h3
          by_cases h2 : t.f0 = 2
          · by_cases h4 : t.f2 = 0
            · rw [upL_zero h1 h2 h4, upL_zero h1 h2 h4]
            · rw [upL_num h1 h2 h4, upL_num h1 h2 h4, hUL _ _ (by show r.length ≤ n; omega)]
          · rw [upL_other h1 h2, upL_other h1 h2, hUL _ _ (by show (t :: r).length ≤ n; simp only [List.length_cons]; omega)]
    · rcases h1 : signAt (str1 40) st with _ | ⟨p, s1⟩
      · obtain ⟨ts, bad, pos⟩ := st
        cases ts with
        | nil => rw [atomF_nil h1, atomF_nil h1]
        | cons t r =>
          simp only [List.length_cons] at h
          by_cases h2 : t.f0 = 5
          · rw [atomF_sign h1 h2, atomF_sign h1 h2]
          · by_cases h3 : t.f0 = 4 ∨ t.f0 = 2 ∨ t.f0 = 3
            · rw [atomF_leaf h1 h2 h3, atomF_leaf h1 h2 h3]
            · rcases h4 : signAt (str1 40) ⟨r, bad, pos⟩ with _ | ⟨p, s1⟩
              · rw [atomF_name h1 h2 h3 h4, atomF_name h1 h2 h3 h4]
              · have h5 := signAt_len h4
                simp only at h5
                rw [atomF_call h1 h2 h3 h4, atomF_call h1 h2 h3 h4]
                rcases h6 : signAt (str1 41) s1 with _ | ⟨p, s2⟩
                · rw [callS_none h6, callS_none h6, hC _ _ _ (by omega)]
                · rw [callS_some h6, callS_some h6]
      · have h3 := signAt_len h1
        have he := hE s1 (by omega)
        rcases h5 : signAt (str1 41) (exprF ev n s1).2 with _ | ⟨p2, s2⟩
        · rw [atomF_br_no h1 h5, atomF_br_no h1 (by rw [he]; exact h5), he]
        · rw [atomF_br h1 h5, atomF_br h1 (by rw [he]; exact h5), he]
    · have he := hE st (by omega)
      have := tE st
      rcases h1 : signAt (str1 44) (exprF ev n st).2 with _ | ⟨p, s2⟩
      · rcases h2 : signAt (str1 41) (exprF ev n st).2 with _ | ⟨p, s2⟩
        · rw [callL_bad h1 h2, callL_bad (by rw [he]; exact h1) (by rw [he]; exact h2), he]
        · rw [callL_end h1 h2, callL_end (by rw [he]; exact h1) (by rw [he]; exact h2), he]
      · have h6 := signAt_len h1
        rw [callL_comma h1, callL_comma (by rw [he]; exact h1), he, hC _ _ _ (by omega)]
theorem expr_more (ev : Int) (st : St) (n : Nat) (h : 6 * st.ts.length + 6 ≤ n) : ∀ d : Nat, exprF ev (n + d) st = exprF ev n st
  | 0 => rfl
  | d + 1 => by rw [← Nat.add_assoc, (fuel_all ev (n + d)).1 st (by omega), expr_more ev st n h d]
theorem failS_bad (ev : Int) (st : St) : (failS ev st).bad = true := by unfold failS; split <;> rfl
theorem signAt_bad {s : ByteArray} {st s1 : St} {p : Int} (h : signAt s st = some (p, s1)) : s1.bad = st.bad := by
  unfold signAt at h
  split at h
  · exact absurd h (by simp)
  · split at h
    · injection h with h; injection h with h1 h2
      rw [← h2]
    · exact absurd h (by simp)
/-- What has failed stays so. -/
theorem bad_all (ev : Int) : ∀ n : Nat, (∀ st, st.bad = true → (exprF ev n st).2.bad = true) ∧ (∀ a st, st.bad = true → (exprL ev n a st).2.bad = true) ∧ (∀ st, st.bad = true → (interF ev n st).2.bad = true) ∧ (∀ a st, st.bad = true → (interL ev n a st).2.bad = true) ∧ (∀ st, st.bad = true → (rangedF ev n st).2.bad = true) ∧ (∀ st, st.bad = true → (unaryF ev n st).2.bad = true) ∧ (∀ a st, st.bad = true → (upL ev n a st).2.bad = true) ∧ (∀ st, st.bad = true → (atomF ev n st).2.bad = true) ∧ (∀ t ks st, st.bad = true → (callL ev n t ks st).2.bad = true)
  | 0 => ⟨fun _ h => h, fun _ _ h => h, fun _ h => h, fun _ _ h => h, fun _ h => h, fun _ h => h, fun _ _ h => h, fun _ h => h, fun _ _ _ h => h⟩
  | n + 1 => by
    obtain ⟨hE, hEL, hI, hIL, hR, hU, hUL, hA, hC⟩ := bad_all ev n
    refine ⟨fun st h => hEL _ _ (hI st h), fun a st h => ?_, fun st h => hIL _ _ (hR st h), fun a st h => ?_, fun st h => ?_, fun st h => ?_, fun a st h => ?_, fun st h => ?_, fun t ks st h => ?_⟩
    · rcases h1 : signAt (str1 124) st with _ | ⟨p, s1⟩
      · rcases h2 : signAt (str1 45) st with _ | ⟨p, s1⟩
        · rw [exprL_none h1 h2]; exact h
        · rw [exprL_minus h1 h2]; exact hEL _ _ (hI s1 ((signAt_bad h2).trans h))
      · rw [exprL_or h1]; exact hEL _ _ (hI s1 ((signAt_bad h1).trans h))
    · rcases h1 : signAt (str1 38) st with _ | ⟨p, s1⟩
      · rw [interL_none h1]; exact h
      · rw [interL_some h1]; exact hIL _ _ (hR s1 ((signAt_bad h1).trans h))
    · have hu := hU st h
      rcases h1 : signAt (str2 46 46) (unaryF ev n st).2 with _ | ⟨p, s1⟩
      · rcases h2 : signAt (str2 58 58) (unaryF ev n st).2 with _ | ⟨p, s1⟩
        · rw [rangedF_none h1 h2]; exact hu
        · rw [rangedF_colons h1 h2]; exact hU s1 ((signAt_bad h2).trans hu)
      · rw [rangedF_dots h1]; exact hU s1 ((signAt_bad h1).trans hu)
    · rcases h1 : signAt (str1 33) st with _ | ⟨p, s1⟩
      · rw [unaryF_atom h1]; exact hUL _ _ (hA st h)
      · rw [unaryF_not h1]; exact hU s1 ((signAt_bad h1).trans h)
    · rcases h1 : signAt (str1 94) st with _ | ⟨p, ts, bad, pos⟩
      · rw [upL_none h1]; exact h
      · have hb := (signAt_bad h1).trans h
        simp only at hb
        subst hb
        cases ts with
        | nil => rw [upL_nil h1]; exact hUL _ _ rfl
        | cons t r =>
          by_cases h2 : t.f0 = 2
          · by_cases h4 : t.f2 = 0
            · rw [upL_zero h1 h2 h4]; exact failS_bad _ _
            · rw [upL_num h1 h2 h4]; exact hUL _ _ rfl
          · rw [upL_other h1 h2]; exact hUL _ _ rfl
    · rcases h1 : signAt (str1 40) st with _ | ⟨p, s1⟩
      · obtain ⟨ts, bad, pos⟩ := st
        simp only at h
        subst h
        cases ts with
        | nil => rw [atomF_nil h1]; exact failS_bad _ _
        | cons t r =>
          by_cases h2 : t.f0 = 5
          · rw [atomF_sign h1 h2]; exact failS_bad _ _
          · by_cases h3 : t.f0 = 4 ∨ t.f0 = 2 ∨ t.f0 = 3
            · rw [atomF_leaf h1 h2 h3]
            · rcases h4 : signAt (str1 40) ⟨r, true, pos⟩ with _ | ⟨p, s1⟩
              · rw [atomF_name h1 h2 h3 h4]
              · have hb := signAt_bad h4
                rw [atomF_call h1 h2 h3 h4]
                rcases h6 : signAt (str1 41) s1 with _ | ⟨p, s2⟩
                · rw [callS_none h6]; exact hC _ _ _ hb
                · rw [callS_some h6]; exact (signAt_bad h6).trans hb
      · have he := hE s1 ((signAt_bad h1).trans h)
        rcases h5 : signAt (str1 41) (exprF ev n s1).2 with _ | ⟨p2, s2⟩
        · rw [atomF_br_no h1 h5]; exact failS_bad _ _
        · rw [atomF_br h1 h5]; exact (signAt_bad h5).trans he
    · have he := hE st h
      rcases h1 : signAt (str1 44) (exprF ev n st).2 with _ | ⟨p, s2⟩
      · rcases h2 : signAt (str1 41) (exprF ev n st).2 with _ | ⟨p, s2⟩
        · rw [callL_bad h1 h2]; exact failS_bad _ _
        · rw [callL_end h1 h2]; exact (signAt_bad h2).trans he
      · rw [callL_comma h1]; exact hC _ _ _ ((signAt_bad h1).trans he)
/-! ### what is read is read so at any place, ahead of what cannot go on -/
def tkG (g : Int → Int) (t : S39) : S39 := ⟨t.f0, t.f1, t.f2, t.f3, g t.f4⟩
mutual
/-- A tree at other places. -/
def mp (g : Int → Int) : S44 → S44
  | ⟨a, b, c, d, ks, e⟩ => ⟨a, b, c, d, mpM g ks, g e⟩
def mpM (g : Int → Int) : List S44 → List S44
  | [] => []
  | k :: ks => mp g k :: mpM g ks
end
theorem mp_mk (g : Int → Int) (a : Int) (b : ByteArray) (c d : Int) (ks : List S44) (e : Int) : mp g ⟨a, b, c, d, ks, e⟩ = ⟨a, b, c, d, mpM g ks, g e⟩ := by rw [mp]
theorem mpM_nil (g : Int → Int) : mpM g [] = [] := by rw [mpM]
theorem mpM_cons (g : Int → Int) (k : S44) (ks : List S44) : mpM g (k :: ks) = mp g k :: mpM g ks := by rw [mpM]
theorem mpM_app (g : Int → Int) (ks : List S44) (k : S44) : mpM g (ks ++ [k]) = mpM g ks ++ [mp g k] := by
  induction ks with
  | nil => rw [List.nil_append, mpM_cons, mpM_nil]; rfl
  | cons a ks ih => rw [List.cons_append, mpM_cons, mpM_cons, ih]; rfl
theorem mp_nd1 (g : Int → Int) (op p : Int) (a : S44) : mp g (nd op [a] p) = nd op [mp g a] (g p) := by unfold nd; rw [mp_mk, mpM_cons, mpM_nil]
theorem mp_nd2 (g : Int → Int) (op p : Int) (a b : S44) : mp g (nd op [a, b] p) = nd op [mp g a, mp g b] (g p) := by unfold nd; rw [mp_mk, mpM_cons, mpM_cons, mpM_nil]
theorem mp_leaf (g : Int → Int) (t : S39) : mp g (leafN t) = leafN (tkG g t) := by unfold leafN; rw [mp_mk, mpM_nil]; rfl
def exS (g : Int → Int) (rest : List S39) (q : Int) (st : St) : St := ⟨st.ts.map (tkG g) ++ rest, false, q⟩
/-- Nothing that stands here goes on with an operand. -/
structure Stop (rest : List S39) : Prop where
  none : ∀ s : ByteArray, s = str1 124 ∨ s = str1 45 ∨ s = str1 38 ∨ s = str2 46 46 ∨ s = str2 58 58 ∨ s = str1 94 ∨ s = str1 40 → ∀ b p, signAt s ⟨rest, b, p⟩ = none
  num : ∀ t r, rest = t :: r → t.f0 ≠ 2
theorem sign_ex {g : Int → Int} {rest : List S39} {q : Int} {s : ByteArray} {st s1 : St} {p : Int} (h : signAt s st = some (p, s1)) : signAt s (exS g rest q st) = some (g p, exS g rest q s1) := by
  obtain ⟨ts, bad, pos⟩ := st
  cases ts with
  | nil => exact absurd h (by simp [signAt])
  | cons t r =>
    simp only [signAt] at h
    split at h
    · rename_i hc
      injection h with h; injection h with h1 h2
      subst h1
      subst h2
      simp only [exS, signAt, List.map_cons, List.cons_append, tkG]
      rw [if_pos hc]
    · exact absurd h (by simp)
theorem sign_ex_no {g : Int → Int} {rest : List S39} {q : Int} {s : ByteArray} {st : St} (h : signAt s st = none) (hr : st.ts ≠ [] ∨ ∀ b p, signAt s ⟨rest, b, p⟩ = none) : signAt s (exS g rest q st) = none := by
  obtain ⟨ts, bad, pos⟩ := st
  cases ts with
  | nil => exact (hr.resolve_left (fun e => e rfl)) _ _
  | cons t r =>
    simp only [signAt] at h
    split at h
    · exact absurd h (by simp)
    · rename_i hc
      simp only [exS, signAt, List.map_cons, List.cons_append, tkG]
      rw [if_neg hc]
theorem ok_of {b c : Bool} (h : b = true → c = true) (hc : c = false) : b = false := by
  cases b with
  | false => rfl
  | true => exact absurd ((h rfl).symm.trans hc) (by decide)
theorem fail_absurd {ev : Int} {st : St} {P : Prop} {x : S44} (h : (x, failS ev st).2.bad = false) : P := absurd ((failS_bad ev st).symm.trans h) (by decide)
theorem atom_none {ev : Int} {n : Nat} {bad : Bool} {pos : Int} : (atomF ev (n + 1) ⟨[], bad, pos⟩).2.bad = true := by
  rw [atomF_nil (by rfl)]; exact failS_bad _ _
set_option maxHeartbeats 1000000 in
theorem ext_all (ev ev' : Int) (g : Int → Int) (rest : List S39) (q : Int) (hs : Stop rest) : ∀ n : Nat,
    (∀ st, 6 * st.ts.length + 6 ≤ n → (exprF ev n st).2.bad = false → exprF ev' n (exS g rest q st) = (mp g (exprF ev n st).1, exS g rest q (exprF ev n st).2)) ∧
    (∀ a st, 6 * st.ts.length ≤ n → (exprL ev n a st).2.bad = false → exprL ev' n (mp g a) (exS g rest q st) = (mp g (exprL ev n a st).1, exS g rest q (exprL ev n a st).2)) ∧
    (∀ st, 6 * st.ts.length + 5 ≤ n → (interF ev n st).2.bad = false → interF ev' n (exS g rest q st) = (mp g (interF ev n st).1, exS g rest q (interF ev n st).2)) ∧
    (∀ a st, 6 * st.ts.length ≤ n + 1 → (interL ev n a st).2.bad = false → interL ev' n (mp g a) (exS g rest q st) = (mp g (interL ev n a st).1, exS g rest q (interL ev n a st).2)) ∧
    (∀ st, 6 * st.ts.length + 4 ≤ n → (rangedF ev n st).2.bad = false → rangedF ev' n (exS g rest q st) = (mp g (rangedF ev n st).1, exS g rest q (rangedF ev n st).2)) ∧
    (∀ st, 6 * st.ts.length + 3 ≤ n → (unaryF ev n st).2.bad = false → unaryF ev' n (exS g rest q st) = (mp g (unaryF ev n st).1, exS g rest q (unaryF ev n st).2)) ∧
    (∀ a st, st.ts.length ≤ n → (upL ev n a st).2.bad = false → upL ev' n (mp g a) (exS g rest q st) = (mp g (upL ev n a st).1, exS g rest q (upL ev n a st).2)) ∧
    (∀ st, 6 * st.ts.length + 2 ≤ n → (atomF ev n st).2.bad = false → atomF ev' n (exS g rest q st) = (mp g (atomF ev n st).1, exS g rest q (atomF ev n st).2)) ∧
    (∀ t ks st, 6 * st.ts.length + 7 ≤ n → (callL ev n t ks st).2.bad = false → callL ev' n (tkG g t) (mpM g ks) (exS g rest q st) = (mp g (callL ev n t ks st).1, exS g rest q (callL ev n t ks st).2))
  | 0 => by
    refine ⟨fun st h => absurd h (by omega), fun a st h hb => ?_, fun st h => absurd h (by omega), fun a st h hb => ?_, fun st h => absurd h (by omega), fun st h => absurd h (by omega), fun a st h hb => ?_, fun st h => absurd h (by omega), fun t ks st h => absurd h (by omega)⟩
    all_goals rfl
  | n + 1 => by
    obtain ⟨hE, hEL, hI, hIL, hR, hU, hUL, hA, hC⟩ := ext_all ev ev' g rest q hs n
    obtain ⟨tE, tI, tR, tU, tA⟩ := ts_le ev n
    obtain ⟨bE, bEL, bI, bIL, bR, bU, bUL, bA, bC⟩ := bad_all ev n
    refine ⟨fun st h hb => ?_, fun a st h hb => ?_, fun st h hb => ?_, fun a st h hb => ?_, fun st h hb => ?_, fun st h hb => ?_, fun a st h hb => ?_, fun st h hb => ?_, fun t ks st h hb => ?_⟩
    · have hb' : (exprL ev n (interF ev n st).1 (interF ev n st).2).2.bad = false := hb
      have := tI st
      show exprL ev' n (interF ev' n (exS g rest q st)).1 (interF ev' n (exS g rest q st)).2 = _
      rw [hI st (by omega) (ok_of (bEL _ _) hb')]
      exact hEL _ _ (by omega) hb'
    · rcases h1 : signAt (str1 124) st with _ | ⟨p, s1⟩
      · rcases h2 : signAt (str1 45) st with _ | ⟨p, s1⟩
        · rw [exprL_none h1 h2, exprL_none (sign_ex_no h1 (.inr (hs.none _ (by simp)))) (sign_ex_no h2 (.inr (hs.none _ (by simp))))]
        · have h3 := signAt_len h2; have := tI s1
          rw [exprL_minus h1 h2] at hb ⊢
          rw [exprL_minus (sign_ex_no h1 (.inr (hs.none _ (by simp)))) (sign_ex h2), hI s1 (by omega) (ok_of (bEL _ _) hb)]
          rw [← mp_nd2]
          exact hEL _ _ (by omega) hb
      · have h3 := signAt_len h1; have := tI s1
        rw [exprL_or h1] at hb ⊢
        rw [exprL_or (sign_ex h1), hI s1 (by omega) (ok_of (bEL _ _) hb)]
        rw [← mp_nd2]
        exact hEL _ _ (by omega) hb
    · have hb' : (interL ev n (rangedF ev n st).1 (rangedF ev n st).2).2.bad = false := hb
      have := tR st
      show interL ev' n (rangedF ev' n (exS g rest q st)).1 (rangedF ev' n (exS g rest q st)).2 = _
      rw [hR st (by omega) (ok_of (bIL _ _) hb')]
      exact hIL _ _ (by omega) hb'
    · rcases h1 : signAt (str1 38) st with _ | ⟨p, s1⟩
      · rw [interL_none h1, interL_none (sign_ex_no h1 (.inr (hs.none _ (by simp))))]
      · have h3 := signAt_len h1; have := tR s1
        rw [interL_some h1] at hb ⊢
        rw [interL_some (sign_ex h1), hR s1 (by omega) (ok_of (bIL _ _) hb)]
        rw [← mp_nd2]
        exact hIL _ _ (by omega) hb
    · have := tU st
      rcases h1 : signAt (str2 46 46) (unaryF ev n st).2 with _ | ⟨p, s1⟩
      · rcases h2 : signAt (str2 58 58) (unaryF ev n st).2 with _ | ⟨p, s1⟩
        · rw [rangedF_none h1 h2] at hb ⊢
          have hu := hU st (by omega) hb
          rw [rangedF_none (by rw [hu]; exact sign_ex_no h1 (.inr (hs.none _ (by simp)))) (by rw [hu]; exact sign_ex_no h2 (.inr (hs.none _ (by simp)))), hu]
        · have h3 := signAt_len h2
          rw [rangedF_colons h1 h2] at hb ⊢
          have hu1 := hU s1 (by omega) hb
          have hu := hU st (by omega) (ok_of (fun e => bU s1 ((signAt_bad h2).trans e)) hb)
          rw [rangedF_colons (by rw [hu]; exact sign_ex_no h1 (.inr (hs.none _ (by simp)))) (by rw [hu]; exact sign_ex h2), hu, hu1, mp_nd2]
      · have h3 := signAt_len h1
        rw [rangedF_dots h1] at hb ⊢
        have hu1 := hU s1 (by omega) hb
        have hu := hU st (by omega) (ok_of (fun e => bU s1 ((signAt_bad h1).trans e)) hb)
        rw [rangedF_dots (by rw [hu]; exact sign_ex h1), hu, hu1, mp_nd2]
    · rcases h1 : signAt (str1 33) st with _ | ⟨p, s1⟩
      · have := tA st
        rw [unaryF_atom h1] at hb ⊢
        have hne : st.ts ≠ [] := by
          intro e
          obtain ⟨ts, bad, pos⟩ := st
          simp only at e
          subst e
          obtain ⟨m, rfl⟩ : ∃ m, n = m + 1 := ⟨n - 1, by omega⟩
          rw [bUL _ _ atom_none] at hb
          exact absurd hb (by decide)
        rw [unaryF_atom (sign_ex_no h1 (.inl hne)), hA st (by omega) (ok_of (bUL _ _) hb)]
        exact hUL _ _ (by omega) hb
      · have h3 := signAt_len h1
        rw [unaryF_not h1] at hb ⊢
        rw [unaryF_not (sign_ex h1), hU s1 (by omega) hb, mp_nd1]
    · rcases h1 : signAt (str1 94) st with _ | ⟨p, ts, bad, pos⟩
      · rw [upL_none h1, upL_none (sign_ex_no h1 (.inr (hs.none _ (by simp))))]
      · have h3 := signAt_len h1
        have hx := sign_ex (g := g) (rest := rest) (q := q) h1
        cases ts with
        | nil =>
          rw [upL_nil h1] at hb ⊢
          have hh := hUL _ _ (by simp) hb
          rw [mp_nd1] at hh
          cases hr : rest with
          | nil =>
            subst hr
            rw [upL_nil (p := g p) hx]
            exact hh
          | cons t r =>
            have h2 := hs.num t r hr
            subst hr
            rw [upL_other (p := g p) hx h2]
            exact hh
        | cons t r =>
          simp only [List.length_cons] at h3
          by_cases h2 : t.f0 = 2
          · by_cases h4 : t.f2 = 0
            · rw [upL_zero h1 h2 h4] at hb
              exact fail_absurd hb
            · rw [upL_num h1 h2 h4] at hb ⊢
              have hh := hUL _ _ (by show r.length ≤ n; omega) hb
              rw [mp_mk, mpM_cons, mpM_nil] at hh
              rw [upL_num (p := g p) hx h2 h4]
              exact hh
          · rw [upL_other h1 h2] at hb ⊢
            have hh := hUL _ _ (by show (t :: r).length ≤ n; simp only [List.length_cons]; omega) hb
            rw [mp_nd1] at hh
            rw [upL_other (p := g p) hx h2]
            exact hh
    · rcases h1 : signAt (str1 40) st with _ | ⟨p, s1⟩
      · obtain ⟨ts, bad, pos⟩ := st
        cases ts with
        | nil =>
          rw [atomF_nil h1] at hb
          exact fail_absurd hb
        | cons t r =>
          simp only [List.length_cons] at h
          have hx := sign_ex_no (g := g) (rest := rest) (q := q) h1 (.inl (by simp))
          by_cases h2 : t.f0 = 5
          · rw [atomF_sign h1 h2] at hb
            exact fail_absurd hb
          · by_cases h3 : t.f0 = 4 ∨ t.f0 = 2 ∨ t.f0 = 3
            · rw [atomF_leaf h1 h2 h3, mp_leaf]
              exact atomF_leaf (t := tkG g t) (r := r.map (tkG g) ++ rest) hx h2 h3
            · rcases h4 : signAt (str1 40) ⟨r, bad, pos⟩ with _ | ⟨p, s1⟩
              · rw [atomF_name h1 h2 h3 h4, mp_leaf]
                exact atomF_name (t := tkG g t) (r := r.map (tkG g) ++ rest) hx h2 h3 (sign_ex_no (q := q) h4 (.inr (hs.none _ (by simp))))
              · have h5 := signAt_len h4
                simp only at h5
                rw [atomF_call h1 h2 h3 h4] at hb ⊢
                refine (atomF_call (t := tkG g t) (r := r.map (tkG g) ++ rest) hx h2 h3 (sign_ex (q := q) h4)).trans ?_
                rcases h6 : signAt (str1 41) s1 with _ | ⟨p, s2⟩
                · rw [callS_none h6] at hb ⊢
                  have hne : s1.ts ≠ [] := by
                    intro e
                    obtain ⟨ts1, bad1, pos1⟩ := s1
                    simp only at e
                    subst e
                    obtain ⟨m, rfl⟩ : ∃ m, n = m + 1 := ⟨n - 1, by omega⟩
                    have hq : (exprF ev m ⟨[], bad1, pos1⟩).2.ts = [] := List.eq_nil_of_length_eq_zero (Nat.le_zero.1 ((ts_le ev m).1 _))
                    have hn : ∀ s, signAt s (exprF ev m ⟨[], bad1, pos1⟩).2 = none := by intro s; unfold signAt; rw [hq]
                    rw [callL_bad (hn _) (hn _)] at hb
                    exact fail_absurd hb
                  rw [callS_none (sign_ex_no h6 (.inl hne))]
                  have hh := hC t [] s1 (by omega) hb
                  rw [mpM_nil] at hh
                  exact hh
                · rw [callS_some h6] at hb ⊢
                  rw [callS_some (sign_ex h6), mp_mk, mpM_nil]
                  rfl
      · have h3 := signAt_len h1
        rcases h5 : signAt (str1 41) (exprF ev n s1).2 with _ | ⟨p2, s2⟩
        · rw [atomF_br_no h1 h5] at hb
          exact fail_absurd hb
        · rw [atomF_br h1 h5] at hb ⊢
          have he := hE s1 (by omega) ((signAt_bad h5).symm.trans hb)
          rw [atomF_br (sign_ex h1) (by rw [he]; exact sign_ex h5), he]
    · have := tE st
      rcases h1 : signAt (str1 44) (exprF ev n st).2 with _ | ⟨p, s2⟩
      · rcases h2 : signAt (str1 41) (exprF ev n st).2 with _ | ⟨p, s2⟩
        · rw [callL_bad h1 h2] at hb
          exact fail_absurd hb
        · rw [callL_end h1 h2] at hb ⊢
          have he := hE st (by omega) ((signAt_bad h2).symm.trans hb)
          have hne : (exprF ev n st).2.ts ≠ [] := by
            intro e
            have h9 := signAt_len h2
            rw [e] at h9
            exact absurd h9 (by simp)
          rw [callL_end (by rw [he]; exact sign_ex_no h1 (.inl hne)) (by rw [he]; exact sign_ex h2), he, mp_mk, mpM_app]
          rfl
      · have h6 := signAt_len h1
        rw [callL_comma h1] at hb ⊢
        have he := hE st (by omega) (ok_of (fun e => bC _ _ _ ((signAt_bad h1).trans e)) hb)
        rw [callL_comma (by rw [he]; exact sign_ex h1), he]
        have hh := hC t _ s2 (by omega) hb
        rw [mpM_app] at hh
        exact hh
end
section
open Go.RowKit Go.Proofs.YtfgfoofojofnmaaDoorW.PrintWords Go.Proofs.YtfgfoofojofnmaaDoorW.PrintLast Go.Proofs.YtfgfoofojofnmaaDoorW.PrintMore
open Go.Proofs.YtfgfoofojofnmaaDoor.Hand
set_option linter.unusedVariables false
set_option linter.unusedSimpArgs false
theorem head_chr (p : UInt8 → Bool) {d : UInt8} (h32 : p d = false) (m : List UInt8) : ∀ l : List UInt8, headN p (l ++ d :: m) = headN p l ∧ (l ++ d :: m).take (headN p l) = l.take (headN p l)
  | [] => by simp [headN, h32]
  | c :: l => by
    obtain ⟨h1, h2⟩ := head_chr p h32 m l
    by_cases hc : p c = true
    · have e : headN p (c :: l) = headN p l + 1 := by simp [headN, hc]
      have e2 : headN p (c :: l ++ d :: m) = headN p (l ++ d :: m) + 1 := by simp [headN, hc]
      rw [e, e2, h1, List.cons_append, List.take_succ_cons, List.take_succ_cons, h2]
      exact ⟨rfl, rfl⟩
    · have e : headN p (c :: l) = 0 := by simp [headN, hc]
      have e2 : headN p (c :: l ++ d :: m) = 0 := by simp [headN, hc]
      rw [e, e2]
      simp
theorem one_chr {d : UInt8} (hd : nameB d = false) (c : UInt8) (r m : List UInt8) (t : Tk) (h : oneL c r = some t) (hn : t.2.2.2.2.2 ≠ 0) : oneL c (r ++ d :: m) = some t := by
  have N : ∀ {P : Prop}, some zeroT = some t → P := fun e => absurd (by rw [← Option.some.inj e]; rfl) hn
  unfold oneL at h ⊢
  have hN := head_chr nameB hd m (c :: r)
  have hD := head_chr digitB (by simp only [nameB, Bool.or_eq_false_iff] at hd; exact hd.1.2) m (c :: r)
  rw [List.cons_append] at hN hD
  by_cases h1 : smallB c = true
  · rw [if_pos h1] at h ⊢
    rw [hN.1, hN.2]
    exact h
  · rw [if_neg h1] at h ⊢
    by_cases h2 : digitB c = true
    · rw [if_pos h2] at h ⊢
      rw [hD.1, hD.2]
      exact h
    · rw [if_neg h2] at h ⊢
      by_cases h3 : c = 39
      · rw [if_pos h3] at h ⊢
        by_cases h4 : 0 ≤ Lib.indexByte r 39
        · rw [if_pos h4] at h
          rw [idx_more _ _ _ h4, if_pos h4]
          have := idx_lt r 39 h4
          rw [List.take_append_of_le_length (by omega)]
          exact h
        · rw [if_neg h4] at h
          exact N h
      · rw [if_neg h3] at h ⊢
        by_cases h4 : c = 35 ∧ 16 < r.length + 1
        · rw [if_pos h4] at h
          rw [if_pos ⟨h4.1, by simp; omega⟩, List.take_append_of_le_length (by omega)]
          exact h
        · rw [if_neg h4] at h
          by_cases h35 : c = 35
          · rw [if_neg (by rw [h35]; simp), if_neg (by rw [h35]; exact (by decide : ¬ signB 35 = true))] at h
            exact N h
          · rw [if_neg (fun e => h35 e.1)]
            by_cases h5 : (c :: r).take 2 = [46, 46] ∨ (c :: r).take 2 = [58, 58]
            · have h2 : 2 ≤ (c :: r).length := by
                rcases h5 with h | h
                · have := congrArg List.length h; simp at this ⊢; omega
                · have := congrArg List.length h; simp at this ⊢; omega
              rw [if_pos h5] at h
              have e : (c :: (r ++ d :: m)).take 2 = (c :: r).take 2 := by
                rw [← List.cons_append]; exact List.take_append_of_le_length h2
              rw [e, if_pos h5]
              exact h
            · rw [if_neg h5] at h
              by_cases h6 : signB c = true
              · rw [if_pos h6] at h
                have h7 : ¬ ((c :: (r ++ d :: m)).take 2 = [46, 46] ∨ (c :: (r ++ d :: m)).take 2 = [58, 58]) := by
                  intro e
                  rcases e with e | e
                  · have : c = 46 := by simpa using congrArg List.head? e
                    rw [this] at h6
                    exact absurd h6 (by decide)
                  · have : c = 58 := by simpa using congrArg List.head? e
                    rw [this] at h6
                    exact absurd h6 (by decide)
                rw [if_neg h7, if_pos h6]
                exact h
              · rw [if_neg h6] at h
                exact N h

theorem oneT_chr {d : UInt8} (hd : nameB d = false) (c : UInt8) (r m : List UInt8) (h : nOf (oneT c r) ≠ 0) : oneT c (r ++ d :: m) = oneT c r := by
  have h2 : (oneT c r).2.2.2.2.2 ≠ 0 := by have := nOf_eq c r; omega
  have := one_chr hd c r m (oneT c r) (oneT_eq c r) h2
  rw [oneT, this]; rfl

attribute [local irreducible] oneT nOf
theorem scanT_chr {d : UInt8} (hd : nameB d = false) (m : List UInt8) (n : Nat) : ∀ (l : List UInt8) (i : Nat) (out : List S39), l.length ≤ n → (scanT l i out).2.2 = 0 → scanT (l ++ d :: m) i out = scanT (d :: m) (i + l.length) (scanT l i out).1 := by
  induction n with
  | zero =>
    intro l i out hl _
    have : l = [] := List.length_eq_zero_iff.mp (by omega)
    subst this
    rw [List.nil_append, scanT_nil]
    rfl
  | succ n ih =>
    intro l i out hl h
    cases l with
    | nil =>
      rw [List.nil_append, scanT_nil]
      rfl
    | cons c r =>
      simp only [List.length_cons] at hl
      rw [List.cons_append]
      by_cases hb : c = 32 ∨ c = 9
      · rw [scanT_blank hb] at h ⊢
        rw [scanT_blank hb, ih r (i + 1) out (by omega) h]
        congr 1
        simp only [List.length_cons]; omega
      · by_cases h0 : nOf (oneT c r) = 0
        · rw [scanT_bad hb h0] at h
          exact absurd (show (30 : Int) = 0 from h) (by decide)
        · have e := oneT_chr hd c r m h0
          have hq := nOf_le c r
          rw [scanT_tok hb h0] at h ⊢
          rw [scanT_tok hb (by rw [e]; exact h0), e]
          have ed : (c :: (r ++ d :: m)).drop (nOf (oneT c r)) = (c :: r).drop (nOf (oneT c r)) ++ d :: m := by
            rw [← List.cons_append, List.drop_append_of_le_length (by simp only [List.length_cons]; omega)]
          rw [ed, ih _ _ _ (by simp only [List.length_drop, List.length_cons]; omega) h]
          congr 1
          simp only [List.length_drop, List.length_cons]; omega
theorem scanT_at (n : Nat) : ∀ (l : List UInt8) (i : Nat) (out : List S39), l.length ≤ n → (scanT l i out).2.2 = 0 → (scanT l i out).2.1 = 0 := by
  induction n with
  | zero =>
    intro l i out hl _
    have : l = [] := List.length_eq_zero_iff.mp (by omega)
    subst this
    rw [scanT_nil]
  | succ n ih =>
    intro l i out hl h
    cases l with
    | nil => rw [scanT_nil]
    | cons c r =>
      simp only [List.length_cons] at hl
      by_cases hb : c = 32 ∨ c = 9
      · rw [scanT_blank hb] at h ⊢
        exact ih r _ _ (by omega) h
      · by_cases h0 : nOf (oneT c r) = 0
        · rw [scanT_bad hb h0] at h
          exact absurd (show (30 : Int) = 0 from h) (by decide)
        · rw [scanT_tok hb h0] at h ⊢
          exact ih _ _ _ (by simp only [List.length_drop, List.length_cons]; omega) h
def shT (d : Nat) (t : S39) : S39 := ⟨t.f0, t.f1, t.f2, t.f3, t.f4 + d⟩
theorem scanT_mv (d : Nat) (pre : List S39) (n : Nat) : ∀ (l : List UInt8) (i : Nat) (out : List S39), l.length ≤ n → (scanT l i out).2.2 = 0 → scanT l (i + d) (pre ++ out.map (shT d)) = (pre ++ (scanT l i out).1.map (shT d), 0, 0) := by
  induction n with
  | zero =>
    intro l i out hl _
    have : l = [] := List.length_eq_zero_iff.mp (by omega)
    subst this
    rw [scanT_nil, scanT_nil]
  | succ n ih =>
    intro l i out hl h
    cases l with
    | nil => rw [scanT_nil, scanT_nil]
    | cons c r =>
      simp only [List.length_cons] at hl
      by_cases hb : c = 32 ∨ c = 9
      · rw [scanT_blank hb] at h ⊢
        rw [scanT_blank hb, ← ih r _ _ (by omega) h]
        congr 1
        omega
      · by_cases h0 : nOf (oneT c r) = 0
        · rw [scanT_bad hb h0] at h
          exact absurd (show (30 : Int) = 0 from h) (by decide)
        · rw [scanT_tok hb h0] at h ⊢
          rw [scanT_tok hb h0, ← ih _ _ _ (by simp only [List.length_drop, List.length_cons]; omega) h]
          have e1 : i + d + nOf (oneT c r) = i + nOf (oneT c r) + d := by omega
          have e2 : pre ++ out.map (shT d) ++ [tokOf (oneT c r) (i + d)] = pre ++ (out ++ [tokOf (oneT c r) i]).map (shT d) := by
            simp [shT, tokOf]
          rw [e1, e2]
end
section
open Go.RowKit Go.Proofs.YtfgfoofojofnmaaDoorW.PrintWords Go.Proofs.YtfgfoofojofnmaaDoorW.PrintLast Go.Proofs.YtfgfoofojofnmaaDoorW.PrintMore
set_option linter.unusedVariables false
set_option linter.unusedSimpArgs false
open Go.Proofs.YtfgfoofojofnmaaDoor.Hand
/-- A sign's token. -/
def sT (l : List UInt8) (p : Nat) : S39 := ⟨5, bs l, 0, 0, (p : Int)⟩
theorem sign_hit (s : ByteArray) (l : List UInt8) (p : Nat) (r : List S39) (b : Bool) (q : Int) (h : (bs l).toList = s.toList) : signAt s ⟨sT l p :: r, b, q⟩ = some ((p : Int), ⟨r, b, q⟩) := by
  simp only [signAt]
  exact if_pos (show ((5 : Int) == 5 && (bs l).toList == s.toList) = true by rw [h]; simp)
theorem sign_miss (s : ByteArray) (l : List UInt8) (p : Nat) (r : List S39) (b : Bool) (q : Int) (h : (bs l).toList ≠ s.toList) : signAt s ⟨sT l p :: r, b, q⟩ = none := by
  simp only [signAt]
  exact if_neg (show ¬ ((5 : Int) == 5 && (bs l).toList == s.toList) = true by simp [h])
theorem str1_list (a : UInt8) : (str1 a).toList = [a] := by rw [ByteArray.toList_eq]
theorem str2_list (a b : UInt8) : (str2 a b).toList = [a, b] := by rw [ByteArray.toList_eq]
theorem stop_close (p : Nat) (R : List S39) : Stop (sT [41] p :: R) := by
  refine ⟨fun s hs b q => ?_, fun t r e => ?_⟩
  · apply sign_miss
    rw [bs_toList]
    rcases hs with rfl | rfl | rfl | rfl | rfl | rfl | rfl
    all_goals first | (rw [str1_list]; decide) | (rw [str2_list]; decide)
  · injection e with e1 e2
    rw [← e1]
    show (5 : Int) ≠ 2
    decide
/-- The tokens A are read whole, to n. -/
def Reads (A : List S39) (n : S44) : Prop := ∃ ev b, exprF ev (6 * A.length + 6) ⟨A, false, 0⟩ = (n, ⟨[], false, b⟩)
theorem read_ext {A : List S39} {n : S44} (h : Reads A n) (ev : Int) (g : Int → Int) (q : Int) (p : Nat) (R : List S39) (k : Nat) (hk : 6 * A.length + 6 ≤ k) :
    exprF ev k ⟨A.map (tkG g) ++ sT [41] p :: R, false, q⟩ = (mp g n, ⟨sT [41] p :: R, false, q⟩) := by
  obtain ⟨ev0, b, h⟩ := h
  obtain ⟨d, rfl⟩ : ∃ d, k = 6 * A.length + 6 + d := ⟨k - (6 * A.length + 6), by omega⟩
  have h1 := expr_more ev0 ⟨A, false, 0⟩ (6 * A.length + 6) (Nat.le_refl _) d
  rw [h] at h1
  have h2 := (ext_all ev0 ev g (sT [41] p :: R) q (stop_close p R) (6 * A.length + 6 + d)).1 ⟨A, false, 0⟩ (by show 6 * A.length + 6 ≤ _; omega) (by rw [h1])
  rw [h1] at h2
  exact h2
section
variable {A : List S39} {n : S44} (h : Reads A n) (ev : Int) (g : Int → Int) (q : Int) (p0 p : Nat) (R : List S39)
include h
theorem br_atom (k : Nat) (hk : 6 * A.length + 6 ≤ k) : atomF ev (k + 1) ⟨sT [40] p0 :: (A.map (tkG g) ++ sT [41] p :: R), false, q⟩ = (mp g n, ⟨R, false, q⟩) := by
  have h1 := sign_hit (str1 40) [40] p0 (A.map (tkG g) ++ sT [41] p :: R) false q (by rw [bs_toList, str1_list])
  have h2 := read_ext h ev g q p R k hk
  rw [atomF_br h1 (by rw [h2]; exact sign_hit (str1 41) [41] p R false q (by rw [bs_toList, str1_list])), h2]
theorem br_unary (k : Nat) (hk : 6 * A.length + 6 ≤ k) (hn : ∀ b q, signAt (str1 94) ⟨R, b, q⟩ = none) : unaryF ev (k + 2) ⟨sT [40] p0 :: (A.map (tkG g) ++ sT [41] p :: R), false, q⟩ = (mp g n, ⟨R, false, q⟩) := by
  rw [unaryF_atom (sign_miss _ _ _ _ _ _ (by rw [bs_toList, str1_list]; decide)), br_atom h ev g q p0 p R k hk, upL_none (hn _ _)]
theorem br_ranged (k : Nat) (hk : 6 * A.length + 6 ≤ k) (hn : ∀ b q, signAt (str1 94) ⟨R, b, q⟩ = none) (h2 : ∀ b q, signAt (str2 46 46) ⟨R, b, q⟩ = none) (h3 : ∀ b q, signAt (str2 58 58) ⟨R, b, q⟩ = none) :
    rangedF ev (k + 3) ⟨sT [40] p0 :: (A.map (tkG g) ++ sT [41] p :: R), false, q⟩ = (mp g n, ⟨R, false, q⟩) := by
  have hu := br_unary h ev g q p0 p R k hk hn
  rw [rangedF_none (by rw [hu]; exact h2 _ _) (by rw [hu]; exact h3 _ _), hu]
theorem br_inter (k : Nat) (hk : 6 * A.length + 6 ≤ k) (hn : ∀ b q, signAt (str1 94) ⟨R, b, q⟩ = none) (h2 : ∀ b q, signAt (str2 46 46) ⟨R, b, q⟩ = none) (h3 : ∀ b q, signAt (str2 58 58) ⟨R, b, q⟩ = none) (h4 : ∀ b q, signAt (str1 38) ⟨R, b, q⟩ = none) :
    interF ev (k + 4) ⟨sT [40] p0 :: (A.map (tkG g) ++ sT [41] p :: R), false, q⟩ = (mp g n, ⟨R, false, q⟩) := by
  show interL ev (k + 3) (rangedF ev (k + 3) _).1 (rangedF ev (k + 3) _).2 = _
  rw [br_ranged h ev g q p0 p R k hk hn h2 h3, interL_none (h4 _ _)]
end
/-- Two texts in brackets, a sign between. -/
theorem two_read {A B : List S39} {n m : S44} (hA : Reads A n) (hB : Reads B m) (ev : Int) (g1 g2 : Int → Int) (q : Int) (p0 p1 ps p2 p3 : Nat) (s : List UInt8) (op : Int) (k : Nat) (hkA : 6 * A.length + 6 ≤ k) (hkB : 6 * B.length + 6 ≤ k)
    (hs : (s = [124] ∧ op = 6) ∨ (s = [45] ∧ op = 7) ∨ (s = [38] ∧ op = 8) ∨ (s = [46, 46] ∧ op = 9) ∨ (s = [58, 58] ∧ op = 10)) :
    exprF ev (k + 7) ⟨sT [40] p0 :: (A.map (tkG g1) ++ sT [41] p1 :: (sT s ps :: (sT [40] p2 :: (B.map (tkG g2) ++ sT [41] p3 :: [])))), false, q⟩ = (nd op [mp g1 n, mp g2 m] ps, ⟨[], false, q⟩) := by
  have miss : ∀ (t : ByteArray) (l : List UInt8) (r : List S39), (bs l).toList ≠ t.toList → ∀ b q', signAt t ⟨sT l ps :: r, b, q'⟩ = none := fun t l r h b q' => sign_miss t l ps r b q' h
  have b1 : ∀ (a c : UInt8), (bs [a]).toList ≠ (str1 c).toList ∨ a = c := by
    intro a c
    rw [bs_toList, str1_list]
    by_cases h : a = c
    · exact .inr h
    · exact .inl (by simpa using h)
  show exprL ev (k + 6) (interF ev (k + 6) _).1 (interF ev (k + 6) _).2 = _
  rcases hs with ⟨rfl, rfl⟩ | ⟨rfl, rfl⟩ | ⟨rfl, rfl⟩ | ⟨rfl, rfl⟩ | ⟨rfl, rfl⟩
  · rw [br_inter hA ev g1 q p0 p1 _ (k + 2) (by omega) (miss _ _ _ (by rw [bs_toList, str1_list]; decide)) (miss _ _ _ (by rw [bs_toList, str2_list]; decide)) (miss _ _ _ (by rw [bs_toList, str2_list]; decide)) (miss _ _ _ (by rw [bs_toList, str1_list]; decide))]
    rw [exprL_or (sign_hit _ _ _ _ _ _ (by rw [bs_toList, str1_list])), br_inter hB ev g2 q p2 p3 [] (k + 1) (by omega) (fun _ _ => rfl) (fun _ _ => rfl) (fun _ _ => rfl) (fun _ _ => rfl), exprL_none rfl rfl]
  · rw [br_inter hA ev g1 q p0 p1 _ (k + 2) (by omega) (miss _ _ _ (by rw [bs_toList, str1_list]; decide)) (miss _ _ _ (by rw [bs_toList, str2_list]; decide)) (miss _ _ _ (by rw [bs_toList, str2_list]; decide)) (miss _ _ _ (by rw [bs_toList, str1_list]; decide))]
    rw [exprL_minus (miss _ _ _ (by rw [bs_toList, str1_list]; decide) _ _) (sign_hit _ _ _ _ _ _ (by rw [bs_toList, str1_list])), br_inter hB ev g2 q p2 p3 [] (k + 1) (by omega) (fun _ _ => rfl) (fun _ _ => rfl) (fun _ _ => rfl) (fun _ _ => rfl), exprL_none rfl rfl]
  · have hi : interF ev (k + 6) ⟨sT [40] p0 :: (A.map (tkG g1) ++ sT [41] p1 :: (sT [38] ps :: (sT [40] p2 :: (B.map (tkG g2) ++ sT [41] p3 :: [])))), false, q⟩ = (nd 8 [mp g1 n, mp g2 m] ps, ⟨[], false, q⟩) := by
      show interL ev (k + 5) (rangedF ev (k + 5) _).1 (rangedF ev (k + 5) _).2 = _
      rw [br_ranged hA ev g1 q p0 p1 _ (k + 2) (by omega) (miss _ _ _ (by rw [bs_toList, str1_list]; decide)) (miss _ _ _ (by rw [bs_toList, str2_list]; decide)) (miss _ _ _ (by rw [bs_toList, str2_list]; decide))]
      rw [interL_some (sign_hit _ _ _ _ _ _ (by rw [bs_toList, str1_list])), br_ranged hB ev g2 q p2 p3 [] (k + 1) (by omega) (fun _ _ => rfl) (fun _ _ => rfl) (fun _ _ => rfl), interL_none rfl]
    rw [hi, exprL_none rfl rfl]
  · have hr : rangedF ev (k + 5) ⟨sT [40] p0 :: (A.map (tkG g1) ++ sT [41] p1 :: (sT [46, 46] ps :: (sT [40] p2 :: (B.map (tkG g2) ++ sT [41] p3 :: [])))), false, q⟩ = (nd 9 [mp g1 n, mp g2 m] ps, ⟨[], false, q⟩) := by
      have hu := br_unary hA ev g1 q p0 p1 (sT [46, 46] ps :: (sT [40] p2 :: (B.map (tkG g2) ++ sT [41] p3 :: []))) (k + 2) (by omega) (miss _ _ _ (by rw [bs_toList, str1_list]; decide))
      have hu2 := br_unary hB ev g2 q p2 p3 [] (k + 2) (by omega) (fun _ _ => rfl)
      rw [rangedF_dots (by rw [hu]; exact sign_hit _ _ _ _ _ _ (by rw [bs_toList, str2_list])), hu, hu2]
    have hi : interF ev (k + 6) ⟨sT [40] p0 :: (A.map (tkG g1) ++ sT [41] p1 :: (sT [46, 46] ps :: (sT [40] p2 :: (B.map (tkG g2) ++ sT [41] p3 :: [])))), false, q⟩ = (nd 9 [mp g1 n, mp g2 m] ps, ⟨[], false, q⟩) := by
      show interL ev (k + 5) (rangedF ev (k + 5) _).1 (rangedF ev (k + 5) _).2 = _
      rw [hr, interL_none rfl]
    rw [hi, exprL_none rfl rfl]
  · have hr : rangedF ev (k + 5) ⟨sT [40] p0 :: (A.map (tkG g1) ++ sT [41] p1 :: (sT [58, 58] ps :: (sT [40] p2 :: (B.map (tkG g2) ++ sT [41] p3 :: [])))), false, q⟩ = (nd 10 [mp g1 n, mp g2 m] ps, ⟨[], false, q⟩) := by
      have hu := br_unary hA ev g1 q p0 p1 (sT [58, 58] ps :: (sT [40] p2 :: (B.map (tkG g2) ++ sT [41] p3 :: []))) (k + 2) (by omega) (miss _ _ _ (by rw [bs_toList, str1_list]; decide))
      have hu2 := br_unary hB ev g2 q p2 p3 [] (k + 2) (by omega) (fun _ _ => rfl)
      rw [rangedF_colons (by rw [hu]; exact miss _ _ _ (by rw [bs_toList, str2_list]; decide) _ _) (by rw [hu]; exact sign_hit _ _ _ _ _ _ (by rw [bs_toList, str2_list])), hu, hu2]
    have hi : interF ev (k + 6) ⟨sT [40] p0 :: (A.map (tkG g1) ++ sT [41] p1 :: (sT [58, 58] ps :: (sT [40] p2 :: (B.map (tkG g2) ++ sT [41] p3 :: [])))), false, q⟩ = (nd 10 [mp g1 n, mp g2 m] ps, ⟨[], false, q⟩) := by
      show interL ev (k + 5) (rangedF ev (k + 5) _).1 (rangedF ev (k + 5) _).2 = _
      rw [hr, interL_none rfl]
    rw [hi, exprL_none rfl rfl]
theorem shT_tk (d : Nat) : shT d = tkG (fun x => x + (d : Int)) := rfl
theorem oneT_sign (c : UInt8) (r : List UInt8) (h1 : smallB c = false) (h2 : digitB c = false) (h3 : c ≠ 39) (h4 : c ≠ 35) (h5 : c ≠ 46) (h6 : c ≠ 58) (h7 : signB c = true) : oneT c r = (5, bs [c], 0, 0, 0, 1) := by
  have : oneL c r = some (5, bs [c], 0, 0, 0, 1) := by
    unfold oneL
    rw [if_neg (by rw [h1]; decide), if_neg (by rw [h2]; decide), if_neg h3, if_neg (fun e => h4 e.1), if_neg, if_pos h7]
    intro e
    rcases e with e | e
    · exact h5 (by simpa using congrArg List.head? e)
    · exact h6 (by simpa using congrArg List.head? e)
  rw [oneT, this]; rfl
theorem oneT_dots (c : UInt8) (r : List UInt8) (h : c = 46 ∨ c = 58) : oneT c (c :: r) = (5, bs [c, c], 0, 0, 0, 2) := by
  have : oneL c (c :: r) = some (5, bs [c, c], 0, 0, 0, 2) := by
    unfold oneL
    rcases h with rfl | rfl
    · rw [if_neg (by decide), if_neg (by decide), if_neg (by decide), if_neg (by simp), if_pos (.inl rfl)]; rfl
    · rw [if_neg (by decide), if_neg (by decide), if_neg (by decide), if_neg (by simp), if_pos (.inr rfl)]; rfl
  rw [oneT, this]; rfl
theorem scan_sign (c : UInt8) (r : List UInt8) (i : Nat) (out : List S39) (hb : ¬ (c = 32 ∨ c = 9)) (h : oneT c r = (5, bs [c], 0, 0, 0, 1)) : scanT (c :: r) i out = scanT r (i + 1) (out ++ [sT [c] i]) := by
  have hn : nOf (oneT c r) = 1 := by rw [h]; rfl
  rw [scanT_tok hb (by rw [hn]; decide), hn, h]
  rfl
theorem scan_dots (c : UInt8) (r : List UInt8) (i : Nat) (out : List S39) (hc : c = 46 ∨ c = 58) : scanT (c :: c :: r) i out = scanT r (i + 2) (out ++ [sT [c, c] i]) := by
  have h := oneT_dots c r hc
  have hn : nOf (oneT c (c :: r)) = 2 := by rw [h]; rfl
  rw [scanT_tok (by rcases hc with rfl | rfl <;> decide) (by rw [hn]; decide), hn, h]
  rfl
theorem scan_op (s : List UInt8) (r : List UInt8) (i : Nat) (out : List S39) (hs : s = [124] ∨ s = [45] ∨ s = [38] ∨ s = [46, 46] ∨ s = [58, 58]) : scanT (s ++ r) i out = scanT r (i + s.length) (out ++ [sT s i]) := by
  rcases hs with rfl | rfl | rfl | rfl | rfl
  · exact scan_sign 124 r i out (by decide) (oneT_sign _ _ (by decide) (by decide) (by decide) (by decide) (by decide) (by decide) (by decide))
  · exact scan_sign 45 r i out (by decide) (oneT_sign _ _ (by decide) (by decide) (by decide) (by decide) (by decide) (by decide) (by decide))
  · exact scan_sign 38 r i out (by decide) (oneT_sign _ _ (by decide) (by decide) (by decide) (by decide) (by decide) (by decide) (by decide))
  · exact scan_dots 46 r i out (.inl rfl)
  · exact scan_dots 58 r i out (.inr rfl)
theorem scan_open (r : List UInt8) (i : Nat) (out : List S39) : scanT (40 :: r) i out = scanT r (i + 1) (out ++ [sT [40] i]) := scan_sign 40 r i out (by decide) (oneT_sign _ _ (by decide) (by decide) (by decide) (by decide) (by decide) (by decide) (by decide))
theorem scan_close (r : List UInt8) (i : Nat) (out : List S39) : scanT (41 :: r) i out = scanT r (i + 1) (out ++ [sT [41] i]) := scan_sign 41 r i out (by decide) (oneT_sign _ _ (by decide) (by decide) (by decide) (by decide) (by decide) (by decide) (by decide))
/-- A whole text ahead of a byte that no name goes on with. -/
theorem scan_part {l : List UInt8} {A : List S39} (h : scanT l 0 [] = (A, 0, 0)) {d : UInt8} (hd : nameB d = false) (m : List UInt8) (i : Nat) (out : List S39) : scanT (l ++ d :: m) i out = scanT (d :: m) (i + l.length) (out ++ A.map (tkG (fun x => x + (i : Int)))) := by
  have h1 := scanT_mv i out l.length l 0 [] (Nat.le_refl _) (by rw [h])
  simp only [Nat.zero_add, List.map_nil, List.append_nil] at h1
  rw [scanT_chr hd m l.length l i out (Nat.le_refl _) (by rw [h1]), h1, h, shT_tk]
theorem scan_two {la lb : List UInt8} {A B : List S39} (hA : scanT la 0 [] = (A, 0, 0)) (hB : scanT lb 0 [] = (B, 0, 0)) (s : List UInt8) (hs : s = [124] ∨ s = [45] ∨ s = [38] ∨ s = [46, 46] ∨ s = [58, 58]) :
    scanT (40 :: (la ++ 41 :: (s ++ 40 :: (lb ++ 41 :: [])))) 0 [] = (sT [40] 0 :: (A.map (tkG (fun x => x + ((0 + 1 : Nat) : Int))) ++ sT [41] (0 + 1 + la.length) :: (sT s (0 + 1 + la.length + 1) :: (sT [40] (0 + 1 + la.length + 1 + s.length) :: (B.map (tkG (fun x => x + ((0 + 1 + la.length + 1 + s.length + 1 : Nat) : Int))) ++ sT [41] (0 + 1 + la.length + 1 + s.length + 1 + lb.length) :: [])))), 0, 0) := by
  rw [scan_open, scan_part hA (by decide), scan_close, scan_op s _ _ _ hs, scan_open, scan_part hB (by decide), scan_close, scanT_nil]
  simp
theorem parse_ok (a : ByteArray) (h : (parseT a).2.2 = 0) : a.size ≤ 1024 ∧ ∃ A, scanT a.data.toList 0 [] = (A, 0, 0) ∧ Reads A (parseT a).1 ∧ (parseT a).2.1 = 0 ∧ depthT (parseT a).1 ≤ 24 := by
  unfold parseT at h ⊢
  by_cases hc : (scanS a).2.2 = 0
  · rw [if_pos hc] at h ⊢
    by_cases hb : (endS (a.size : Int) (readS a).2).bad = true
    · rw [if_pos hb] at h; exact absurd (show (31 : Int) = 0 from h) (by decide)
    · rw [if_neg hb] at h ⊢
      by_cases hd : 24 < depthT (readS a).1
      · rw [if_pos hd] at h; exact absurd (show (32 : Int) = 0 from h) (by decide)
      · rw [if_neg hd]
        have hsz : a.size ≤ 1024 := by
          by_cases hz : a.size ≤ 1024
          · exact hz
          · unfold scanS at hc; rw [if_neg hz] at hc; exact absurd hc (by decide)
        have he : scanS a = scanT a.data.toList 0 [] := by unfold scanS; rw [if_pos hsz]
        rw [he] at hc
        have hp := scanT_at a.data.toList.length a.data.toList 0 [] (Nat.le_refl _) hc
        have hend : (readS a).2.ts.length = 0 ∧ (readS a).2.bad = false := by
          unfold endS at hb
          by_cases hz : (readS a).2.ts.length = 0
          · rw [if_pos hz] at hb; exact ⟨hz, by simpa using hb⟩
          · rw [if_neg hz, failS_bad] at hb; exact absurd rfl hb
        refine ⟨hsz, (scanT a.data.toList 0 []).1, Prod.ext rfl (Prod.ext hp hc), ⟨(a.size : Int), (readS a).2.pos, ?_⟩, rfl, by show depthT (readS a).1 ≤ 24; omega⟩
        have hr : readS a = exprF (a.size : Int) (6 * (scanS a).1.length + 6) ⟨(scanS a).1, false, 0⟩ := rfl
        rw [he] at hr
        rw [← hr]
        have h0 := List.eq_nil_of_length_eq_zero hend.1
        generalize readS a = r at *
        obtain ⟨x, ts, bad, pos⟩ := r
        simp only at h0 hend
        rw [h0, hend.2]
  · rw [if_neg hc] at h
    exact absurd h hc
end
section
open Go.RowKit Go.Proofs.YtfgfoofojofnmaaDoorW.PrintWords Go.Proofs.YtfgfoofojofnmaaDoorW.PrintLast Go.Proofs.YtfgfoofojofnmaaDoorW.PrintMore
set_option linter.unusedVariables false
set_option linter.unusedSimpArgs false
open Go.Proofs.YtfgfoofojofnmaaDoor.Hand
theorem depthT_mp (g : Int → Int) : (∀ n x, wt x ≤ n → depthT (mp g x) = depthT x) := by
  intro n
  induction n with
  | zero => exact fun x h => absurd (wt_pos x) (by omega)
  | succ n ih =>
    intro x hx
    obtain ⟨a, b, c, d, ks, e⟩ := x
    rw [wt_mk] at hx
    rw [mp_mk, depthT_mk, depthT_mk]
    have : ∀ ks : List S44, wtM ks ≤ n → depthM (mpM g ks) = depthM ks := by
      intro ks
      induction ks with
      | nil => intro _; rw [mpM_nil]
      | cons k ks ihk =>
        intro h
        rw [wtM_cons] at h
        rw [mpM_cons, depthM_cons, depthM_cons, ih k (by omega), ihk (by omega)]
    rw [this ks (by omega)]
theorem depth_mp (g : Int → Int) (x : S44) : depthT (mp g x) = depthT x := depthT_mp g (wt x) x (Nat.le_refl _)
theorem read_br {A : List S39} {n : S44} (h : Reads A n) (ev : Int) (g : Int → Int) (q : Int) (p0 p : Nat) (k : Nat) (hk : 6 * A.length + 12 ≤ k) : exprF ev k ⟨sT [40] p0 :: (A.map (tkG g) ++ sT [41] p :: []), false, q⟩ = (mp g n, ⟨[], false, q⟩) := by
  obtain ⟨k, rfl⟩ : ∃ k1, k = k1 + 5 := ⟨k - 5, by omega⟩
  show exprL ev (k + 4) (interF ev (k + 4) _).1 (interF ev (k + 4) _).2 = _
  rw [br_inter h ev g q p0 p [] k (by omega) (fun _ _ => rfl) (fun _ _ => rfl) (fun _ _ => rfl) (fun _ _ => rfl), exprL_none rfl rfl]
theorem unary_reads {ev : Int} {k : Nat} {B : List S39} {y : S44} {q : Int} (h : unaryF ev k ⟨B, false, q⟩ = (y, ⟨[], false, q⟩)) : exprF ev (k + 3) ⟨B, false, q⟩ = (y, ⟨[], false, q⟩) := by
  have hr : rangedF ev (k + 1) ⟨B, false, q⟩ = (y, ⟨[], false, q⟩) := by rw [rangedF_none (by rw [h]; rfl) (by rw [h]; rfl), h]
  have hi : interF ev (k + 2) ⟨B, false, q⟩ = (y, ⟨[], false, q⟩) := by
    show interL ev (k + 1) (rangedF ev (k + 1) _).1 (rangedF ev (k + 1) _).2 = _
    rw [hr, interL_none rfl]
  show exprL ev (k + 2) (interF ev (k + 2) _).1 (interF ev (k + 2) _).2 = _
  rw [hi, exprL_none rfl rfl]
end
section
open Go.RowKit Go.Proofs.YtfgfoofojofnmaaDoorW.PrintWords Go.Proofs.YtfgfoofojofnmaaDoorW.PrintLast Go.Proofs.YtfgfoofojofnmaaDoorW.PrintMore
set_option linter.unusedVariables false
set_option linter.unusedSimpArgs false
open Go.Proofs.YtfgfoofojofnmaaDoor.Hand
theorem stop_comma (p : Nat) (R : List S39) : Stop (sT [44] p :: R) := by
  refine ⟨fun s hs b q => ?_, fun t r e => ?_⟩
  · apply sign_miss
    rw [bs_toList]
    rcases hs with rfl | rfl | rfl | rfl | rfl | rfl | rfl
    all_goals first | (rw [str1_list]; decide) | (rw [str2_list]; decide)
  · injection e with e1 e2
    rw [← e1]
    show (5 : Int) ≠ 2
    decide
theorem read_stop {A : List S39} {n : S44} (h : Reads A n) (ev : Int) (g : Int → Int) (q : Int) (rest : List S39) (hs : Stop rest) (k : Nat) (hk : 6 * A.length + 6 ≤ k) :
    exprF ev k ⟨A.map (tkG g) ++ rest, false, q⟩ = (mp g n, ⟨rest, false, q⟩) := by
  obtain ⟨ev0, b, h⟩ := h
  obtain ⟨d, rfl⟩ : ∃ d, k = 6 * A.length + 6 + d := ⟨k - (6 * A.length + 6), by omega⟩
  have h1 := expr_more ev0 ⟨A, false, 0⟩ (6 * A.length + 6) (Nat.le_refl _) d
  rw [h] at h1
  have h2 := (ext_all ev0 ev g rest q hs (6 * A.length + 6 + d)).1 ⟨A, false, 0⟩ (by show 6 * A.length + 6 ≤ _; omega) (by rw [h1])
  rw [h1] at h2
  exact h2
/-- What is read whole doesn't begin with a ')'. -/
theorem reads_first {A : List S39} {n : S44} (h : Reads A n) (g : Int → Int) (R : List S39) (b : Bool) (q : Int) (hA : A = [] → signAt (str1 41) ⟨R, b, q⟩ = none) : signAt (str1 41) ⟨A.map (tkG g) ++ R, b, q⟩ = none := by
  cases A with
  | nil => exact hA rfl
  | cons t r =>
    by_cases ht : ((t.f0 == 5) && (t.f1.toList == (str1 41).toList)) = true
    · exfalso
      rw [Bool.and_eq_true] at ht
      have h5 : t.f0 = 5 := beq_iff_eq.1 ht.1
      have h41 : t.f1.toList = (str1 41).toList := beq_iff_eq.1 ht.2
      obtain ⟨ev, b, h⟩ := h
      have no : ∀ c : UInt8, c ≠ 41 → signAt (str1 c) ⟨t :: r, false, 0⟩ = none := by
        intro c hc
        simp only [signAt]
        apply if_neg
        rw [h41, str1_list, str1_list, h5]
        simp [Ne.symm hc]
      have ha : ∀ k, atomF ev (k + 1) ⟨t :: r, false, 0⟩ = (z44, failS ev ⟨t :: r, false, 0⟩) := fun k => atomF_sign (no 40 (by decide)) h5
      have hb : ∀ k, (unaryF ev (k + 2) ⟨t :: r, false, 0⟩).2.bad = true := fun k => by
        rw [unaryF_atom (no 33 (by decide)), ha]
        exact (bad_all ev (k + 1)).2.2.2.2.2.2.1 _ _ (failS_bad _ _)
      have hu : ∀ k, unaryF ev (k + 2) ⟨t :: r, false, 0⟩ = (z44, failS ev ⟨t :: r, false, 0⟩) := fun k => by
        rw [unaryF_atom (no 33 (by decide)), ha, upL_none (by simp [failS, signAt])]
      have hr : ∀ k, (rangedF ev (k + 3) ⟨t :: r, false, 0⟩).2.bad = true := fun k => by
        rw [rangedF_none (by rw [hu]; simp [failS, signAt]) (by rw [hu]; simp [failS, signAt])]
        exact hb k
      have hi : ∀ k, (interF ev (k + 4) ⟨t :: r, false, 0⟩).2.bad = true := fun k => (bad_all ev (k + 3)).2.2.2.1 _ _ (hr k)
      have he : ∀ k, (exprF ev (k + 5) ⟨t :: r, false, 0⟩).2.bad = true := fun k => (bad_all ev (k + 4)).2.1 _ _ (hi k)
      obtain ⟨k, hk⟩ : ∃ k, 6 * (t :: r).length + 6 = k + 5 := ⟨6 * (t :: r).length + 1, by omega⟩
      have := he k
      rw [← hk, h] at this
      exact absurd this Bool.false_ne_true
    · show (if ((tkG g t).f0 == 5 && (tkG g t).f1.toList == (str1 41).toList) = true then _ else none) = none
      exact if_neg ht
/-- What was read of tokens, is what the parser answers. -/
theorem parse_is {a : ByteArray} {A : List S39} {n : S44} (hsz : a.size ≤ 1024) (hA : scanT a.data.toList 0 [] = (A, 0, 0)) (hr : exprF (a.size : Int) (6 * A.length + 6) ⟨A, false, 0⟩ = (n, ⟨[], false, 0⟩)) (hd : depthT n ≤ 24) : parseT a = (n, 0, 0) := by
  have hsc : scanS a = (A, 0, 0) := by unfold scanS; rw [if_pos hsz, hA]
  have h : readS a = (n, ⟨[], false, 0⟩) := by unfold readS; rw [hsc]; exact hr
  unfold parseT
  rw [if_pos (by rw [hsc]), h, if_neg (by simp [endS]), if_neg (by show ¬ 24 < depthT n; omega)]
def oneB (a : ByteArray) : ByteArray := ((⟨#[32, 40, 32]⟩ : ByteArray) ++ a) ++ (⟨#[32, 41, 32]⟩ : ByteArray)
theorem one_ok {a : ByteArray} (ha : (parseT a).2.2 = 0) (hs : a.size ≤ 1000) : ∃ g : Int → Int, parseT (oneB a) = (mp g (parseT a).1, 0, 0) := by
  obtain ⟨_, A, hA, rA, _, hd⟩ := parse_ok a ha
  have hl : (oneB a).data.toList = 32 :: 40 :: 32 :: (a.data.toList ++ 32 :: 41 :: 32 :: []) := by simp [oneB]
  have hsc : scanT (oneB a).data.toList 0 [] = (sT [40] 1 :: (A.map (tkG (fun x => x + ((1 + 1 + 1 : Nat) : Int))) ++ sT [41] (1 + 1 + 1 + a.data.toList.length + 1) :: []), 0, 0) := by
    rw [hl, scanT_blank (.inl rfl), scan_open, scanT_blank (.inl rfl), scan_part hA (by decide), scanT_blank (.inl rfl), scan_close, scanT_blank (.inl rfl), scanT_nil]
    simp
  refine ⟨fun x => x + ((1 + 1 + 1 : Nat) : Int), parse_is ?_ hsc (read_br rA _ _ _ _ _ _ ?_) (by rw [depth_mp]; exact hd)⟩
  · simp only [oneB, ByteArray.size_append]; show 3 + a.size + 3 ≤ _; omega
  · simp only [List.length_cons, List.length_append, List.length_map, List.length_nil]; omega
def pairB (a b : ByteArray) (s : ByteArray) : ByteArray := ((((((⟨#[40]⟩ : ByteArray) ++ a) ++ (⟨#[41]⟩ : ByteArray)) ++ s) ++ (⟨#[40]⟩ : ByteArray)) ++ b) ++ (⟨#[41]⟩ : ByteArray)
theorem depth_nd2 (op p : Int) (a b : S44) : depthT (nd op [a, b] p) = max (depthT a) (depthT b) + 1 := by
  rw [depthT_is]; show depthM [a, b] + 1 = _; rw [depthM_cons, depthM_cons, depthM_nil]; omega
theorem pair_ok {a b s : ByteArray} {op : Int} (ha : (parseT a).2.2 = 0) (hb : (parseT b).2.2 = 0) (hsz : a.size + b.size ≤ 1000) (hda : depthT (parseT a).1 < 24) (hdb : depthT (parseT b).1 < 24) (hs : (s.data.toList = [124] ∧ op = 6) ∨ (s.data.toList = [45] ∧ op = 7) ∨ (s.data.toList = [38] ∧ op = 8) ∨ (s.data.toList = [46, 46] ∧ op = 9) ∨ (s.data.toList = [58, 58] ∧ op = 10)) :
    ∃ g1 g2 : Int → Int, parseT (pairB a b s) = (nd op [mp g1 (parseT a).1, mp g2 (parseT b).1] ((a.size + 2 : Nat) : Int), 0, 0) := by
  obtain ⟨_, A, hA, rA, _, _⟩ := parse_ok a ha
  obtain ⟨_, B, hB, rB, _, _⟩ := parse_ok b hb
  have hs1 : s.data.toList = [124] ∨ s.data.toList = [45] ∨ s.data.toList = [38] ∨ s.data.toList = [46, 46] ∨ s.data.toList = [58, 58] := by
    rcases hs with h | h | h | h | h
    · exact .inl h.1
    · exact .inr (.inl h.1)
    · exact .inr (.inr (.inl h.1))
    · exact .inr (.inr (.inr (.inl h.1)))
    · exact .inr (.inr (.inr (.inr h.1)))
  have hsl : s.size ≤ 2 := by
    have : s.size = s.data.toList.length := by rw [Array.length_toList]; rfl
    rw [this]
    rcases hs1 with h | h | h | h | h <;> rw [h] <;> decide
  have h2 := scan_two hA hB _ hs1
  have hl : (pairB a b s).data.toList = 40 :: (a.data.toList ++ 41 :: (s.data.toList ++ 40 :: (b.data.toList ++ 41 :: []))) := by simp [pairB]
  rw [← hl] at h2
  have hsz0 : a.data.toList.length = a.size := by simp
  have hz : 0 + 1 + a.data.toList.length + 1 = a.size + 2 := by omega
  refine ⟨(fun x => x + ((0 + 1 : Nat) : Int)), (fun x => x + ((0 + 1 + a.data.toList.length + 1 + s.data.toList.length + 1 : Nat) : Int)), parse_is ?_ h2 ?_ ?_⟩
  · simp only [pairB, ByteArray.size_append]; show 1 + a.size + 1 + s.size + 1 + b.size + 1 ≤ _; omega
  · have h3 := two_read rA rB ((pairB a b s).size : Int) (fun x => x + ((0 + 1 : Nat) : Int)) (fun x => x + ((0 + 1 + a.data.toList.length + 1 + s.data.toList.length + 1 : Nat) : Int)) 0 0 (0 + 1 + a.data.toList.length) (0 + 1 + a.data.toList.length + 1) (0 + 1 + a.data.toList.length + 1 + s.data.toList.length) (0 + 1 + a.data.toList.length + 1 + s.data.toList.length + 1 + b.data.toList.length) s.data.toList op (6 * (A.length + B.length) + 29) (by omega) (by omega) hs
    rw [show 6 * (sT [40] 0 :: (A.map (tkG (fun x => x + ((0 + 1 : Nat) : Int))) ++ sT [41] (0 + 1 + a.data.toList.length) :: (sT s.data.toList (0 + 1 + a.data.toList.length + 1) :: (sT [40] (0 + 1 + a.data.toList.length + 1 + s.data.toList.length) :: (B.map (tkG (fun x => x + ((0 + 1 + a.data.toList.length + 1 + s.data.toList.length + 1 : Nat) : Int))) ++ sT [41] (0 + 1 + a.data.toList.length + 1 + s.data.toList.length + 1 + b.data.toList.length) :: []))))).length + 6 = 6 * (A.length + B.length) + 29 + 7 by simp only [List.length_cons, List.length_append, List.length_map, List.length_nil]; omega]
    exact h3.trans (by rw [hz])
  · rw [depth_nd2, depth_mp, depth_mp]; omega
def callB (a b : ByteArray) : ByteArray := ((((⟨#[102, 40]⟩ : ByteArray) ++ a) ++ (⟨#[44]⟩ : ByteArray)) ++ b) ++ (⟨#[41]⟩ : ByteArray)
def tkF : S39 := ⟨1, bs [102], 0, 0, 0⟩
theorem scanF (r : List UInt8) : scanT (102 :: 40 :: r) 0 [] = scanT (40 :: r) 1 [tkF] := by
  have h : oneT 102 [] = (1, bs [102], 0, 0, 0, 1) := by decide +kernel
  have hn : nOf (oneT 102 []) = 1 := by rw [h]; rfl
  have h0 : scanT [102] 0 [] = ([tkF], 0, 0) := by
    rw [scanT_tok (by decide) (by rw [hn]; decide), hn, h]
    show scanT [] _ _ = _
    rw [scanT_nil]
    rfl
  have h1 := scanT_chr (d := 40) (by decide) r 1 [102] 0 [] (by decide) (by rw [h0])
  rw [h0] at h1
  exact h1
theorem scan_comma (r : List UInt8) (i : Nat) (out : List S39) : scanT (44 :: r) i out = scanT r (i + 1) (out ++ [sT [44] i]) := scan_sign 44 r i out (by decide) (oneT_sign _ _ (by decide) (by decide) (by decide) (by decide) (by decide) (by decide) (by decide))
theorem call_ok {a b : ByteArray} (ha : (parseT a).2.2 = 0) (hb : (parseT b).2.2 = 0) (hsz : a.size + b.size ≤ 1000) (hda : depthT (parseT a).1 < 24) (hdb : depthT (parseT b).1 < 24) :
    ∃ g1 g2 : Int → Int, parseT (callB a b) = (⟨5, bs [102], 0, 0, [mp g1 (parseT a).1, mp g2 (parseT b).1], 0⟩, 0, 0) := by
  obtain ⟨_, A, hA, rA, _, _⟩ := parse_ok a ha
  obtain ⟨_, B, hB, rB, _, _⟩ := parse_ok b hb
  have hl : (callB a b).data.toList = 102 :: 40 :: (a.data.toList ++ 44 :: (b.data.toList ++ 41 :: [])) := by simp [callB]
  have hsc : scanT (callB a b).data.toList 0 [] = (tkF :: (sT [40] 1 :: (A.map (tkG (fun x => x + ((1 + 1 : Nat) : Int))) ++ sT [44] (1 + 1 + a.data.toList.length) :: (B.map (tkG (fun x => x + ((1 + 1 + a.data.toList.length + 1 : Nat) : Int))) ++ sT [41] (1 + 1 + a.data.toList.length + 1 + b.data.toList.length) :: []))), 0, 0) := by
    rw [hl, scanF, scan_open, scan_part hA (by decide), scan_comma, scan_part hB (by decide), scan_close, scanT_nil]
    simp
  refine ⟨(fun x => x + ((1 + 1 : Nat) : Int)), (fun x => x + ((1 + 1 + a.data.toList.length + 1 : Nat) : Int)), parse_is ?_ hsc ?_ ?_⟩
  · simp only [callB, ByteArray.size_append]; show 2 + a.size + 1 + b.size + 1 ≤ _; omega
  · generalize (fun x : Int => x + ((1 + 1 : Nat) : Int)) = g1
    generalize (fun x : Int => x + ((1 + 1 + a.data.toList.length + 1 : Nat) : Int)) = g2
    generalize 1 + 1 + a.data.toList.length + 1 + b.data.toList.length = p2
    generalize 1 + 1 + a.data.toList.length = p1
    generalize ((callB a b).size : Int) = ev
    rw [show 6 * (tkF :: (sT [40] 1 :: (A.map (tkG g1) ++ sT [44] p1 :: (B.map (tkG g2) ++ sT [41] p2 :: [])))).length + 6 = 6 * (A.length + B.length) + 23 + 2 + 1 + 1 + 3 by simp only [List.length_cons, List.length_append, List.length_map, List.length_nil]; omega]
    have h1 := read_stop rA ev g1 0 (sT [44] p1 :: (B.map (tkG g2) ++ sT [41] p2 :: [])) (stop_comma _ _) (6 * (A.length + B.length) + 23 + 1) (by omega)
    have h2 := read_stop rB ev g2 0 (sT [41] p2 :: []) (stop_close _ _) (6 * (A.length + B.length) + 23) (by omega)
    have hL : callL ev (6 * (A.length + B.length) + 23 + 2) tkF [] ⟨A.map (tkG g1) ++ sT [44] p1 :: (B.map (tkG g2) ++ sT [41] p2 :: []), false, 0⟩ = (⟨5, bs [102], 0, 0, [mp g1 (parseT a).1, mp g2 (parseT b).1], 0⟩, ⟨[], false, 0⟩) := by
      rw [callL_comma (by rw [h1]; exact sign_hit (str1 44) [44] p1 _ false 0 (by rw [bs_toList, str1_list])), h1]
      rw [callL_end (by rw [h2]; exact sign_miss (str1 44) [41] p2 _ false 0 (by rw [bs_toList, str1_list]; decide)) (by rw [h2]; exact sign_hit (str1 41) [41] p2 _ false 0 (by rw [bs_toList, str1_list])), h2]
      rfl
    have hat : atomF ev (6 * (A.length + B.length) + 23 + 2 + 1) ⟨tkF :: (sT [40] 1 :: (A.map (tkG g1) ++ sT [44] p1 :: (B.map (tkG g2) ++ sT [41] p2 :: []))), false, 0⟩ = (⟨5, bs [102], 0, 0, [mp g1 (parseT a).1, mp g2 (parseT b).1], 0⟩, ⟨[], false, 0⟩) := by
      rw [atomF_call (p := 1) (s1 := ⟨A.map (tkG g1) ++ sT [44] p1 :: (B.map (tkG g2) ++ sT [41] p2 :: []), false, 0⟩) rfl (by show (1 : Int) ≠ 5; decide) (by show ¬ ((1 : Int) = 4 ∨ (1 : Int) = 2 ∨ (1 : Int) = 3); decide) (sign_hit (str1 40) [40] 1 _ false 0 (by rw [bs_toList, str1_list]))]
      rw [callS_none (reads_first rA g1 _ _ _ (fun _ => sign_miss (str1 41) [44] p1 _ false 0 (by rw [bs_toList, str1_list]; decide))), hL]
    have hun : unaryF ev (6 * (A.length + B.length) + 23 + 2 + 1 + 1) ⟨tkF :: (sT [40] 1 :: (A.map (tkG g1) ++ sT [44] p1 :: (B.map (tkG g2) ++ sT [41] p2 :: []))), false, 0⟩ = (⟨5, bs [102], 0, 0, [mp g1 (parseT a).1, mp g2 (parseT b).1], 0⟩, ⟨[], false, 0⟩) := by
      rw [unaryF_atom rfl, hat, upL_none rfl]
    exact unary_reads hun
  · rw [depthT_is]
    show depthM [mp _ (parseT a).1, mp _ (parseT b).1] + 1 ≤ 24
    rw [depthM_cons, depthM_cons, depthM_nil, depth_mp, depth_mp]
    omega
end
section
open Go.RowKit Go.Proofs.YtfgfoofojofnmaaDoorW.PrintWords Go.Proofs.YtfgfoofojofnmaaDoorW.PrintLast Go.Proofs.YtfgfoofojofnmaaDoorW.PrintMore
set_option linter.unusedVariables false
set_option linter.unusedSimpArgs false
open Go.Proofs.YtfgfoofojofnmaaDoor.Hand
theorem wtM_dropD (l : List S44) : ∀ j : Nat, wtM (l.drop j) ≤ wtM l := by
  induction l with
  | nil => intro j; simp
  | cons a l ih =>
    intro j
    cases j with
    | zero => simp
    | succ j => rw [List.drop_succ_cons, wtM_cons]; have := ih j; omega
theorem rd44D (l : List S44) (i : Nat) (h : i < l.length) : rd_T44 l (i : Int) = l[i] := by simp [rd_T44, List.getD_eq_getElem?_getD, List.getElem?_eq_getElem h]
mutual
/-- The tree as the document has it. -/
def nodeT : S44 → S54
  | ⟨a, b, c, d, ks, e⟩ => ⟨a, b, c, d, nodeM ks, e⟩
def nodeM : List S44 → List S54
  | [] => []
  | k :: ks => nodeT k :: nodeM ks
end
theorem nodeT_is (x : S44) : nodeT x = ⟨x.f0, x.f1, x.f2, x.f3, nodeM x.f4, x.f5⟩ := by obtain ⟨a, b, c, d, ks, e⟩ := x; rw [nodeT]
theorem nodeM_map (ks : List S44) : nodeM ks = ks.map nodeT := by
  induction ks with
  | nil => rw [nodeM]; rfl
  | cons k ks ih => rw [nodeM, ih]; rfl
/-- The conversion of the law is nodeT. -/
theorem node_f (n : Nat) : ∀ k : Nat, ∀ x : S44, wt x ≤ n → 2 * wt x ≤ k → wt x ≤ 1000000 → forebearlaw23_Node.f k x.f0 x.f1 x.f2 x.f3 x.f4 x.f5 = some (x.f0, x.f1, x.f2, x.f3, nodeM x.f4, x.f5) := by
  induction n with
  | zero => exact fun k x h => absurd (wt_pos x) (by omega)
  | succ n ih =>
    intro k x hx hk hb
    have e := wt_is x
    have eM := wtM_len x.f4
    have loop : ∀ (d : Nat) (k i : Nat), d = x.f4.length - i → i ≤ x.f4.length → 2 * wtM (x.f4.drop i) + 1 ≤ k →
        forebearlaw23_Node.l0 k (i : Int) x.f0 x.f1 x.f2 x.f3 x.f4 x.f5 x.f0 x.f1 x.f2 x.f3 ((x.f4.take i).map nodeT) x.f5 = some (x.f0, x.f1, x.f2, x.f3, nodeM x.f4, x.f5) := by
      intro d
      induction d with
      | zero =>
        intro k i hd hi2 hk2
        obtain ⟨k, rfl⟩ : ∃ k1, k = k1 + 1 := ⟨k - 1, by omega⟩
        have hi3 : i = x.f4.length := by omega
        rw [forebearlaw23_Node.l0, if_neg (by omega), hi3, List.take_length, nodeM_map]
      | succ d ihd =>
        intro k i hd hi2 hk2
        obtain ⟨k, rfl⟩ : ∃ k1, k = k1 + 1 := ⟨k - 1, by omega⟩
        have hil : i < x.f4.length := by omega
        have hdr := List.drop_eq_getElem_cons hil
        have hmem := wtM_dropD x.f4 i
        rw [hdr, wtM_cons] at hk2 hmem
        have hp := wt_pos (x.f4[i])
        have h9 := ihd k (i + 1) (by omega) (by omega) (by omega)
        have hlen : ((x.f4.take i).map nodeT).length = i := by simp; omega
        rw [forebearlaw23_Node.l0, if_pos (by omega), if_pos (by omega), rd44D _ _ hil, ih k (x.f4[i]) (by omega) (by omega) (by omega), Option.bind_some, if_pos (by omega)]
        have hw : wrap64 ((i : Int) + 1) = ((i + 1 : Nat) : Int) := by unfold wrap64; omega
        rw [hw, ← h9, List.take_succ_eq_append_getElem hil, List.map_append, List.map_cons, List.map_nil, nodeT_is x.f4[i]]
    obtain ⟨k, rfl⟩ : ∃ k1, k = k1 + 1 := ⟨k - 1, by omega⟩
    have h9 := loop x.f4.length k 0 (by omega) (by omega) (by simp only [List.drop_zero]; omega)
    rw [forebearlaw23_Node.f]
    exact h9
theorem rd54 (l : List S44) (i : Nat) (h : i < l.length) : rd_T54 (nodeM l) (i : Int) = nodeT l[i] := by
  rw [nodeM_map]
  simp [rd_T54, List.getD_eq_getElem?_getD, h]
theorem nodeM_len (ks : List S44) : (nodeM ks).length = ks.length := by rw [nodeM_map, List.length_map]
set_option maxHeartbeats 1000000 in
theorem rdepth_f (n : Nat) : ∀ k : Nat, (∀ x : S44, wt x ≤ n → 2 * wt x ≤ k → wt x < 4611686018427387904 → forebearref23_Depth.f k x.f0 x.f1 x.f2 x.f3 (nodeM x.f4) x.f5 = some (depthT x : Int)) := by
  induction n with
  | zero => exact fun k x h => absurd (wt_pos x) (by omega)
  | succ n ih =>
    intro k x hx hk hb
    have e := wt_is x
    have eM := wtM_len x.f4
    have step : ∀ (d : Nat) (k i m : Nat), d = x.f4.length - i → i ≤ x.f4.length → 2 * wtM (x.f4.drop i) + 1 ≤ k → m ≤ 4611686018427387904 → ∀ y0 y1 y2 y3 y5, forebearref23_Depth.l0 k (m : Int) (i : Int) y0 y1 y2 y3 (nodeM x.f4) y5 = some ((max m (depthM (x.f4.drop i)) : Nat) + 1 : Int) := by
      intro d
      induction d with
      | zero =>
        intro k i m hd hi hk2 hm y0 y1 y2 y3 y5
        obtain ⟨k, rfl⟩ : ∃ k1, k = k1 + 1 := ⟨k - 1, by omega⟩
        have hi2 : i = x.f4.length := by omega
        rw [forebearref23_Depth.l0, if_neg (by rw [nodeM_len]; omega), hi2, List.drop_length, depthM_nil]
        have : wrap64 ((m : Int) + 1) = (m : Int) + 1 := by unfold wrap64; omega
        rw [this]
        simp
      | succ d ihd =>
        intro k i m hd hi hk2 hm y0 y1 y2 y3 y5
        obtain ⟨k, rfl⟩ : ∃ k1, k = k1 + 1 := ⟨k - 1, by omega⟩
        have hil : i < x.f4.length := by omega
        have hdr := List.drop_eq_getElem_cons hil
        rw [hdr, wtM_cons] at hk2
        have hp := wt_pos (x.f4[i])
        have hmem : wt (x.f4[i]) + wtM (x.f4.drop (i + 1)) ≤ wtM x.f4 := by
          have : ∀ (l : List S44) (j : Nat), wtM (l.drop j) ≤ wtM l := by
            intro l
            induction l with
            | nil => intro j; simp
            | cons a l ihl =>
              intro j
              cases j with
              | zero => simp
              | succ j => rw [List.drop_succ_cons, wtM_cons]; have := ihl j; omega
          have h3 := this x.f4 i
          rw [hdr, wtM_cons] at h3
          exact h3
        have hdep := (depth_wt (wt (x.f4[i]))).1 (x.f4[i]) (Nat.le_refl _)
        have hrd := rd54 x.f4 i hil
        have hc := ih k (x.f4[i]) (by omega) (by omega) (by omega)
        rw [forebearref23_Depth.l0, if_pos (by rw [nodeM_len]; omega), if_pos (by omega), hrd, nodeT_is, hc, Option.bind_some]
        have hw : wrap64 ((i : Int) + 1) = ((i + 1 : Nat) : Int) := by unfold wrap64; omega
        rw [hw]
        clear hw hc hrd
        by_cases hgt : (depthT x.f4[i] : Int) > (m : Int)
        · rw [if_pos hgt, ihd k (i + 1) (depthT x.f4[i]) (by omega) (by omega) (by omega) (by omega), hdr, depthM_cons]
          have : max (depthT x.f4[i]) (depthM (List.drop (i + 1) x.f4)) = max m (max (depthT x.f4[i]) (depthM (List.drop (i + 1) x.f4))) := by omega
          rw [← this]
        · rw [if_neg hgt, ihd k (i + 1) m (by omega) (by omega) (by omega) (by omega), hdr, depthM_cons]
          have : max m (depthM (List.drop (i + 1) x.f4)) = max m (max (depthT x.f4[i]) (depthM (List.drop (i + 1) x.f4))) := by omega
          rw [← this]
    obtain ⟨k, rfl⟩ : ∃ k1, k = k1 + 1 := ⟨k - 1, by omega⟩
    rw [forebearref23_Depth.f]
    have h0 := step x.f4.length k 0 0 (by omega) (by omega) (by simp only [List.drop_zero]; omega) (by omega) x.f0 x.f1 x.f2 x.f3 x.f5
    rw [show ((0 : Nat) : Int) = 0 from rfl] at h0
    rw [h0, depthT_is]
    simp
end
section
open Go.RowKit Go.Proofs.YtfgfoofojofnmaaDoorW.PrintWords Go.Proofs.YtfgfoofojofnmaaDoorW.PrintLast Go.Proofs.YtfgfoofojofnmaaDoorW.PrintMore
set_option linter.unusedVariables false
set_option linter.unusedSimpArgs false
open Go.Proofs.YtfgfoofojofnmaaDoor.Hand
mutual
/-- The same tree? Without the places, if p is false. -/
def sameT (p : Bool) : S44 → S44 → Bool
  | ⟨op, s, n, id, ks, at_⟩, y => decide (op = y.f0) && decide (s.toList = y.f1.toList) && decide (n = y.f2) && decide (id = y.f3) && (!p || decide (at_ = y.f5)) && decide (ks.length = y.f4.length) && sameM p ks y.f4
def sameM (p : Bool) : List S44 → List S44 → Bool
  | [], _ => true
  | _ :: _, [] => false
  | k :: ks, m :: ms => sameT p k m && sameM p ks ms
end
theorem sameT_is (p : Bool) (x y : S44) : sameT p x y = (decide (x.f0 = y.f0) && decide (x.f1.toList = y.f1.toList) && decide (x.f2 = y.f2) && decide (x.f3 = y.f3) && (!p || decide (x.f5 = y.f5)) && decide (x.f4.length = y.f4.length) && sameM p x.f4 y.f4) := by obtain ⟨a, b, c, d, ks, e⟩ := x; rw [sameT]
theorem sameM_cons (p : Bool) (k m : S44) (ks ms : List S44) : sameM p (k :: ks) (m :: ms) = (sameT p k m && sameM p ks ms) := by rw [sameM]
theorem sameM_nil (p : Bool) (l : List S44) : sameM p [] l = true := by rw [sameM]
theorem same_mp (g : Int → Int) (n : Nat) : ∀ x, wt x ≤ n → sameT false (mp g x) x = true := by
  induction n with
  | zero => exact fun x h => absurd (wt_pos x) (by omega)
  | succ n ih =>
    intro x hx
    have hl : ∀ ks : List S44, (mpM g ks).length = ks.length := by
      intro ks
      induction ks with
      | nil => rw [mpM_nil]
      | cons k ks ihk => rw [mpM_cons, List.length_cons, List.length_cons, ihk]
    have hm : ∀ ks : List S44, wtM ks ≤ n → sameM false (mpM g ks) ks = true := by
      intro ks
      induction ks with
      | nil => intro _; rw [mpM_nil, sameM_nil]
      | cons k ks ihk =>
        intro h
        rw [wtM_cons] at h
        rw [mpM_cons, sameM_cons, ih k (by omega), ihk (by omega)]
        rfl
    obtain ⟨a, b, c, d, ks, e⟩ := x
    rw [wt_mk] at hx
    rw [mp_mk, sameT_is]
    simp [hl, hm ks (by omega)]
set_option maxHeartbeats 1000000 in
theorem same_f (p : Bool) (n : Nat) : ∀ k : Nat, ∀ x y : S44, wt x ≤ n → 4 * wt x ≤ k → wt x ≤ 1000000 → wt y ≤ 1000000 → forebearref23_Same.f k x.f0 x.f1 x.f2 x.f3 (nodeM x.f4) x.f5 y.f0 y.f1 y.f2 y.f3 (nodeM y.f4) y.f5 p = some (sameT p x y) := by
  induction n with
  | zero => exact fun k x y h => absurd (wt_pos x) (by omega)
  | succ n ih =>
    intro k x y hx hk hb hby
    have e := wt_is x
    have eM := wtM_len x.f4
    have ey := wt_is y
    have eMy := wtM_len y.f4
    have step : ∀ (d : Nat) (k i : Nat), d = x.f4.length - i → i ≤ x.f4.length → x.f4.length = y.f4.length → 4 * wtM (x.f4.drop i) + 1 ≤ k → ∀ y0 y1 y2 y3 y5 z0 z1 z2 z3 z5, forebearref23_Same.l0 k p (i : Int) y0 y1 y2 y3 (nodeM x.f4) y5 z0 z1 z2 z3 (nodeM y.f4) z5 = some (sameM p (x.f4.drop i) (y.f4.drop i)) := by
      intro d
      induction d with
      | zero =>
        intro k i hd hi hle hk2 y0 y1 y2 y3 y5 z0 z1 z2 z3 z5
        obtain ⟨k, rfl⟩ : ∃ k1, k = k1 + 1 := ⟨k - 1, by omega⟩
        have hi2 : i = x.f4.length := by omega
        rw [forebearref23_Same.l0, if_neg (by rw [nodeM_len]; omega), hi2, List.drop_length, sameM_nil]
      | succ d ihd =>
        intro k i hd hi hle hk2 y0 y1 y2 y3 y5 z0 z1 z2 z3 z5
        obtain ⟨k, rfl⟩ : ∃ k1, k = k1 + 1 := ⟨k - 1, by omega⟩
        have hil : i < x.f4.length := by omega
        have hil2 : i < y.f4.length := by omega
        have hdr := List.drop_eq_getElem_cons hil
        have hdr2 := List.drop_eq_getElem_cons hil2
        rw [hdr, wtM_cons] at hk2
        have hp := wt_pos (x.f4[i])
        have hmem : wt (x.f4[i]) + wtM (x.f4.drop (i + 1)) ≤ wtM x.f4 := by
          have h3 := wtM_dropD x.f4 i
          rw [hdr, wtM_cons] at h3
          exact h3
        have hmem2 : wt (y.f4[i]) + wtM (y.f4.drop (i + 1)) ≤ wtM y.f4 := by
          have h3 := wtM_dropD y.f4 i
          rw [hdr2, wtM_cons] at h3
          exact h3
        have hrd := rd54 x.f4 i hil
        have hrd2 := rd54 y.f4 i hil2
        have hc := ih k (x.f4[i]) (y.f4[i]) (by omega) (by omega) (by omega) (by omega)
        rw [forebearref23_Same.l0, if_pos (by rw [nodeM_len]; omega), if_pos (by omega), if_pos (by rw [nodeM_len]; omega), hrd, hrd2, nodeT_is, nodeT_is, hc, Option.bind_some, hdr, hdr2, sameM_cons]
        have hw : wrap64 ((i : Int) + 1) = ((i + 1 : Nat) : Int) := by unfold wrap64; omega
        rw [hw]
        clear hw hc hrd hrd2
        by_cases hs : sameT p x.f4[i] y.f4[i] = true
        · rw [if_pos hs, ihd k (i + 1) (by omega) (by omega) hle (by omega), hs, Bool.true_and]
        · rw [if_neg hs, show sameT p x.f4[i] y.f4[i] = false by simpa using hs, Bool.false_and]
    obtain ⟨k, rfl⟩ : ∃ k1, k = k1 + 2 := ⟨k - 2, by omega⟩
    have hj0 : ∀ y0 y1 y2 y3 y5 z0 z1 z2 z3 z5, forebearref23_Same.j0 (k + 1) p true y0 y1 y2 y3 (nodeM x.f4) y5 z0 z1 z2 z3 (nodeM y.f4) z5 = some false := by
      intros
      rw [forebearref23_Same.j0, if_pos rfl]
    have hj1 : ∀ y0 y1 y2 y3 y5 z0 z1 z2 z3 z5, forebearref23_Same.j0 (k + 1) p (((nodeM x.f4).length : Int) != ((nodeM y.f4).length : Int)) y0 y1 y2 y3 (nodeM x.f4) y5 z0 z1 z2 z3 (nodeM y.f4) z5 = some (decide (x.f4.length = y.f4.length) && sameM p x.f4 y.f4) := by
      intro y0 y1 y2 y3 y5 z0 z1 z2 z3 z5
      rw [forebearref23_Same.j0, nodeM_len, nodeM_len]
      by_cases hle : x.f4.length = y.f4.length
      · have h0 := step x.f4.length k 0 (by omega) (by omega) hle (by simp only [List.drop_zero]; omega) y0 y1 y2 y3 y5 z0 z1 z2 z3 z5
        rw [if_neg (by rw [hle]; simp), show (0 : Int) = ((0 : Nat) : Int) from rfl, h0, List.drop_zero, List.drop_zero, decide_eq_true hle, Bool.true_and]
      · rw [if_pos (by simp; omega), decide_eq_false hle, Bool.false_and]
    rw [sameT_is, forebearref23_Same.f]
    by_cases h0 : x.f0 = y.f0
    · rw [if_pos h0]
      by_cases h1 : x.f1.toList = y.f1.toList
      · rw [if_pos h1]
        by_cases h2 : x.f2 = y.f2
        · rw [if_pos h2]
          by_cases h3 : x.f3 = y.f3
          · rw [if_pos h3]
            by_cases hp : p = true
            · rw [if_pos hp]
              by_cases h5 : x.f5 = y.f5
              · rw [if_pos h5, hj1]; simp [h0, h1, h2, h3, h5, hp]
              · rw [if_neg h5, hj0]; simp [h5, hp]
            · rw [if_neg hp, hj1]; simp [h0, h1, h2, h3, hp]
          · rw [if_neg h3, hj0]; simp [h3]
        · rw [if_neg h2, hj0]; simp [h2]
      · rw [if_neg h1, hj0]; simp [h1]
    · rw [if_neg h0, hj0]; simp [h0]
theorem node_any (x : S44) (hw : wt x ≤ 1000000) (A : Option Addr) (c : Nat) (hl : x.f4.length ≤ c) (W : World) (hC : Kd.C k44 W A x.f4.length x.f4) :
    Calls Tryd.prog 25 #[.agg #[.int .i64 x.f0, .string x.f1, .int .i64 x.f2, .int .u64 x.f3, .slice A x.f4.length c, .int .i64 x.f5]] W fun e w' => ∃ A' c', e = .returned (.agg #[.int .i64 x.f0, .string x.f1, .int .i64 x.f2, .int .u64 x.f3, .slice A' x.f4.length c', .int .i64 x.f5]) ∧ x.f4.length ≤ c' ∧ Kd.C k54 w' A' x.f4.length (nodeM x.f4) ∧ Below W.heap.size W w' := by
  refine (forebearlaw23_Node.calls (2 * wt x) x.f0 x.f1 x.f2 x.f3 A c x.f4 x.f5 _ _ _ _ _ _ W hC hl (node_f (wt x) _ x (Nat.le_refl _) (Nat.le_refl _) hw)).mono ?_
  rintro e w' ⟨v, rfl, hR, hB⟩
  obtain ⟨A', c', rfl, hl', hC'⟩ := Kd.R_reads hR
  rw [nodeM_len] at hl' hC' ⊢
  exact ⟨A', c', rfl, hl', hC', hB⟩
theorem depth_any (x : S44) (hw : wt x ≤ 1000000) (A : Option Addr) (c : Nat) (hl : x.f4.length ≤ c) (W : World) (hC : Kd.C k54 W A x.f4.length (nodeM x.f4)) :
    Calls Tryd.prog 31 #[.agg #[.int .i64 x.f0, .string x.f1, .int .i64 x.f2, .int .u64 x.f3, .slice A x.f4.length c, .int .i64 x.f5]] W fun e w' => e = .returned (.int .i64 (depthT x : Int)) ∧ Below W.heap.size W w' := by
  have hn := nodeM_len x.f4
  have h := forebearref23_Depth.calls (2 * wt x) x.f0 x.f1 x.f2 x.f3 A c (nodeM x.f4) x.f5 _ W (by rw [hn]; exact hC) (by rw [hn]; exact hl) (rdepth_f (wt x) _ x (Nat.le_refl _) (Nat.le_refl _) (by omega))
  rw [hn] at h
  exact h
theorem same_any (p : Bool) (x y : S44) (hw : wt x ≤ 1000000) (hwy : wt y ≤ 1000000) (A A' : Option Addr) (c c' : Nat) (hl : x.f4.length ≤ c) (hl' : y.f4.length ≤ c') (W : World) (hC : Kd.C k54 W A x.f4.length (nodeM x.f4)) (hC' : Kd.C k54 W A' y.f4.length (nodeM y.f4)) :
    Calls Tryd.prog 28 #[.agg #[.int .i64 x.f0, .string x.f1, .int .i64 x.f2, .int .u64 x.f3, .slice A x.f4.length c, .int .i64 x.f5], .agg #[.int .i64 y.f0, .string y.f1, .int .i64 y.f2, .int .u64 y.f3, .slice A' y.f4.length c', .int .i64 y.f5], .bool p] W fun e w' => e = .returned (.bool (sameT p x y)) ∧ Below W.heap.size W w' := by
  have hn := nodeM_len x.f4
  have hn' := nodeM_len y.f4
  have h := forebearref23_Same.calls (4 * wt x) x.f0 x.f1 x.f2 x.f3 A c (nodeM x.f4) x.f5 y.f0 y.f1 y.f2 y.f3 A' c' (nodeM y.f4) y.f5 p _ W (by rw [hn]; exact hC) (by rw [hn]; exact hl) (by rw [hn']; exact hC') (by rw [hn']; exact hl') (same_f p (wt x) _ x y (Nat.le_refl _) (Nat.le_refl _) hw hwy)
  rw [hn, hn'] at h
  exact h
end
section
open Go.RowKit Go.Proofs.YtfgfoofojofnmaaDoorW.PrintWords Go.Proofs.YtfgfoofojofnmaaDoorW.PrintLast Go.Proofs.YtfgfoofojofnmaaDoorW.PrintMore
set_option linter.unusedVariables false
set_option linter.unusedSimpArgs false
open Go.Proofs.YtfgfoofojofnmaaDoor.Hand
theorem prs_any (a : ByteArray) (w : World) : Calls Tryd.prog 22 #[.string a] w fun e w' => ∃ A c, e = .returned (.tuple #[.agg #[.int .i64 (parseT a).1.f0, .string (parseT a).1.f1, .int .i64 (parseT a).1.f2, .int .u64 (parseT a).1.f3, .slice A (parseT a).1.f4.length c, .int .i64 (parseT a).1.f5], .int .i64 (parseT a).2.1, .int .i64 (parseT a).2.2]) ∧ (parseT a).1.f4.length ≤ c ∧ Kd.C k44 w' A (parseT a).1.f4.length (parseT a).1.f4 ∧ Below w.heap.size w w' := by
  refine (parse_Parse.calls a _ _ _ _ _ _ _ _ w rfl).mono ?_
  rintro e w' ⟨v, rfl, hR, hB⟩
  obtain ⟨A, c, rfl, hl, hC⟩ := Kd.R_reads hR
  exact ⟨A, c, rfl, hl, hC, hB⟩
theorem prs_few (a : ByteArray) : wt (parseT a).1 ≤ 2049 := by
  have hz : wt z44 ≤ 2049 := by rw [wt_z]; decide
  unfold parseT
  split
  · split
    · exact hz
    · split
      · exact hz
      · exact readS_wt a
  · exact hz
set_option maxRecDepth 100000 in
theorem aw1 : ((parseT (⟨#[97, 124, 98, 38, 33, 99, 94, 50]⟩ : ByteArray)).2.2 = 0 ∧ (parseT (⟨#[97, 124, 98, 38, 33, 99, 94, 50]⟩ : ByteArray)).1.f0 = 6 ∧ (parseT (⟨#[97, 124, 98, 38, 33, 99, 94, 50]⟩ : ByteArray)).1.f5 = 1) ∧ parse_Show.f (parseT (⟨#[97, 124, 98, 38, 33, 99, 94, 50]⟩ : ByteArray)).1.f0 (parseT (⟨#[97, 124, 98, 38, 33, 99, 94, 50]⟩ : ByteArray)).1.f1 (parseT (⟨#[97, 124, 98, 38, 33, 99, 94, 50]⟩ : ByteArray)).1.f2 (parseT (⟨#[97, 124, 98, 38, 33, 99, 94, 50]⟩ : ByteArray)).1.f3 (parseT (⟨#[97, 124, 98, 38, 33, 99, 94, 50]⟩ : ByteArray)).1.f4 (parseT (⟨#[97, 124, 98, 38, 33, 99, 94, 50]⟩ : ByteArray)).1.f5 = some (⟨#[97, 32, 124, 32, 98, 32, 38, 32, 33, 99, 94, 50]⟩ : ByteArray) := by decide +kernel
set_option maxRecDepth 100000 in
theorem aw2 : (parseT (⟨#[97, 46, 46, 98, 46, 46, 99]⟩ : ByteArray)).2.1 = 4 ∧ (parseT (⟨#[97, 46, 46, 98, 46, 46, 99]⟩ : ByteArray)).2.2 = 31 := by decide +kernel
set_option maxRecDepth 100000 in
theorem aw3 : (parseT (⟨#[97, 94, 48]⟩ : ByteArray)).2.1 = 2 ∧ (parseT (⟨#[97, 94, 48]⟩ : ByteArray)).2.2 = 31 := by decide +kernel
theorem below_allocV (w : World) (o : Obj) : Below w.heap.size w (w.alloc o) := below_alloc (Below.refl _ _) o
set_option maxHeartbeats 4000000 in
set_option maxRecDepth 100000 in
theorem awake26_any (w : World) : Calls Tryd.prog 26 #[] w fun e w' => e = .returned (.bool true) ∧ Below w.heap.size w w' := by
  obtain ⟨⟨n, pn, en⟩, hn⟩ : ∃ N, parseT (⟨#[97, 124, 98, 38, 33, 99, 94, 50]⟩ : ByteArray) = N := ⟨_, rfl⟩
  have P0 : ∀ W, Calls Tryd.prog 22 #[.string (⟨#[97, 124, 98, 38, 33, 99, 94, 50]⟩ : ByteArray)] W (fun e_ w_ => ∃ A c, e_ = .returned (.tuple #[.agg #[.int .i64 n.f0, .string n.f1, .int .i64 n.f2, .int .u64 n.f3, .slice A n.f4.length c, .int .i64 n.f5], .int .i64 pn, .int .i64 en]) ∧ n.f4.length ≤ c ∧ Kd.C k44 w_ A n.f4.length n.f4 ∧ Below W.heap.size W w_) := fun W => by have := prs_any (⟨#[97, 124, 98, 38, 33, 99, 94, 50]⟩ : ByteArray) W; rw [hn] at this; exact this
  obtain ⟨⟨m, pm, em⟩, hm⟩ : ∃ N, parseT (⟨#[97, 46, 46, 98, 46, 46, 99]⟩ : ByteArray) = N := ⟨_, rfl⟩
  have P1 : ∀ W, Calls Tryd.prog 22 #[.string (⟨#[97, 46, 46, 98, 46, 46, 99]⟩ : ByteArray)] W (fun e_ w_ => ∃ A c, e_ = .returned (.tuple #[.agg #[.int .i64 m.f0, .string m.f1, .int .i64 m.f2, .int .u64 m.f3, .slice A m.f4.length c, .int .i64 m.f5], .int .i64 pm, .int .i64 em]) ∧ m.f4.length ≤ c ∧ Kd.C k44 w_ A m.f4.length m.f4 ∧ Below W.heap.size W w_) := fun W => by have := prs_any (⟨#[97, 46, 46, 98, 46, 46, 99]⟩ : ByteArray) W; rw [hm] at this; exact this
  obtain ⟨⟨x, px, ex⟩, hx⟩ : ∃ N, parseT (⟨#[97, 94, 48]⟩ : ByteArray) = N := ⟨_, rfl⟩
  have P2 : ∀ W, Calls Tryd.prog 22 #[.string (⟨#[97, 94, 48]⟩ : ByteArray)] W (fun e_ w_ => ∃ A c, e_ = .returned (.tuple #[.agg #[.int .i64 x.f0, .string x.f1, .int .i64 x.f2, .int .u64 x.f3, .slice A x.f4.length c, .int .i64 x.f5], .int .i64 px, .int .i64 ex]) ∧ x.f4.length ≤ c ∧ Kd.C k44 w_ A x.f4.length x.f4 ∧ Below W.heap.size W w_) := fun W => by have := prs_any (⟨#[97, 94, 48]⟩ : ByteArray) W; rw [hx] at this; exact this
  have q1 := aw1
  have q2 := aw2
  have q3 := aw3
  rw [hn] at q1
  rw [hm] at q2
  rw [hx] at q3
  obtain ⟨⟨q1a, q1b, q1c⟩, q1d⟩ := q1
  obtain ⟨q2a, q2b⟩ := q2
  obtain ⟨q3a, q3b⟩ := q3
  clear hn hm hx
  simp only at q1a q1b q1c q1d q2a q2b q3a q3b
  have CS := fun W A c hC hl => parse_Show.calls n.f0 n.f1 n.f2 n.f3 A c n.f4 n.f5 (⟨#[97, 32, 124, 32, 98, 32, 38, 32, 33, 99, 94, 50]⟩ : ByteArray) W hC hl q1d
  clear q1d
  have Zq1a := Lib.hid q1a
  clear q1a
  have Zq1b := Lib.hid q1b
  clear q1b
  have Zq1c := Lib.hid q1c
  clear q1c
  have Zq2a := Lib.hid q2a
  clear q2a
  have Zq2b := Lib.hid q2b
  clear q2b
  have Zq3a := Lib.hid q3a
  clear q3a
  have Zq3b := Lib.hid q3b
  clear q3b
  go_enter Tryd.func26, Tryd.ntmps26
  have HB0 := Lib.hid (Below.refl w.heap.size w)
  have HV0 := HB0
  go_upto_region 2 with (go_at_call 22; (with_reducible refine (P0 _).mono ?_); rintro e v1 ⟨A1, c1, rfl, hl, hC, hB⟩; have HC1 := Lib.hid hC; have HL1 := Lib.hid hl; have HV1 := Lib.hid hB; clear hl hC hB)
  have HN1 := Lib.hid (blk_new v1 (Obj.cells #[.int .i64 n.f0, .string n.f1, .int .i64 n.f2, .int .u64 n.f3, .slice A1 n.f4.length c1, .int .i64 n.f5] 44))
  have HD1 := Lib.hid (Kd.C_below HC1.out (below_allocV v1 (Obj.cells #[.int .i64 n.f0, .string n.f1, .int .i64 n.f2, .int .u64 n.f3, .slice A1 n.f4.length c1, .int .i64 n.f5] 44)))
  have HZ1 : Hid (Below w.heap.size w (v1.alloc (Obj.cells #[.int .i64 n.f0, .string n.f1, .int .i64 n.f2, .int .u64 n.f3, .slice A1 n.f4.length c1, .int .i64 n.f5] 44))) := Lib.hid (below_alloc HV1.out _)
  have HB1 := Lib.hid (below_step HB0.out HZ1.out)
  clear HC1 HV1 HZ1
  generalize v1.alloc (Obj.cells #[.int .i64 n.f0, .string n.f1, .int .i64 n.f2, .int .u64 n.f3, .slice A1 n.f4.length c1, .int .i64 n.f5] 44) = w4 at *
  generalize v1.heap.size = b8 at *
  go_upto_region 3 with (go_at_call 22; (with_reducible refine (P1 _).mono ?_); rintro e v2 ⟨A2, c2, rfl, hl, hC, hB⟩; have HC2 := Lib.hid hC; have HL2 := Lib.hid hl; have HV2 := Lib.hid hB; clear hl hC hB)
  have HN2 := Lib.hid (blk_new v2 (Obj.cells #[.int .i64 m.f0, .string m.f1, .int .i64 m.f2, .int .u64 m.f3, .slice A2 m.f4.length c2, .int .i64 m.f5] 44))
  have HD2 := Lib.hid (Kd.C_below HC2.out (below_allocV v2 (Obj.cells #[.int .i64 m.f0, .string m.f1, .int .i64 m.f2, .int .u64 m.f3, .slice A2 m.f4.length c2, .int .i64 m.f5] 44)))
  have HZ2 : Hid (Below w4.heap.size w4 (v2.alloc (Obj.cells #[.int .i64 m.f0, .string m.f1, .int .i64 m.f2, .int .u64 m.f3, .slice A2 m.f4.length c2, .int .i64 m.f5] 44))) := Lib.hid (below_alloc HV2.out _)
  have HB2 := Lib.hid (below_step HB1.out HZ2.out)
  have HN1 := Lib.hid (blk_belowU HZ2.out HN1.out)
  have HD1 := Lib.hid (Kd.C_below HD1.out HZ2.out)
  clear HC2 HV2 HZ2
  generalize v2.alloc (Obj.cells #[.int .i64 m.f0, .string m.f1, .int .i64 m.f2, .int .u64 m.f3, .slice A2 m.f4.length c2, .int .i64 m.f5] 44) = w5 at *
  generalize v2.heap.size = b11 at *
  go_upto_region 4 with (go_at_call 22; (with_reducible refine (P2 _).mono ?_); rintro e v3 ⟨A3, c3, rfl, hl, hC, hB⟩; have HC3 := Lib.hid hC; have HL3 := Lib.hid hl; have HV3 := Lib.hid hB; clear hl hC hB)
  have HN3 := Lib.hid (blk_new v3 (Obj.cells #[.int .i64 x.f0, .string x.f1, .int .i64 x.f2, .int .u64 x.f3, .slice A3 x.f4.length c3, .int .i64 x.f5] 44))
  have HD3 := Lib.hid (Kd.C_below HC3.out (below_allocV v3 (Obj.cells #[.int .i64 x.f0, .string x.f1, .int .i64 x.f2, .int .u64 x.f3, .slice A3 x.f4.length c3, .int .i64 x.f5] 44)))
  have HZ3 : Hid (Below w5.heap.size w5 (v3.alloc (Obj.cells #[.int .i64 x.f0, .string x.f1, .int .i64 x.f2, .int .u64 x.f3, .slice A3 x.f4.length c3, .int .i64 x.f5] 44))) := Lib.hid (below_alloc HV3.out _)
  have HB3 := Lib.hid (below_step HB2.out HZ3.out)
  have HN1 := Lib.hid (blk_belowU HZ3.out HN1.out)
  have HD1 := Lib.hid (Kd.C_below HD1.out HZ3.out)
  clear HC3 HV3 HZ3
  generalize v3.alloc (Obj.cells #[.int .i64 x.f0, .string x.f1, .int .i64 x.f2, .int .u64 x.f3, .slice A3 x.f4.length c3, .int .i64 x.f5] 44) = w6 at *
  generalize v3.heap.size = b14 at *
  have tc0 : w6.cell? ⟨b8, 0, none⟩ = some (.int .i64 n.f0) := (blk_cell HN1.out 0).trans rfl
  have tc1 : w6.cell? ⟨b8, 1, none⟩ = some (.string n.f1) := (blk_cell HN1.out 1).trans rfl
  have tc2 : w6.cell? ⟨b8, 2, none⟩ = some (.int .i64 n.f2) := (blk_cell HN1.out 2).trans rfl
  have tc3 : w6.cell? ⟨b8, 3, none⟩ = some (.int .u64 n.f3) := (blk_cell HN1.out 3).trans rfl
  have tc4 : w6.cell? ⟨b8, 4, none⟩ = some (.slice A1 n.f4.length c1) := (blk_cell HN1.out 4).trans rfl
  have tc5 : w6.cell? ⟨b8, 5, none⟩ = some (.int .i64 n.f5) := (blk_cell HN1.out 5).trans rfl
  have q1a := Zq1a.out
  have q1b := Zq1b.out
  have q1c := Zq1c.out
  have q2a := Zq2a.out
  have q2b := Zq2b.out
  have q3a := Zq3a.out
  have q3b := Zq3b.out
  subst q1a
  subst q2a
  subst q2b
  subst q3a
  subst q3b
  have e1 : (n.f0 == 6) = true := by rw [q1b]; rfl
  have e2 : (n.f5 == 1) = true := by rw [q1c]; rfl
  clear q1b q1c
  go_wp2_with (go_at_call 29; (with_reducible refine (CS _ A1 c1 ?_ ?_).mono ?_); exact HD1.out; exact HL1.out; rintro e_ w7 ⟨rfl, hB⟩; have HB7 := Lib.hid (below_step HB3.out hB); clear hB)
  go_ret
  exact ⟨rfl, HB7.out⟩
end
section
open Go.RowKit Go.Proofs.YtfgfoofojofnmaaDoorW.PrintWords Go.Proofs.YtfgfoofojofnmaaDoorW.PrintLast Go.Proofs.YtfgfoofojofnmaaDoorW.PrintMore
set_option linter.unusedVariables false
set_option linter.unusedSimpArgs false
open Go.Proofs.YtfgfoofojofnmaaDoor.Hand
def sgB (j : Nat) : ByteArray := if j = 0 then ⟨#[124]⟩ else if j = 1 then ⟨#[45]⟩ else if j = 2 then ⟨#[38]⟩ else if j = 3 then ⟨#[46, 46]⟩ else ⟨#[58, 58]⟩
theorem sgB_cell {w : World} {b j : Nat} (h : w.heap[b]? = some (.cells #[.string (⟨#[124]⟩ : ByteArray), .string (⟨#[45]⟩ : ByteArray), .string (⟨#[38]⟩ : ByteArray), .string (⟨#[46, 46]⟩ : ByteArray), .string (⟨#[58, 58]⟩ : ByteArray)] 56 (0, 0))) (hj : j < 5) : w.cell? ⟨b, j, none⟩ = some (.string (sgB j)) := by
  have hh : j = 0 ∨ j = 1 ∨ j = 2 ∨ j = 3 ∨ j = 4 := by omega
  rcases hh with rfl | rfl | rfl | rfl | rfl
  · exact (blk_cell h 0).trans rfl
  · exact (blk_cell h 1).trans rfl
  · exact (blk_cell h 2).trans rfl
  · exact (blk_cell h 3).trans rfl
  · exact (blk_cell h 4).trans rfl
theorem below_undrew {w w' : World} (h : Below w.drew.heap.size w.drew w') : Below w.heap.size w w' := below_step (below_drew1 (Below.refl _ _)) h
theorem cell_drew {w : World} {a : Addr} {v : Value} (h : w.cell? a = some v) : w.drew.cell? a = some v := h
theorem wrap_six (i : Int) (h0 : 0 ≤ i) (h5 : i < 5) : wrap64 (6 + i) = 6 + i := by unfold wrap64; omega
theorem wrap_two (s : Nat) (h : s ≤ 140737488351232) : wrap64 ((s : Int) + 2) = (s : Int) + 2 := by unfold wrap64; omega
theorem iwrap_six (i : Int) (h0 : 0 ≤ i) (h5 : i < 5) : IntKind.i64.wrap (6 + i) = 6 + i := by rw [IntKind.wrap_i64]; omega
theorem iwrap_two (s : Nat) (h : s ≤ 140737488351232) : IntKind.i64.wrap ((s : Int) + 2) = (s : Int) + 2 := by rw [IntKind.wrap_i64]; omega
theorem below_unallocdr {w w' : World} {o : Obj} (h : Below (w.alloc o).drew.heap.size (w.alloc o).drew w') : Below w.heap.size w w' := below_step (below_drew1 (below_allocV w o)) h
theorem below_unalloc {w w' : World} {o : Obj} (h : Below (w.alloc o).heap.size (w.alloc o) w') : Below w.heap.size w w' := below_step (below_allocV w o) h
theorem below_undralloc {w w' : World} {o : Obj} (h : Below (w.drew.alloc o).heap.size (w.drew.alloc o) w') : Below w.heap.size w w' := below_step (below_alloc (below_drew1 (Below.refl _ _)) o) h
theorem pair_row {W : World} {b : Nat} {n m : S44} {A1 A2 : Option Addr} {c1 c2 : Nat} (hb : W.heap[b]? = some (.cells #[.int .i64 n.f0, .string n.f1, .int .i64 n.f2, .int .u64 n.f3, .slice A1 n.f4.length c1, .int .i64 n.f5, .int .i64 m.f0, .string m.f1, .int .i64 m.f2, .int .u64 m.f3, .slice A2 m.f4.length c2, .int .i64 m.f5] 44 (0, 0))) (hl1 : n.f4.length ≤ c1) (hl2 : m.f4.length ≤ c2) (h1 : Kd.C k44 W A1 n.f4.length n.f4) (h2 : Kd.C k44 W A2 m.f4.length m.f4) : Kd.C k44 W (some ⟨b, 0, none⟩) 2 [n, m] := by
  refine ⟨rfl, by decide, fun _ => ⟨_, rfl, fun j p hj => ?_⟩⟩
  have hj2 : j < 2 := (List.getElem?_eq_some_iff.1 hj).1
  have hc : ∀ i, i < 12 → W.cell? ((⟨b, 0, none⟩ : Addr).add i) = (#[.int .i64 n.f0, .string n.f1, .int .i64 n.f2, .int .u64 n.f3, .slice A1 n.f4.length c1, .int .i64 n.f5, .int .i64 m.f0, .string m.f1, .int .i64 m.f2, .int .u64 m.f3, .slice A2 m.f4.length c2, .int .i64 m.f5] : Array Value)[i]? := by
    intro i hi
    have e2 : (⟨b, 0, none⟩ : Addr).add i = ⟨b, i, none⟩ := by
      simp only [Addr.add]
      by_cases h : i = 0
      · subst h; rfl
      · rw [if_neg h, Nat.zero_add]
    rw [e2]
    exact blk_cell hb i
  have hh : j = 0 ∨ j = 1 := by omega
  rcases hh with rfl | rfl
  · have e : p = n := by simpa using hj.symm
    subst e
    refine ⟨_, rfl, k44_mk _ _ hl1 h1, fun i u hu => ?_⟩
    have hi : i < 6 := (List.getElem?_eq_some_iff.1 hu).1
    rw [show 0 * k44.sz + i = i from by rw [Nat.zero_mul, Nat.zero_add], hc i (by omega)]
    rw [← hu]
    have hh : i = 0 ∨ i = 1 ∨ i = 2 ∨ i = 3 ∨ i = 4 ∨ i = 5 := by omega
    rcases hh with rfl | rfl | rfl | rfl | rfl | rfl <;> rfl
  · have e : p = m := by simpa using hj.symm
    subst e
    refine ⟨_, rfl, k44_mk _ _ hl2 h2, fun i u hu => ?_⟩
    have hi : i < 6 := (List.getElem?_eq_some_iff.1 hu).1
    rw [show 1 * k44.sz + i = 6 + i from rfl, hc (6 + i) (by omega)]
    rw [← hu]
    have hh : i = 0 ∨ i = 1 ∨ i = 2 ∨ i = 3 ∨ i = 4 ∨ i = 5 := by omega
    rcases hh with rfl | rfl | rfl | rfl | rfl | rfl <;> rfl
theorem call_any (n m : S44) (W : World) (ad : Addr) (hC : Kd.C k44 W (some ad) 2 [n, m]) : Calls Tryd.prog 32 #[.string (⟨#[102]⟩ : ByteArray), .slice (some ad) 2 2] W fun e w' => ∃ A c, e = .returned (.agg #[.int .i64 5, .string (⟨#[102]⟩ : ByteArray), .int .i64 0, .int .u64 0, .slice A 2 c, .int .i64 0]) ∧ 2 ≤ c ∧ Kd.C k44 w' A 2 [n, m] ∧ Below W.heap.size W w' := by
  refine (parse_Call.calls (⟨#[102]⟩ : ByteArray) (fun k => k < W.heap.size) (some ad) 2 [n, m] 5 (⟨#[102]⟩ : ByteArray) 0 0 [n, m] 0 W (Kd.V_mk (Nat.le_refl 2) (Kd.C_F k44_heap hC)) ?_).mono ?_
  · simp [parse_Call.f]
  · rintro e w' ⟨v, rfl, hN, hB⟩
    obtain ⟨A, c, rfl, hl, hC'⟩ := Kd.N_reads hN
    exact ⟨A, c, rfl, hl, hC', hB⟩
theorem cell_alloc {w : World} {a : Addr} {v : Value} {o : Obj} (h : w.cell? a = some v) : (w.alloc o).cell? a = some v := (World.cell?_alloc_lt _ _ _ (World.block_lt_of_cell? w a h)).trans h
theorem sgB_opj (j : Nat) (hj : j < 5) : ((sgB j).data.toList = [124] ∧ (6 + j : Int) = 6) ∨ ((sgB j).data.toList = [45] ∧ (6 + j : Int) = 7) ∨ ((sgB j).data.toList = [38] ∧ (6 + j : Int) = 8) ∨ ((sgB j).data.toList = [46, 46] ∧ (6 + j : Int) = 9) ∨ ((sgB j).data.toList = [58, 58] ∧ (6 + j : Int) = 10) := by
  have hh : j = 0 ∨ j = 1 ∨ j = 2 ∨ j = 3 ∨ j = 4 := by omega
  rcases hh with rfl | rfl | rfl | rfl | rfl
  · exact .inl ⟨rfl, rfl⟩
  · exact .inr (.inl ⟨rfl, rfl⟩)
  · exact .inr (.inr (.inl ⟨rfl, rfl⟩))
  · exact .inr (.inr (.inr (.inl ⟨rfl, rfl⟩)))
  · exact .inr (.inr (.inr (.inr ⟨rfl, rfl⟩)))
set_option maxHeartbeats 8000000 in
set_option maxRecDepth 100000 in
theorem parseBrackets_walk (a0 a1 : ByteArray) (w : World) (w0 : a0.size ≤ 140737488351232) (w1 : a1.size ≤ 140737488351232) :
    Calls Tryd.prog 11 #[.string a0, .string a1] w fun e w' => e = .returned (.bool true) ∧ Below w.heap.size w w' := by
  have CAW := fun W => awake26_any W
  obtain ⟨⟨n, pn, en⟩, hn⟩ : ∃ N, parseT a0 = N := ⟨_, rfl⟩
  have P0 : ∀ W, Calls Tryd.prog 22 #[.string a0] W (fun e_ w_ => ∃ A c, e_ = .returned (.tuple #[.agg #[.int .i64 n.f0, .string n.f1, .int .i64 n.f2, .int .u64 n.f3, .slice A n.f4.length c, .int .i64 n.f5], .int .i64 pn, .int .i64 en]) ∧ n.f4.length ≤ c ∧ Kd.C k44 w_ A n.f4.length n.f4 ∧ Below W.heap.size W w_) := fun W => by have := prs_any a0 W; rw [hn] at this; exact this
  have W1 : Hid (wt n ≤ 1000000) := Lib.hid (by have := prs_few a0; rw [hn] at this; exact Nat.le_trans this (by decide))
  obtain ⟨⟨m, pm, em⟩, hm⟩ : ∃ N, parseT a1 = N := ⟨_, rfl⟩
  have P1 : ∀ W, Calls Tryd.prog 22 #[.string a1] W (fun e_ w_ => ∃ A c, e_ = .returned (.tuple #[.agg #[.int .i64 m.f0, .string m.f1, .int .i64 m.f2, .int .u64 m.f3, .slice A m.f4.length c, .int .i64 m.f5], .int .i64 pm, .int .i64 em]) ∧ m.f4.length ≤ c ∧ Kd.C k44 w_ A m.f4.length m.f4 ∧ Below W.heap.size W w_) := fun W => by have := prs_any a1 W; rw [hm] at this; exact this
  have W2 : Hid (wt m ≤ 1000000) := Lib.hid (by have := prs_few a1; rw [hm] at this; exact Nat.le_trans this (by decide))
  have HOK : Hid (en = 0 → em = 0 → a0.size + a1.size ≤ 1000 → depthT n < 24 → depthT m < 24 → (∃ g, parseT (oneB a0) = (mp g n, 0, 0)) ∧ (∀ j : Nat, j < 5 → ∃ g1 g2, parseT (pairB a0 a1 (sgB j)) = (nd (6 + j) [mp g1 n, mp g2 m] ((a0.size + 2 : Nat) : Int), 0, 0)) ∧ ∃ g1 g2, parseT (callB a0 a1) = (⟨5, bs [102], 0, 0, [mp g1 n, mp g2 m], 0⟩, 0, 0)) := Lib.hid (fun e1 e2 e3 e4 e5 => by
    have f1 : (parseT a0).2.2 = 0 := by rw [hn]; exact e1
    have f2 : (parseT a1).2.2 = 0 := by rw [hm]; exact e2
    have f4 : depthT (parseT a0).1 < 24 := by rw [hn]; exact e4
    have f5 : depthT (parseT a1).1 < 24 := by rw [hm]; exact e5
    have r1 := one_ok f1 (by omega)
    have r2 := fun (j : Nat) (hj : j < 5) => pair_ok (s := sgB j) (op := 6 + j) f1 f2 e3 f4 f5 (sgB_opj j hj)
    have r3 := call_ok f1 f2 e3 f4 f5
    rw [hn] at r1 r2 r3
    rw [hm] at r2 r3
    exact ⟨r1, r2, r3⟩)
  have HWW : Hid (wt n + wt m ≤ 5000) := Lib.hid (by have e1 := prs_few a0; have e2 := prs_few a1; rw [hn] at e1; rw [hm] at e2; have e1 : wt n ≤ 2049 := e1; have e2 : wt m ≤ 2049 := e2; omega)
  clear hn hm
  go_enter Tryd.func11, Tryd.ntmps11
  go_upto_region 3 with (go_at_call 26; (with_reducible refine (CAW _).mono ?_); rintro e v0 ⟨rfl, hB⟩; have HB0 := Lib.hid hB; clear hB)
  clear CAW
  go_upto_region 4 with (go_at_call 22; (with_reducible refine (P0 _).mono ?_); rintro e v1 ⟨A1, c1, rfl, hl, hC, hB⟩; have HC1 := Lib.hid hC; have HL1 := Lib.hid hl; have HV1 := Lib.hid hB; clear hl hC hB)
  have HN1 := Lib.hid (blk_new v1 (Obj.cells #[.int .i64 n.f0, .string n.f1, .int .i64 n.f2, .int .u64 n.f3, .slice A1 n.f4.length c1, .int .i64 n.f5] 44))
  have HD1 := Lib.hid (Kd.C_below HC1.out (below_allocV v1 (Obj.cells #[.int .i64 n.f0, .string n.f1, .int .i64 n.f2, .int .u64 n.f3, .slice A1 n.f4.length c1, .int .i64 n.f5] 44)))
  have HZ1 : Hid (Below v0.heap.size v0 (v1.alloc (Obj.cells #[.int .i64 n.f0, .string n.f1, .int .i64 n.f2, .int .u64 n.f3, .slice A1 n.f4.length c1, .int .i64 n.f5] 44))) := Lib.hid (below_alloc HV1.out _)
  have HB1 := Lib.hid (below_step HB0.out HZ1.out)
  clear HC1 HV1 HZ1
  generalize v1.alloc (Obj.cells #[.int .i64 n.f0, .string n.f1, .int .i64 n.f2, .int .u64 n.f3, .slice A1 n.f4.length c1, .int .i64 n.f5] 44) = w4 at *
  generalize v1.heap.size = b5 at *
  go_upto_region 5 with (go_at_call 22; (with_reducible refine (P1 _).mono ?_); rintro e v2 ⟨A2, c2, rfl, hl, hC, hB⟩; have HC2 := Lib.hid hC; have HL2 := Lib.hid hl; have HV2 := Lib.hid hB; clear hl hC hB)
  have HN2 := Lib.hid (blk_new v2 (Obj.cells #[.int .i64 m.f0, .string m.f1, .int .i64 m.f2, .int .u64 m.f3, .slice A2 m.f4.length c2, .int .i64 m.f5] 44))
  have HD2 := Lib.hid (Kd.C_below HC2.out (below_allocV v2 (Obj.cells #[.int .i64 m.f0, .string m.f1, .int .i64 m.f2, .int .u64 m.f3, .slice A2 m.f4.length c2, .int .i64 m.f5] 44)))
  have HZ2 : Hid (Below w4.heap.size w4 (v2.alloc (Obj.cells #[.int .i64 m.f0, .string m.f1, .int .i64 m.f2, .int .u64 m.f3, .slice A2 m.f4.length c2, .int .i64 m.f5] 44))) := Lib.hid (below_alloc HV2.out _)
  have HB2 := Lib.hid (below_step HB1.out HZ2.out)
  have HN1 := Lib.hid (blk_belowU HZ2.out HN1.out)
  have HD1 := Lib.hid (Kd.C_below HD1.out HZ2.out)
  clear HC2 HV2 HZ2
  generalize v2.alloc (Obj.cells #[.int .i64 m.f0, .string m.f1, .int .i64 m.f2, .int .u64 m.f3, .slice A2 m.f4.length c2, .int .i64 m.f5] 44) = w5 at *
  generalize v2.heap.size = b8 at *
  clear P0 P1
  have KB := HB2
  clear HB0 HB1 HB2
  have tc0 : w5.cell? ⟨b5, 0, none⟩ = some (.int .i64 n.f0) := (blk_cell HN1.out 0).trans rfl
  have tc1 : w5.cell? ⟨b5, 1, none⟩ = some (.string n.f1) := (blk_cell HN1.out 1).trans rfl
  have tc2 : w5.cell? ⟨b5, 2, none⟩ = some (.int .i64 n.f2) := (blk_cell HN1.out 2).trans rfl
  have tc3 : w5.cell? ⟨b5, 3, none⟩ = some (.int .u64 n.f3) := (blk_cell HN1.out 3).trans rfl
  have tc4 : w5.cell? ⟨b5, 4, none⟩ = some (.slice A1 n.f4.length c1) := (blk_cell HN1.out 4).trans rfl
  have tc5 : w5.cell? ⟨b5, 5, none⟩ = some (.int .i64 n.f5) := (blk_cell HN1.out 5).trans rfl
  have uc0 : w5.cell? ⟨b8, 0, none⟩ = some (.int .i64 m.f0) := (blk_cell HN2.out 0).trans rfl
  have uc1 : w5.cell? ⟨b8, 1, none⟩ = some (.string m.f1) := (blk_cell HN2.out 1).trans rfl
  have uc2 : w5.cell? ⟨b8, 2, none⟩ = some (.int .i64 m.f2) := (blk_cell HN2.out 2).trans rfl
  have uc3 : w5.cell? ⟨b8, 3, none⟩ = some (.int .u64 m.f3) := (blk_cell HN2.out 3).trans rfl
  have uc4 : w5.cell? ⟨b8, 4, none⟩ = some (.slice A2 m.f4.length c2) := (blk_cell HN2.out 4).trans rfl
  have uc5 : w5.cell? ⟨b8, 5, none⟩ = some (.int .i64 m.f5) := (blk_cell HN2.out 5).trans rfl
  have hws : wrap64 ((a0.size : Int) + (a1.size : Int)) = (a0.size : Int) + (a1.size : Int) := by unfold wrap64; omega
  by_cases h1 : en = 0
  · have q1 : (en != 0) = false := by rw [h1]; rfl
    by_cases h2 : em = 0
    · have q2 : (em != 0) = false := by rw [h2]; rfl
      by_cases h3 : a0.size + a1.size ≤ 1000
      · have q3 : decide ((1000 : Int) < (a0.size : Int) + (a1.size : Int)) = false := decide_eq_false (by omega)
        by_cases h4 : depthT n < 24
        · have q4 : decide ((24 : Int) ≤ (depthT n : Int)) = false := decide_eq_false (by omega)
          by_cases h5 : depthT m < 24
          · have q5 : decide ((24 : Int) ≤ (depthT m : Int)) = false := decide_eq_false (by omega)
            obtain ⟨⟨g, hx⟩, hy, hz⟩ := HOK.out h1 h2 h3 h4 h5
            have HZ := Lib.hid hz
            have HY := Lib.hid hy
            have HX := Lib.hid hx
            clear hx hy hz HOK h1 h2 h3 h4 h5
            go_upto_region 7 with (first | (go_at_call 25; (with_reducible refine (node_any n W1.out A1 c1 HL1.out _ ?_).mono ?_); (first | exact HD1.out | exact Kd.C_below HD1.out (below_drew1 (Below.refl _ _))); rintro e_ k1 ⟨A7, c7, rfl, hl, hC, hB⟩; (try replace hB := below_undrew hB); replace KB := Lib.hid (below_step KB.out hB); replace HN1 := Lib.hid (blk_belowU hB HN1.out); replace HN2 := Lib.hid (blk_belowU hB HN2.out); replace HD1 := Lib.hid (Kd.C_below HD1.out hB); replace HD2 := Lib.hid (Kd.C_below HD2.out hB); replace tc0 : k1.cell? ⟨b5, 0, none⟩ = some (.int .i64 n.f0) := (blk_cell HN1.out 0).trans rfl; replace tc1 : k1.cell? ⟨b5, 1, none⟩ = some (.string n.f1) := (blk_cell HN1.out 1).trans rfl; replace tc2 : k1.cell? ⟨b5, 2, none⟩ = some (.int .i64 n.f2) := (blk_cell HN1.out 2).trans rfl; replace tc3 : k1.cell? ⟨b5, 3, none⟩ = some (.int .u64 n.f3) := (blk_cell HN1.out 3).trans rfl; replace tc4 : k1.cell? ⟨b5, 4, none⟩ = some (.slice A1 n.f4.length c1) := (blk_cell HN1.out 4).trans rfl; replace tc5 : k1.cell? ⟨b5, 5, none⟩ = some (.int .i64 n.f5) := (blk_cell HN1.out 5).trans rfl; replace uc0 : k1.cell? ⟨b8, 0, none⟩ = some (.int .i64 m.f0) := (blk_cell HN2.out 0).trans rfl; replace uc1 : k1.cell? ⟨b8, 1, none⟩ = some (.string m.f1) := (blk_cell HN2.out 1).trans rfl; replace uc2 : k1.cell? ⟨b8, 2, none⟩ = some (.int .i64 m.f2) := (blk_cell HN2.out 2).trans rfl; replace uc3 : k1.cell? ⟨b8, 3, none⟩ = some (.int .u64 m.f3) := (blk_cell HN2.out 3).trans rfl; replace uc4 : k1.cell? ⟨b8, 4, none⟩ = some (.slice A2 m.f4.length c2) := (blk_cell HN2.out 4).trans rfl; replace uc5 : k1.cell? ⟨b8, 5, none⟩ = some (.int .i64 m.f5) := (blk_cell HN2.out 5).trans rfl; have HE1 := Lib.hid hC; have HL7 := Lib.hid hl; clear hl hC hB) | (go_at_call 31; (with_reducible refine (depth_any n W1.out A7 c7 HL7.out _ HE1.out).mono ?_); rintro e_ k2 ⟨rfl, hB⟩; (try replace hB := below_undrew hB); replace KB := Lib.hid (below_step KB.out hB); replace HN1 := Lib.hid (blk_belowU hB HN1.out); replace HN2 := Lib.hid (blk_belowU hB HN2.out); replace HD1 := Lib.hid (Kd.C_below HD1.out hB); replace HD2 := Lib.hid (Kd.C_below HD2.out hB); replace tc0 : k2.cell? ⟨b5, 0, none⟩ = some (.int .i64 n.f0) := (blk_cell HN1.out 0).trans rfl; replace tc1 : k2.cell? ⟨b5, 1, none⟩ = some (.string n.f1) := (blk_cell HN1.out 1).trans rfl; replace tc2 : k2.cell? ⟨b5, 2, none⟩ = some (.int .i64 n.f2) := (blk_cell HN1.out 2).trans rfl; replace tc3 : k2.cell? ⟨b5, 3, none⟩ = some (.int .u64 n.f3) := (blk_cell HN1.out 3).trans rfl; replace tc4 : k2.cell? ⟨b5, 4, none⟩ = some (.slice A1 n.f4.length c1) := (blk_cell HN1.out 4).trans rfl; replace tc5 : k2.cell? ⟨b5, 5, none⟩ = some (.int .i64 n.f5) := (blk_cell HN1.out 5).trans rfl; replace uc0 : k2.cell? ⟨b8, 0, none⟩ = some (.int .i64 m.f0) := (blk_cell HN2.out 0).trans rfl; replace uc1 : k2.cell? ⟨b8, 1, none⟩ = some (.string m.f1) := (blk_cell HN2.out 1).trans rfl; replace uc2 : k2.cell? ⟨b8, 2, none⟩ = some (.int .i64 m.f2) := (blk_cell HN2.out 2).trans rfl; replace uc3 : k2.cell? ⟨b8, 3, none⟩ = some (.int .u64 m.f3) := (blk_cell HN2.out 3).trans rfl; replace uc4 : k2.cell? ⟨b8, 4, none⟩ = some (.slice A2 m.f4.length c2) := (blk_cell HN2.out 4).trans rfl; replace uc5 : k2.cell? ⟨b8, 5, none⟩ = some (.int .i64 m.f5) := (blk_cell HN2.out 5).trans rfl; clear hB) | (go_at_call 25; (with_reducible refine (node_any m W2.out A2 c2 HL2.out _ ?_).mono ?_); (first | exact HD2.out | exact Kd.C_below HD2.out (below_drew1 (Below.refl _ _))); rintro e_ k3 ⟨A8, c8, rfl, hl, hC, hB⟩; (try replace hB := below_undrew hB); replace KB := Lib.hid (below_step KB.out hB); replace HN1 := Lib.hid (blk_belowU hB HN1.out); replace HN2 := Lib.hid (blk_belowU hB HN2.out); replace HD1 := Lib.hid (Kd.C_below HD1.out hB); replace HD2 := Lib.hid (Kd.C_below HD2.out hB); replace tc0 : k3.cell? ⟨b5, 0, none⟩ = some (.int .i64 n.f0) := (blk_cell HN1.out 0).trans rfl; replace tc1 : k3.cell? ⟨b5, 1, none⟩ = some (.string n.f1) := (blk_cell HN1.out 1).trans rfl; replace tc2 : k3.cell? ⟨b5, 2, none⟩ = some (.int .i64 n.f2) := (blk_cell HN1.out 2).trans rfl; replace tc3 : k3.cell? ⟨b5, 3, none⟩ = some (.int .u64 n.f3) := (blk_cell HN1.out 3).trans rfl; replace tc4 : k3.cell? ⟨b5, 4, none⟩ = some (.slice A1 n.f4.length c1) := (blk_cell HN1.out 4).trans rfl; replace tc5 : k3.cell? ⟨b5, 5, none⟩ = some (.int .i64 n.f5) := (blk_cell HN1.out 5).trans rfl; replace uc0 : k3.cell? ⟨b8, 0, none⟩ = some (.int .i64 m.f0) := (blk_cell HN2.out 0).trans rfl; replace uc1 : k3.cell? ⟨b8, 1, none⟩ = some (.string m.f1) := (blk_cell HN2.out 1).trans rfl; replace uc2 : k3.cell? ⟨b8, 2, none⟩ = some (.int .i64 m.f2) := (blk_cell HN2.out 2).trans rfl; replace uc3 : k3.cell? ⟨b8, 3, none⟩ = some (.int .u64 m.f3) := (blk_cell HN2.out 3).trans rfl; replace uc4 : k3.cell? ⟨b8, 4, none⟩ = some (.slice A2 m.f4.length c2) := (blk_cell HN2.out 4).trans rfl; replace uc5 : k3.cell? ⟨b8, 5, none⟩ = some (.int .i64 m.f5) := (blk_cell HN2.out 5).trans rfl; have HE2 := Lib.hid hC; have HL8 := Lib.hid hl; clear hl hC hB) | (go_at_call 31; (with_reducible refine (depth_any m W2.out A8 c8 HL8.out _ HE2.out).mono ?_); rintro e_ k4 ⟨rfl, hB⟩; (try replace hB := below_undrew hB); replace KB := Lib.hid (below_step KB.out hB); replace HN1 := Lib.hid (blk_belowU hB HN1.out); replace HN2 := Lib.hid (blk_belowU hB HN2.out); replace HD1 := Lib.hid (Kd.C_below HD1.out hB); replace HD2 := Lib.hid (Kd.C_below HD2.out hB); replace tc0 : k4.cell? ⟨b5, 0, none⟩ = some (.int .i64 n.f0) := (blk_cell HN1.out 0).trans rfl; replace tc1 : k4.cell? ⟨b5, 1, none⟩ = some (.string n.f1) := (blk_cell HN1.out 1).trans rfl; replace tc2 : k4.cell? ⟨b5, 2, none⟩ = some (.int .i64 n.f2) := (blk_cell HN1.out 2).trans rfl; replace tc3 : k4.cell? ⟨b5, 3, none⟩ = some (.int .u64 n.f3) := (blk_cell HN1.out 3).trans rfl; replace tc4 : k4.cell? ⟨b5, 4, none⟩ = some (.slice A1 n.f4.length c1) := (blk_cell HN1.out 4).trans rfl; replace tc5 : k4.cell? ⟨b5, 5, none⟩ = some (.int .i64 n.f5) := (blk_cell HN1.out 5).trans rfl; replace uc0 : k4.cell? ⟨b8, 0, none⟩ = some (.int .i64 m.f0) := (blk_cell HN2.out 0).trans rfl; replace uc1 : k4.cell? ⟨b8, 1, none⟩ = some (.string m.f1) := (blk_cell HN2.out 1).trans rfl; replace uc2 : k4.cell? ⟨b8, 2, none⟩ = some (.int .i64 m.f2) := (blk_cell HN2.out 2).trans rfl; replace uc3 : k4.cell? ⟨b8, 3, none⟩ = some (.int .u64 m.f3) := (blk_cell HN2.out 3).trans rfl; replace uc4 : k4.cell? ⟨b8, 4, none⟩ = some (.slice A2 m.f4.length c2) := (blk_cell HN2.out 4).trans rfl; replace uc5 : k4.cell? ⟨b8, 5, none⟩ = some (.int .i64 m.f5) := (blk_cell HN2.out 5).trans rfl; clear hB))
            obtain ⟨x, hxe⟩ : ∃ x, x = mp g n := ⟨_, rfl⟩
            have HS1 : Hid (sameT false x n = true) := Lib.hid (by rw [hxe]; exact same_mp g (wt n) n (Nat.le_refl _))
            rw [← hxe] at HX
            clear hxe
            have P2 : ∀ W, Calls Tryd.prog 22 #[.string (((⟨#[32, 40, 32]⟩ : ByteArray) ++ a0) ++ (⟨#[32, 41, 32]⟩ : ByteArray))] W (fun e_ w_ => ∃ A c, e_ = .returned (.tuple #[.agg #[.int .i64 x.f0, .string x.f1, .int .i64 x.f2, .int .u64 x.f3, .slice A x.f4.length c, .int .i64 x.f5], .int .i64 0, .int .i64 0]) ∧ x.f4.length ≤ c ∧ Kd.C k44 w_ A x.f4.length x.f4 ∧ Below W.heap.size W w_) := fun W => by have := prs_any (oneB a0) W; rw [HX.out] at this; exact this
            have W3 : Hid (wt x ≤ 1000000) := Lib.hid (by have := prs_few (oneB a0); rw [HX.out] at this; exact Nat.le_trans this (by decide))
            clear HX
            go_upto_region 8 with (go_at_call 22; (with_reducible refine (P2 _).mono ?_); rintro e v3 ⟨A3, c3, rfl, hl, hC, hB⟩; have HC3 := Lib.hid hC; have HL3 := Lib.hid hl; have HV3 := Lib.hid hB; clear hl hC hB)
            have HB2 := KB
            clear P2
            have HN3 := Lib.hid (blk_new v3 (Obj.cells #[.int .i64 x.f0, .string x.f1, .int .i64 x.f2, .int .u64 x.f3, .slice A3 x.f4.length c3, .int .i64 x.f5] 44))
            have HD3 := Lib.hid (Kd.C_below HC3.out (below_allocV v3 (Obj.cells #[.int .i64 x.f0, .string x.f1, .int .i64 x.f2, .int .u64 x.f3, .slice A3 x.f4.length c3, .int .i64 x.f5] 44)))
            have HZ3 : Hid (Below k4.heap.size k4 (v3.alloc (Obj.cells #[.int .i64 x.f0, .string x.f1, .int .i64 x.f2, .int .u64 x.f3, .slice A3 x.f4.length c3, .int .i64 x.f5] 44))) := Lib.hid (below_alloc HV3.out _)
            have HB3 := Lib.hid (below_step HB2.out HZ3.out)
            have HN1 := Lib.hid (blk_belowU HZ3.out HN1.out)
            have HN2 := Lib.hid (blk_belowU HZ3.out HN2.out)
            have HD1 := Lib.hid (Kd.C_below HD1.out HZ3.out)
            have HD2 := Lib.hid (Kd.C_below HD2.out HZ3.out)
            clear HC3 HV3 HZ3
            generalize v3.alloc (Obj.cells #[.int .i64 x.f0, .string x.f1, .int .i64 x.f2, .int .u64 x.f3, .slice A3 x.f4.length c3, .int .i64 x.f5] 44) = w6 at *
            generalize v3.heap.size = b11 at *
            replace KB := HB3
            clear HB2 HB3
            replace tc0 : w6.cell? ⟨b5, 0, none⟩ = some (.int .i64 n.f0) := (blk_cell HN1.out 0).trans rfl
            replace tc1 : w6.cell? ⟨b5, 1, none⟩ = some (.string n.f1) := (blk_cell HN1.out 1).trans rfl
            replace tc2 : w6.cell? ⟨b5, 2, none⟩ = some (.int .i64 n.f2) := (blk_cell HN1.out 2).trans rfl
            replace tc3 : w6.cell? ⟨b5, 3, none⟩ = some (.int .u64 n.f3) := (blk_cell HN1.out 3).trans rfl
            replace tc4 : w6.cell? ⟨b5, 4, none⟩ = some (.slice A1 n.f4.length c1) := (blk_cell HN1.out 4).trans rfl
            replace tc5 : w6.cell? ⟨b5, 5, none⟩ = some (.int .i64 n.f5) := (blk_cell HN1.out 5).trans rfl
            replace uc0 : w6.cell? ⟨b8, 0, none⟩ = some (.int .i64 m.f0) := (blk_cell HN2.out 0).trans rfl
            replace uc1 : w6.cell? ⟨b8, 1, none⟩ = some (.string m.f1) := (blk_cell HN2.out 1).trans rfl
            replace uc2 : w6.cell? ⟨b8, 2, none⟩ = some (.int .i64 m.f2) := (blk_cell HN2.out 2).trans rfl
            replace uc3 : w6.cell? ⟨b8, 3, none⟩ = some (.int .u64 m.f3) := (blk_cell HN2.out 3).trans rfl
            replace uc4 : w6.cell? ⟨b8, 4, none⟩ = some (.slice A2 m.f4.length c2) := (blk_cell HN2.out 4).trans rfl
            replace uc5 : w6.cell? ⟨b8, 5, none⟩ = some (.int .i64 m.f5) := (blk_cell HN2.out 5).trans rfl
            have vc0 : w6.cell? ⟨b11, 0, none⟩ = some (.int .i64 x.f0) := (blk_cell HN3.out 0).trans rfl
            have vc1 : w6.cell? ⟨b11, 1, none⟩ = some (.string x.f1) := (blk_cell HN3.out 1).trans rfl
            have vc2 : w6.cell? ⟨b11, 2, none⟩ = some (.int .i64 x.f2) := (blk_cell HN3.out 2).trans rfl
            have vc3 : w6.cell? ⟨b11, 3, none⟩ = some (.int .u64 x.f3) := (blk_cell HN3.out 3).trans rfl
            have vc4 : w6.cell? ⟨b11, 4, none⟩ = some (.slice A3 x.f4.length c3) := (blk_cell HN3.out 4).trans rfl
            have vc5 : w6.cell? ⟨b11, 5, none⟩ = some (.int .i64 x.f5) := (blk_cell HN3.out 5).trans rfl
            go_region_held3 (fun w' => w'.cell? ⟨b11, 0, none⟩ = some (.int .i64 x.f0) ∧ w'.cell? ⟨b11, 1, none⟩ = some (.string x.f1) ∧ w'.cell? ⟨b11, 2, none⟩ = some (.int .i64 x.f2) ∧ w'.cell? ⟨b11, 3, none⟩ = some (.int .u64 x.f3) ∧ w'.cell? ⟨b11, 4, none⟩ = some (.slice A3 x.f4.length c3) ∧ w'.cell? ⟨b11, 5, none⟩ = some (.int .i64 x.f5) ∧ w'.cell? ⟨b5, 0, none⟩ = some (.int .i64 n.f0) ∧ w'.cell? ⟨b5, 1, none⟩ = some (.string n.f1) ∧ w'.cell? ⟨b5, 2, none⟩ = some (.int .i64 n.f2) ∧ w'.cell? ⟨b5, 3, none⟩ = some (.int .u64 n.f3) ∧ w'.cell? ⟨b5, 4, none⟩ = some (.slice A1 n.f4.length c1) ∧ w'.cell? ⟨b5, 5, none⟩ = some (.int .i64 n.f5)) ((repeat' apply And.intro) <;> (first | assumption | exact cell_drew (by assumption))) (first | (go_at_call 25; (with_reducible refine (node_any x W3.out A3 c3 HL3.out _ ?_).mono ?_); (first | exact HD3.out | exact Kd.C_below HD3.out (below_drew1 (Below.refl _ _))); rintro e_ k5 ⟨A9, c9, rfl, hl, hC, hB⟩; (try replace hB := below_undrew hB); replace KB := Lib.hid (below_step KB.out hB); replace HN1 := Lib.hid (blk_belowU hB HN1.out); replace HN2 := Lib.hid (blk_belowU hB HN2.out); replace HN3 := Lib.hid (blk_belowU hB HN3.out); replace HD1 := Lib.hid (Kd.C_below HD1.out hB); replace HD2 := Lib.hid (Kd.C_below HD2.out hB); replace HD3 := Lib.hid (Kd.C_below HD3.out hB); replace tc0 : k5.cell? ⟨b5, 0, none⟩ = some (.int .i64 n.f0) := (blk_cell HN1.out 0).trans rfl; replace tc1 : k5.cell? ⟨b5, 1, none⟩ = some (.string n.f1) := (blk_cell HN1.out 1).trans rfl; replace tc2 : k5.cell? ⟨b5, 2, none⟩ = some (.int .i64 n.f2) := (blk_cell HN1.out 2).trans rfl; replace tc3 : k5.cell? ⟨b5, 3, none⟩ = some (.int .u64 n.f3) := (blk_cell HN1.out 3).trans rfl; replace tc4 : k5.cell? ⟨b5, 4, none⟩ = some (.slice A1 n.f4.length c1) := (blk_cell HN1.out 4).trans rfl; replace tc5 : k5.cell? ⟨b5, 5, none⟩ = some (.int .i64 n.f5) := (blk_cell HN1.out 5).trans rfl; replace uc0 : k5.cell? ⟨b8, 0, none⟩ = some (.int .i64 m.f0) := (blk_cell HN2.out 0).trans rfl; replace uc1 : k5.cell? ⟨b8, 1, none⟩ = some (.string m.f1) := (blk_cell HN2.out 1).trans rfl; replace uc2 : k5.cell? ⟨b8, 2, none⟩ = some (.int .i64 m.f2) := (blk_cell HN2.out 2).trans rfl; replace uc3 : k5.cell? ⟨b8, 3, none⟩ = some (.int .u64 m.f3) := (blk_cell HN2.out 3).trans rfl; replace uc4 : k5.cell? ⟨b8, 4, none⟩ = some (.slice A2 m.f4.length c2) := (blk_cell HN2.out 4).trans rfl; replace uc5 : k5.cell? ⟨b8, 5, none⟩ = some (.int .i64 m.f5) := (blk_cell HN2.out 5).trans rfl; replace vc0 : k5.cell? ⟨b11, 0, none⟩ = some (.int .i64 x.f0) := (blk_cell HN3.out 0).trans rfl; replace vc1 : k5.cell? ⟨b11, 1, none⟩ = some (.string x.f1) := (blk_cell HN3.out 1).trans rfl; replace vc2 : k5.cell? ⟨b11, 2, none⟩ = some (.int .i64 x.f2) := (blk_cell HN3.out 2).trans rfl; replace vc3 : k5.cell? ⟨b11, 3, none⟩ = some (.int .u64 x.f3) := (blk_cell HN3.out 3).trans rfl; replace vc4 : k5.cell? ⟨b11, 4, none⟩ = some (.slice A3 x.f4.length c3) := (blk_cell HN3.out 4).trans rfl; replace vc5 : k5.cell? ⟨b11, 5, none⟩ = some (.int .i64 x.f5) := (blk_cell HN3.out 5).trans rfl; have HE3 := Lib.hid hC; have HL9 := Lib.hid hl; clear hl hC hB) | (go_at_call 25; (with_reducible refine (node_any n W1.out A1 c1 HL1.out _ ?_).mono ?_); (first | exact HD1.out | exact Kd.C_below HD1.out (below_drew1 (Below.refl _ _))); rintro e_ k6 ⟨A10, c10, rfl, hl, hC, hB⟩; (try replace hB := below_undrew hB); replace KB := Lib.hid (below_step KB.out hB); replace HN1 := Lib.hid (blk_belowU hB HN1.out); replace HN2 := Lib.hid (blk_belowU hB HN2.out); replace HN3 := Lib.hid (blk_belowU hB HN3.out); replace HD1 := Lib.hid (Kd.C_below HD1.out hB); replace HD2 := Lib.hid (Kd.C_below HD2.out hB); replace HD3 := Lib.hid (Kd.C_below HD3.out hB); replace HE3 := Lib.hid (Kd.C_below HE3.out hB); replace tc0 : k6.cell? ⟨b5, 0, none⟩ = some (.int .i64 n.f0) := (blk_cell HN1.out 0).trans rfl; replace tc1 : k6.cell? ⟨b5, 1, none⟩ = some (.string n.f1) := (blk_cell HN1.out 1).trans rfl; replace tc2 : k6.cell? ⟨b5, 2, none⟩ = some (.int .i64 n.f2) := (blk_cell HN1.out 2).trans rfl; replace tc3 : k6.cell? ⟨b5, 3, none⟩ = some (.int .u64 n.f3) := (blk_cell HN1.out 3).trans rfl; replace tc4 : k6.cell? ⟨b5, 4, none⟩ = some (.slice A1 n.f4.length c1) := (blk_cell HN1.out 4).trans rfl; replace tc5 : k6.cell? ⟨b5, 5, none⟩ = some (.int .i64 n.f5) := (blk_cell HN1.out 5).trans rfl; replace uc0 : k6.cell? ⟨b8, 0, none⟩ = some (.int .i64 m.f0) := (blk_cell HN2.out 0).trans rfl; replace uc1 : k6.cell? ⟨b8, 1, none⟩ = some (.string m.f1) := (blk_cell HN2.out 1).trans rfl; replace uc2 : k6.cell? ⟨b8, 2, none⟩ = some (.int .i64 m.f2) := (blk_cell HN2.out 2).trans rfl; replace uc3 : k6.cell? ⟨b8, 3, none⟩ = some (.int .u64 m.f3) := (blk_cell HN2.out 3).trans rfl; replace uc4 : k6.cell? ⟨b8, 4, none⟩ = some (.slice A2 m.f4.length c2) := (blk_cell HN2.out 4).trans rfl; replace uc5 : k6.cell? ⟨b8, 5, none⟩ = some (.int .i64 m.f5) := (blk_cell HN2.out 5).trans rfl; replace vc0 : k6.cell? ⟨b11, 0, none⟩ = some (.int .i64 x.f0) := (blk_cell HN3.out 0).trans rfl; replace vc1 : k6.cell? ⟨b11, 1, none⟩ = some (.string x.f1) := (blk_cell HN3.out 1).trans rfl; replace vc2 : k6.cell? ⟨b11, 2, none⟩ = some (.int .i64 x.f2) := (blk_cell HN3.out 2).trans rfl; replace vc3 : k6.cell? ⟨b11, 3, none⟩ = some (.int .u64 x.f3) := (blk_cell HN3.out 3).trans rfl; replace vc4 : k6.cell? ⟨b11, 4, none⟩ = some (.slice A3 x.f4.length c3) := (blk_cell HN3.out 4).trans rfl; replace vc5 : k6.cell? ⟨b11, 5, none⟩ = some (.int .i64 x.f5) := (blk_cell HN3.out 5).trans rfl; have HE4 := Lib.hid hC; have HL10 := Lib.hid hl; clear hl hC hB) | (go_at_call 28; (with_reducible refine (same_any false x n W3.out W1.out A9 A10 c9 c10 HL9.out HL10.out _ HE3.out HE4.out).mono ?_); rintro e_ k7 ⟨he, hB⟩; rw [HS1.out] at he; subst he; (try replace hB := below_undrew hB); replace KB := Lib.hid (below_step KB.out hB); replace HN1 := Lib.hid (blk_belowU hB HN1.out); replace HN2 := Lib.hid (blk_belowU hB HN2.out); replace HN3 := Lib.hid (blk_belowU hB HN3.out); replace HD1 := Lib.hid (Kd.C_below HD1.out hB); replace HD2 := Lib.hid (Kd.C_below HD2.out hB); replace HD3 := Lib.hid (Kd.C_below HD3.out hB); replace tc0 : k7.cell? ⟨b5, 0, none⟩ = some (.int .i64 n.f0) := (blk_cell HN1.out 0).trans rfl; replace tc1 : k7.cell? ⟨b5, 1, none⟩ = some (.string n.f1) := (blk_cell HN1.out 1).trans rfl; replace tc2 : k7.cell? ⟨b5, 2, none⟩ = some (.int .i64 n.f2) := (blk_cell HN1.out 2).trans rfl; replace tc3 : k7.cell? ⟨b5, 3, none⟩ = some (.int .u64 n.f3) := (blk_cell HN1.out 3).trans rfl; replace tc4 : k7.cell? ⟨b5, 4, none⟩ = some (.slice A1 n.f4.length c1) := (blk_cell HN1.out 4).trans rfl; replace tc5 : k7.cell? ⟨b5, 5, none⟩ = some (.int .i64 n.f5) := (blk_cell HN1.out 5).trans rfl; replace uc0 : k7.cell? ⟨b8, 0, none⟩ = some (.int .i64 m.f0) := (blk_cell HN2.out 0).trans rfl; replace uc1 : k7.cell? ⟨b8, 1, none⟩ = some (.string m.f1) := (blk_cell HN2.out 1).trans rfl; replace uc2 : k7.cell? ⟨b8, 2, none⟩ = some (.int .i64 m.f2) := (blk_cell HN2.out 2).trans rfl; replace uc3 : k7.cell? ⟨b8, 3, none⟩ = some (.int .u64 m.f3) := (blk_cell HN2.out 3).trans rfl; replace uc4 : k7.cell? ⟨b8, 4, none⟩ = some (.slice A2 m.f4.length c2) := (blk_cell HN2.out 4).trans rfl; replace uc5 : k7.cell? ⟨b8, 5, none⟩ = some (.int .i64 m.f5) := (blk_cell HN2.out 5).trans rfl; replace vc0 : k7.cell? ⟨b11, 0, none⟩ = some (.int .i64 x.f0) := (blk_cell HN3.out 0).trans rfl; replace vc1 : k7.cell? ⟨b11, 1, none⟩ = some (.string x.f1) := (blk_cell HN3.out 1).trans rfl; replace vc2 : k7.cell? ⟨b11, 2, none⟩ = some (.int .i64 x.f2) := (blk_cell HN3.out 2).trans rfl; replace vc3 : k7.cell? ⟨b11, 3, none⟩ = some (.int .u64 x.f3) := (blk_cell HN3.out 3).trans rfl; replace vc4 : k7.cell? ⟨b11, 4, none⟩ = some (.slice A3 x.f4.length c3) := (blk_cell HN3.out 4).trans rfl; replace vc5 : k7.cell? ⟨b11, 5, none⟩ = some (.int .i64 x.f5) := (blk_cell HN3.out 5).trans rfl; clear hB))
            clear HN3 HD3 HL3 W3 HS1 vc0 vc1 vc2 vc3 vc4 vc5
            go_upto_region 11 with (fail)
            have HB7 := Lib.hid (blk_new k7 (Obj.cells #[.string (⟨#[124]⟩ : ByteArray), .string (⟨#[45]⟩ : ByteArray), .string (⟨#[38]⟩ : ByteArray), .string (⟨#[46, 46]⟩ : ByteArray), .string (⟨#[58, 58]⟩ : ByteArray)] 56))
            have hB := below_allocV k7 (Obj.cells #[.string (⟨#[124]⟩ : ByteArray), .string (⟨#[45]⟩ : ByteArray), .string (⟨#[38]⟩ : ByteArray), .string (⟨#[46, 46]⟩ : ByteArray), .string (⟨#[58, 58]⟩ : ByteArray)] 56)
            replace KB := Lib.hid (below_step KB.out hB)
            replace HN1 := Lib.hid (blk_belowU hB HN1.out)
            replace HN2 := Lib.hid (blk_belowU hB HN2.out)
            replace HD1 := Lib.hid (Kd.C_below HD1.out hB)
            replace HD2 := Lib.hid (Kd.C_below HD2.out hB)
            replace tc0 : (k7.alloc (Obj.cells #[.string (⟨#[124]⟩ : ByteArray), .string (⟨#[45]⟩ : ByteArray), .string (⟨#[38]⟩ : ByteArray), .string (⟨#[46, 46]⟩ : ByteArray), .string (⟨#[58, 58]⟩ : ByteArray)] 56)).cell? ⟨b5, 0, none⟩ = some (.int .i64 n.f0) := (blk_cell HN1.out 0).trans rfl
            replace tc1 : (k7.alloc (Obj.cells #[.string (⟨#[124]⟩ : ByteArray), .string (⟨#[45]⟩ : ByteArray), .string (⟨#[38]⟩ : ByteArray), .string (⟨#[46, 46]⟩ : ByteArray), .string (⟨#[58, 58]⟩ : ByteArray)] 56)).cell? ⟨b5, 1, none⟩ = some (.string n.f1) := (blk_cell HN1.out 1).trans rfl
            replace tc2 : (k7.alloc (Obj.cells #[.string (⟨#[124]⟩ : ByteArray), .string (⟨#[45]⟩ : ByteArray), .string (⟨#[38]⟩ : ByteArray), .string (⟨#[46, 46]⟩ : ByteArray), .string (⟨#[58, 58]⟩ : ByteArray)] 56)).cell? ⟨b5, 2, none⟩ = some (.int .i64 n.f2) := (blk_cell HN1.out 2).trans rfl
            replace tc3 : (k7.alloc (Obj.cells #[.string (⟨#[124]⟩ : ByteArray), .string (⟨#[45]⟩ : ByteArray), .string (⟨#[38]⟩ : ByteArray), .string (⟨#[46, 46]⟩ : ByteArray), .string (⟨#[58, 58]⟩ : ByteArray)] 56)).cell? ⟨b5, 3, none⟩ = some (.int .u64 n.f3) := (blk_cell HN1.out 3).trans rfl
            replace tc4 : (k7.alloc (Obj.cells #[.string (⟨#[124]⟩ : ByteArray), .string (⟨#[45]⟩ : ByteArray), .string (⟨#[38]⟩ : ByteArray), .string (⟨#[46, 46]⟩ : ByteArray), .string (⟨#[58, 58]⟩ : ByteArray)] 56)).cell? ⟨b5, 4, none⟩ = some (.slice A1 n.f4.length c1) := (blk_cell HN1.out 4).trans rfl
            replace tc5 : (k7.alloc (Obj.cells #[.string (⟨#[124]⟩ : ByteArray), .string (⟨#[45]⟩ : ByteArray), .string (⟨#[38]⟩ : ByteArray), .string (⟨#[46, 46]⟩ : ByteArray), .string (⟨#[58, 58]⟩ : ByteArray)] 56)).cell? ⟨b5, 5, none⟩ = some (.int .i64 n.f5) := (blk_cell HN1.out 5).trans rfl
            replace uc0 : (k7.alloc (Obj.cells #[.string (⟨#[124]⟩ : ByteArray), .string (⟨#[45]⟩ : ByteArray), .string (⟨#[38]⟩ : ByteArray), .string (⟨#[46, 46]⟩ : ByteArray), .string (⟨#[58, 58]⟩ : ByteArray)] 56)).cell? ⟨b8, 0, none⟩ = some (.int .i64 m.f0) := (blk_cell HN2.out 0).trans rfl
            replace uc1 : (k7.alloc (Obj.cells #[.string (⟨#[124]⟩ : ByteArray), .string (⟨#[45]⟩ : ByteArray), .string (⟨#[38]⟩ : ByteArray), .string (⟨#[46, 46]⟩ : ByteArray), .string (⟨#[58, 58]⟩ : ByteArray)] 56)).cell? ⟨b8, 1, none⟩ = some (.string m.f1) := (blk_cell HN2.out 1).trans rfl
            replace uc2 : (k7.alloc (Obj.cells #[.string (⟨#[124]⟩ : ByteArray), .string (⟨#[45]⟩ : ByteArray), .string (⟨#[38]⟩ : ByteArray), .string (⟨#[46, 46]⟩ : ByteArray), .string (⟨#[58, 58]⟩ : ByteArray)] 56)).cell? ⟨b8, 2, none⟩ = some (.int .i64 m.f2) := (blk_cell HN2.out 2).trans rfl
            replace uc3 : (k7.alloc (Obj.cells #[.string (⟨#[124]⟩ : ByteArray), .string (⟨#[45]⟩ : ByteArray), .string (⟨#[38]⟩ : ByteArray), .string (⟨#[46, 46]⟩ : ByteArray), .string (⟨#[58, 58]⟩ : ByteArray)] 56)).cell? ⟨b8, 3, none⟩ = some (.int .u64 m.f3) := (blk_cell HN2.out 3).trans rfl
            replace uc4 : (k7.alloc (Obj.cells #[.string (⟨#[124]⟩ : ByteArray), .string (⟨#[45]⟩ : ByteArray), .string (⟨#[38]⟩ : ByteArray), .string (⟨#[46, 46]⟩ : ByteArray), .string (⟨#[58, 58]⟩ : ByteArray)] 56)).cell? ⟨b8, 4, none⟩ = some (.slice A2 m.f4.length c2) := (blk_cell HN2.out 4).trans rfl
            replace uc5 : (k7.alloc (Obj.cells #[.string (⟨#[124]⟩ : ByteArray), .string (⟨#[45]⟩ : ByteArray), .string (⟨#[38]⟩ : ByteArray), .string (⟨#[46, 46]⟩ : ByteArray), .string (⟨#[58, 58]⟩ : ByteArray)] 56)).cell? ⟨b8, 5, none⟩ = some (.int .i64 m.f5) := (blk_cell HN2.out 5).trans rfl
            clear hB
            generalize k7.alloc (Obj.cells #[.string (⟨#[124]⟩ : ByteArray), .string (⟨#[45]⟩ : ByteArray), .string (⟨#[38]⟩ : ByteArray), .string (⟨#[46, 46]⟩ : ByteArray), .string (⟨#[58, 58]⟩ : ByteArray)] 56) = w7 at *
            generalize k7.heap.size = b14 at *
            go_wp2
            go_loopw [15] (fun v15 wr => ∃ i : Nat, i ≤ 5 ∧ v15 = .int .i64 (i : Int) ∧ Aside0 (Below w7.heap.size w7 wr)) (fun v15 _ => 5 - (intOf v15).toNat)
            case atStart => exact ⟨0, by omega, rfl, ⟨Below.refl _ _⟩⟩
            case round =>
              obtain ⟨i, hi, rfl, HW0⟩ := hrel
              have HW : Hid (Below w7.heap.size w7 wr) := Lib.hid HW0.out
              have hB := HW.out
              clear HW0
              replace KB := Lib.hid (below_step KB.out hB)
              replace HN1 := Lib.hid (blk_belowU hB HN1.out)
              replace HN2 := Lib.hid (blk_belowU hB HN2.out)
              replace HB7 := Lib.hid (blk_belowU hB HB7.out)
              replace HD1 := Lib.hid (Kd.C_below HD1.out hB)
              replace HD2 := Lib.hid (Kd.C_below HD2.out hB)
              replace tc0 : wr.cell? ⟨b5, 0, none⟩ = some (.int .i64 n.f0) := (blk_cell HN1.out 0).trans rfl
              replace tc1 : wr.cell? ⟨b5, 1, none⟩ = some (.string n.f1) := (blk_cell HN1.out 1).trans rfl
              replace tc2 : wr.cell? ⟨b5, 2, none⟩ = some (.int .i64 n.f2) := (blk_cell HN1.out 2).trans rfl
              replace tc3 : wr.cell? ⟨b5, 3, none⟩ = some (.int .u64 n.f3) := (blk_cell HN1.out 3).trans rfl
              replace tc4 : wr.cell? ⟨b5, 4, none⟩ = some (.slice A1 n.f4.length c1) := (blk_cell HN1.out 4).trans rfl
              replace tc5 : wr.cell? ⟨b5, 5, none⟩ = some (.int .i64 n.f5) := (blk_cell HN1.out 5).trans rfl
              replace uc0 : wr.cell? ⟨b8, 0, none⟩ = some (.int .i64 m.f0) := (blk_cell HN2.out 0).trans rfl
              replace uc1 : wr.cell? ⟨b8, 1, none⟩ = some (.string m.f1) := (blk_cell HN2.out 1).trans rfl
              replace uc2 : wr.cell? ⟨b8, 2, none⟩ = some (.int .i64 m.f2) := (blk_cell HN2.out 2).trans rfl
              replace uc3 : wr.cell? ⟨b8, 3, none⟩ = some (.int .u64 m.f3) := (blk_cell HN2.out 3).trans rfl
              replace uc4 : wr.cell? ⟨b8, 4, none⟩ = some (.slice A2 m.f4.length c2) := (blk_cell HN2.out 4).trans rfl
              replace uc5 : wr.cell? ⟨b8, 5, none⟩ = some (.int .i64 m.f5) := (blk_cell HN2.out 5).trans rfl
              clear hB
              by_cases hlt : i < 5
              · obtain ⟨g1, g2, hy⟩ := HY.out i hlt
                have hwy := prs_few (pairB a0 a1 (sgB i))
                rw [hy] at hwy
                have hwy2 : wt (mp g1 n) ≤ 1000000 ∧ wt (mp g2 m) ≤ 1000000 := by have e : wt (nd (6 + (i : Int)) [mp g1 n, mp g2 m] ((a0.size + 2 : Nat) : Int)) ≤ 2049 := hwy; rw [wt_nd2] at e; omega
                have WN4 := Lib.hid hwy2.1
                have WN5 := Lib.hid hwy2.2
                clear hwy hwy2
                have HS2 := Lib.hid (same_mp g1 (wt n) n (Nat.le_refl _))
                have HS3 := Lib.hid (same_mp g2 (wt m) m (Nat.le_refl _))
                have P3 : ∀ W, Calls Tryd.prog 22 #[.string (((((((⟨#[40]⟩ : ByteArray) ++ a0) ++ (⟨#[41]⟩ : ByteArray)) ++ sgB i) ++ (⟨#[40]⟩ : ByteArray)) ++ a1) ++ (⟨#[41]⟩ : ByteArray))] W (fun e_ w_ => ∃ A c, e_ = .returned (.tuple #[.agg #[.int .i64 (6 + (i : Int)), .string (⟨#[]⟩ : ByteArray), .int .i64 0, .int .u64 0, .slice A 2 c, .int .i64 ((a0.size : Int) + 2)], .int .i64 0, .int .i64 0]) ∧ 2 ≤ c ∧ Kd.C k44 w_ A 2 [mp g1 n, mp g2 m] ∧ Below W.heap.size W w_) := fun W => by have := prs_any (pairB a0 a1 (sgB i)) W; rw [hy] at this; exact this
                generalize mp g1 n = n' at *
                generalize mp g2 m = m' at *
                have hcs := sgB_cell HB7.out hlt
                have hS2 : (sgB i).size ≤ 2 := by unfold sgB; repeat (first | (split; decide) | split | decide)
                generalize sgB i = S at *
                have hi0 : (0 : Int) ≤ (i : Int) := by omega
                have hi5 : (i : Int) < 5 := by omega
                clear hy HY HZ
                have hw6 := wrap_six (i : Int) hi0 hi5
                have hwa := wrap_two a0.size w0
                have hv6 := iwrap_six (i : Int) hi0 hi5
                have hva := iwrap_two a0.size w0
                have f6 : ((6 + (i : Int)) != (6 + (i : Int))) = false := by simp
                have fa : (((a0.size : Int) + 2) != ((a0.size : Int) + 2)) = false := by simp
                go_upto_region 15 with (go_at_call 22; (with_reducible refine (P3 _).mono ?_); rintro e v4 ⟨A4, c4, rfl, hl, hC, hB⟩; have HC4 := Lib.hid hC; have HL4 := Lib.hid hl; have HV4 := Lib.hid hB; clear hl hC hB)
                clear P3 hcs
                have HN4 := Lib.hid (blk_new v4 (Obj.cells #[.int .i64 (6 + (i : Int)), .string (⟨#[]⟩ : ByteArray), .int .i64 0, .int .u64 0, .slice A4 2 c4, .int .i64 ((a0.size : Int) + 2)] 44))
                have HD4 := Lib.hid (Kd.C_below HC4.out (below_allocV v4 (Obj.cells #[.int .i64 (6 + (i : Int)), .string (⟨#[]⟩ : ByteArray), .int .i64 0, .int .u64 0, .slice A4 2 c4, .int .i64 ((a0.size : Int) + 2)] 44)))
                have hB : Below wr.heap.size wr (v4.alloc (Obj.cells #[.int .i64 (6 + (i : Int)), .string (⟨#[]⟩ : ByteArray), .int .i64 0, .int .u64 0, .slice A4 2 c4, .int .i64 ((a0.size : Int) + 2)] 44)) := below_alloc HV4.out _
                replace KB := Lib.hid (below_step KB.out hB)
                replace HN1 := Lib.hid (blk_belowU hB HN1.out)
                replace HN2 := Lib.hid (blk_belowU hB HN2.out)
                replace HB7 := Lib.hid (blk_belowU hB HB7.out)
                replace HD1 := Lib.hid (Kd.C_below HD1.out hB)
                replace HD2 := Lib.hid (Kd.C_below HD2.out hB)
                replace HW := Lib.hid (below_step HW.out hB)
                clear HC4 HV4 hB
                generalize v4.alloc (Obj.cells #[.int .i64 (6 + (i : Int)), .string (⟨#[]⟩ : ByteArray), .int .i64 0, .int .u64 0, .slice A4 2 c4, .int .i64 ((a0.size : Int) + 2)] 44) = w9 at *
                generalize v4.heap.size = b16 at *
                obtain ⟨ad, A5, c5, rfl, xa0, xa1, xa2, xa3, xa4, xa5, hl5, hC5⟩ := at_T44 HD4.out (0 : Int) (by omega) (by decide)
                obtain ⟨ad', A6, c6, ead, xb0, xb1, xb2, xb3, xb4, xb5, hl6, hC6⟩ := at_T44 HD4.out (1 : Int) (by omega) (by decide)
                cases ead
                replace xa0 : w9.cell? ad = some (.int .i64 n'.f0) := xa0
                replace xa1 : w9.cell? ⟨ad.block, ad.off + 1, none⟩ = some (.string n'.f1) := xa1
                replace xa2 : w9.cell? ⟨ad.block, ad.off + 2, none⟩ = some (.int .i64 n'.f2) := xa2
                replace xa3 : w9.cell? ⟨ad.block, ad.off + 3, none⟩ = some (.int .u64 n'.f3) := xa3
                replace xa4 : w9.cell? ⟨ad.block, ad.off + 4, none⟩ = some (.slice A5 n'.f4.length c5) := xa4
                replace xa5 : w9.cell? ⟨ad.block, ad.off + 5, none⟩ = some (.int .i64 n'.f5) := xa5
                replace xb0 : w9.cell? ⟨ad.block, ad.off + 6, none⟩ = some (.int .i64 m'.f0) := xb0
                replace xb1 : w9.cell? ⟨ad.block, ad.off + 7, none⟩ = some (.string m'.f1) := xb1
                replace xb2 : w9.cell? ⟨ad.block, ad.off + 8, none⟩ = some (.int .i64 m'.f2) := xb2
                replace xb3 : w9.cell? ⟨ad.block, ad.off + 9, none⟩ = some (.int .u64 m'.f3) := xb3
                replace xb4 : w9.cell? ⟨ad.block, ad.off + 10, none⟩ = some (.slice A6 m'.f4.length c6) := xb4
                replace xb5 : w9.cell? ⟨ad.block, ad.off + 11, none⟩ = some (.int .i64 m'.f5) := xb5
                have HD5 : Hid (Kd.C k44 w9 A5 n'.f4.length n'.f4) := Lib.hid hC5
                have HD6 : Hid (Kd.C k44 w9 A6 m'.f4.length m'.f4) := Lib.hid hC6
                have HL5 : Hid (n'.f4.length ≤ c5) := Lib.hid hl5
                have HL6 : Hid (m'.f4.length ≤ c6) := Lib.hid hl6
                clear hl5 hC5 hl6 hC6
                replace tc0 : w9.cell? ⟨b5, 0, none⟩ = some (.int .i64 n.f0) := (blk_cell HN1.out 0).trans rfl
                replace tc1 : w9.cell? ⟨b5, 1, none⟩ = some (.string n.f1) := (blk_cell HN1.out 1).trans rfl
                replace tc2 : w9.cell? ⟨b5, 2, none⟩ = some (.int .i64 n.f2) := (blk_cell HN1.out 2).trans rfl
                replace tc3 : w9.cell? ⟨b5, 3, none⟩ = some (.int .u64 n.f3) := (blk_cell HN1.out 3).trans rfl
                replace tc4 : w9.cell? ⟨b5, 4, none⟩ = some (.slice A1 n.f4.length c1) := (blk_cell HN1.out 4).trans rfl
                replace tc5 : w9.cell? ⟨b5, 5, none⟩ = some (.int .i64 n.f5) := (blk_cell HN1.out 5).trans rfl
                replace uc0 : w9.cell? ⟨b8, 0, none⟩ = some (.int .i64 m.f0) := (blk_cell HN2.out 0).trans rfl
                replace uc1 : w9.cell? ⟨b8, 1, none⟩ = some (.string m.f1) := (blk_cell HN2.out 1).trans rfl
                replace uc2 : w9.cell? ⟨b8, 2, none⟩ = some (.int .i64 m.f2) := (blk_cell HN2.out 2).trans rfl
                replace uc3 : w9.cell? ⟨b8, 3, none⟩ = some (.int .u64 m.f3) := (blk_cell HN2.out 3).trans rfl
                replace uc4 : w9.cell? ⟨b8, 4, none⟩ = some (.slice A2 m.f4.length c2) := (blk_cell HN2.out 4).trans rfl
                replace uc5 : w9.cell? ⟨b8, 5, none⟩ = some (.int .i64 m.f5) := (blk_cell HN2.out 5).trans rfl
                have yc0 : w9.cell? ⟨b16, 0, none⟩ = some (.int .i64 (6 + (i : Int))) := (blk_cell HN4.out 0).trans rfl
                have yc1 : w9.cell? ⟨b16, 1, none⟩ = some (.string (⟨#[]⟩ : ByteArray)) := (blk_cell HN4.out 1).trans rfl
                have yc2 : w9.cell? ⟨b16, 2, none⟩ = some (.int .i64 0) := (blk_cell HN4.out 2).trans rfl
                have yc3 : w9.cell? ⟨b16, 3, none⟩ = some (.int .u64 0) := (blk_cell HN4.out 3).trans rfl
                have yc4 : w9.cell? ⟨b16, 4, none⟩ = some (.slice (some ad) 2 c4) := (blk_cell HN4.out 4).trans rfl
                have yc5 : w9.cell? ⟨b16, 5, none⟩ = some (.int .i64 ((a0.size : Int) + 2)) := (blk_cell HN4.out 5).trans rfl
                go_region_held3 (fun w' => w'.cell? ⟨b16, 0, none⟩ = some (.int .i64 (6 + (i : Int))) ∧ w'.cell? ⟨b16, 1, none⟩ = some (.string (⟨#[]⟩ : ByteArray)) ∧ w'.cell? ⟨b16, 2, none⟩ = some (.int .i64 0) ∧ w'.cell? ⟨b16, 3, none⟩ = some (.int .u64 0) ∧ w'.cell? ⟨b16, 4, none⟩ = some (.slice (some ad) 2 c4) ∧ w'.cell? ⟨b16, 5, none⟩ = some (.int .i64 ((a0.size : Int) + 2)) ∧ w'.cell? ⟨b5, 0, none⟩ = some (.int .i64 n.f0) ∧ w'.cell? ⟨b5, 1, none⟩ = some (.string n.f1) ∧ w'.cell? ⟨b5, 2, none⟩ = some (.int .i64 n.f2) ∧ w'.cell? ⟨b5, 3, none⟩ = some (.int .u64 n.f3) ∧ w'.cell? ⟨b5, 4, none⟩ = some (.slice A1 n.f4.length c1) ∧ w'.cell? ⟨b5, 5, none⟩ = some (.int .i64 n.f5) ∧ w'.cell? ⟨b8, 0, none⟩ = some (.int .i64 m.f0) ∧ w'.cell? ⟨b8, 1, none⟩ = some (.string m.f1) ∧ w'.cell? ⟨b8, 2, none⟩ = some (.int .i64 m.f2) ∧ w'.cell? ⟨b8, 3, none⟩ = some (.int .u64 m.f3) ∧ w'.cell? ⟨b8, 4, none⟩ = some (.slice A2 m.f4.length c2) ∧ w'.cell? ⟨b8, 5, none⟩ = some (.int .i64 m.f5) ∧ w'.cell? ad = some (.int .i64 n'.f0) ∧ w'.cell? ⟨ad.block, ad.off + 1, none⟩ = some (.string n'.f1) ∧ w'.cell? ⟨ad.block, ad.off + 2, none⟩ = some (.int .i64 n'.f2) ∧ w'.cell? ⟨ad.block, ad.off + 3, none⟩ = some (.int .u64 n'.f3) ∧ w'.cell? ⟨ad.block, ad.off + 4, none⟩ = some (.slice A5 n'.f4.length c5) ∧ w'.cell? ⟨ad.block, ad.off + 5, none⟩ = some (.int .i64 n'.f5) ∧ w'.cell? ⟨ad.block, ad.off + 6, none⟩ = some (.int .i64 m'.f0) ∧ w'.cell? ⟨ad.block, ad.off + 7, none⟩ = some (.string m'.f1) ∧ w'.cell? ⟨ad.block, ad.off + 8, none⟩ = some (.int .i64 m'.f2) ∧ w'.cell? ⟨ad.block, ad.off + 9, none⟩ = some (.int .u64 m'.f3) ∧ w'.cell? ⟨ad.block, ad.off + 10, none⟩ = some (.slice A6 m'.f4.length c6) ∧ w'.cell? ⟨ad.block, ad.off + 11, none⟩ = some (.int .i64 m'.f5)) ((repeat' apply And.intro) <;> (first | assumption | exact cell_drew (by assumption))) (first | (go_at_call 25; (with_reducible refine (node_any n' WN4.out A5 c5 HL5.out _ ?_).mono ?_); (first | exact HD5.out | exact Kd.C_below HD5.out (below_drew1 (Below.refl _ _))); rintro e_ k8 ⟨A11, c11, rfl, hl, hC, hB⟩; (try replace hB := below_undrew hB); replace KB := Lib.hid (below_step KB.out hB); replace HN1 := Lib.hid (blk_belowU hB HN1.out); replace HN2 := Lib.hid (blk_belowU hB HN2.out); replace HN4 := Lib.hid (blk_belowU hB HN4.out); replace HD1 := Lib.hid (Kd.C_below HD1.out hB); replace HD2 := Lib.hid (Kd.C_below HD2.out hB); replace HD5 := Lib.hid (Kd.C_below HD5.out hB); replace HD6 := Lib.hid (Kd.C_below HD6.out hB); replace tc0 : k8.cell? ⟨b5, 0, none⟩ = some (.int .i64 n.f0) := (blk_cell HN1.out 0).trans rfl; replace tc1 : k8.cell? ⟨b5, 1, none⟩ = some (.string n.f1) := (blk_cell HN1.out 1).trans rfl; replace tc2 : k8.cell? ⟨b5, 2, none⟩ = some (.int .i64 n.f2) := (blk_cell HN1.out 2).trans rfl; replace tc3 : k8.cell? ⟨b5, 3, none⟩ = some (.int .u64 n.f3) := (blk_cell HN1.out 3).trans rfl; replace tc4 : k8.cell? ⟨b5, 4, none⟩ = some (.slice A1 n.f4.length c1) := (blk_cell HN1.out 4).trans rfl; replace tc5 : k8.cell? ⟨b5, 5, none⟩ = some (.int .i64 n.f5) := (blk_cell HN1.out 5).trans rfl; replace uc0 : k8.cell? ⟨b8, 0, none⟩ = some (.int .i64 m.f0) := (blk_cell HN2.out 0).trans rfl; replace uc1 : k8.cell? ⟨b8, 1, none⟩ = some (.string m.f1) := (blk_cell HN2.out 1).trans rfl; replace uc2 : k8.cell? ⟨b8, 2, none⟩ = some (.int .i64 m.f2) := (blk_cell HN2.out 2).trans rfl; replace uc3 : k8.cell? ⟨b8, 3, none⟩ = some (.int .u64 m.f3) := (blk_cell HN2.out 3).trans rfl; replace uc4 : k8.cell? ⟨b8, 4, none⟩ = some (.slice A2 m.f4.length c2) := (blk_cell HN2.out 4).trans rfl; replace uc5 : k8.cell? ⟨b8, 5, none⟩ = some (.int .i64 m.f5) := (blk_cell HN2.out 5).trans rfl; replace yc0 : k8.cell? ⟨b16, 0, none⟩ = some (.int .i64 (6 + (i : Int))) := (blk_cell HN4.out 0).trans rfl; replace yc1 : k8.cell? ⟨b16, 1, none⟩ = some (.string (⟨#[]⟩ : ByteArray)) := (blk_cell HN4.out 1).trans rfl; replace yc2 : k8.cell? ⟨b16, 2, none⟩ = some (.int .i64 0) := (blk_cell HN4.out 2).trans rfl; replace yc3 : k8.cell? ⟨b16, 3, none⟩ = some (.int .u64 0) := (blk_cell HN4.out 3).trans rfl; replace yc4 : k8.cell? ⟨b16, 4, none⟩ = some (.slice (some ad) 2 c4) := (blk_cell HN4.out 4).trans rfl; replace yc5 : k8.cell? ⟨b16, 5, none⟩ = some (.int .i64 ((a0.size : Int) + 2)) := (blk_cell HN4.out 5).trans rfl; replace xa0 := (hB.cell (World.block_lt_of_cell? _ _ xa0)).trans xa0; replace xa1 := (hB.cell (World.block_lt_of_cell? _ _ xa1)).trans xa1; replace xa2 := (hB.cell (World.block_lt_of_cell? _ _ xa2)).trans xa2; replace xa3 := (hB.cell (World.block_lt_of_cell? _ _ xa3)).trans xa3; replace xa4 := (hB.cell (World.block_lt_of_cell? _ _ xa4)).trans xa4; replace xa5 := (hB.cell (World.block_lt_of_cell? _ _ xa5)).trans xa5; replace xb0 := (hB.cell (World.block_lt_of_cell? _ _ xb0)).trans xb0; replace xb1 := (hB.cell (World.block_lt_of_cell? _ _ xb1)).trans xb1; replace xb2 := (hB.cell (World.block_lt_of_cell? _ _ xb2)).trans xb2; replace xb3 := (hB.cell (World.block_lt_of_cell? _ _ xb3)).trans xb3; replace xb4 := (hB.cell (World.block_lt_of_cell? _ _ xb4)).trans xb4; replace xb5 := (hB.cell (World.block_lt_of_cell? _ _ xb5)).trans xb5; replace HW := Lib.hid (below_step HW.out hB); have HE5 := Lib.hid hC; have HL11 := Lib.hid hl; clear hl hC hB) | (go_at_call 25; (with_reducible refine (node_any n W1.out A1 c1 HL1.out _ ?_).mono ?_); (first | exact HD1.out | exact Kd.C_below HD1.out (below_drew1 (Below.refl _ _))); rintro e_ k9 ⟨A12, c12, rfl, hl, hC, hB⟩; (try replace hB := below_undrew hB); replace KB := Lib.hid (below_step KB.out hB); replace HN1 := Lib.hid (blk_belowU hB HN1.out); replace HN2 := Lib.hid (blk_belowU hB HN2.out); replace HN4 := Lib.hid (blk_belowU hB HN4.out); replace HD1 := Lib.hid (Kd.C_below HD1.out hB); replace HD2 := Lib.hid (Kd.C_below HD2.out hB); replace HD5 := Lib.hid (Kd.C_below HD5.out hB); replace HD6 := Lib.hid (Kd.C_below HD6.out hB); replace HE5 := Lib.hid (Kd.C_below HE5.out hB); replace tc0 : k9.cell? ⟨b5, 0, none⟩ = some (.int .i64 n.f0) := (blk_cell HN1.out 0).trans rfl; replace tc1 : k9.cell? ⟨b5, 1, none⟩ = some (.string n.f1) := (blk_cell HN1.out 1).trans rfl; replace tc2 : k9.cell? ⟨b5, 2, none⟩ = some (.int .i64 n.f2) := (blk_cell HN1.out 2).trans rfl; replace tc3 : k9.cell? ⟨b5, 3, none⟩ = some (.int .u64 n.f3) := (blk_cell HN1.out 3).trans rfl; replace tc4 : k9.cell? ⟨b5, 4, none⟩ = some (.slice A1 n.f4.length c1) := (blk_cell HN1.out 4).trans rfl; replace tc5 : k9.cell? ⟨b5, 5, none⟩ = some (.int .i64 n.f5) := (blk_cell HN1.out 5).trans rfl; replace uc0 : k9.cell? ⟨b8, 0, none⟩ = some (.int .i64 m.f0) := (blk_cell HN2.out 0).trans rfl; replace uc1 : k9.cell? ⟨b8, 1, none⟩ = some (.string m.f1) := (blk_cell HN2.out 1).trans rfl; replace uc2 : k9.cell? ⟨b8, 2, none⟩ = some (.int .i64 m.f2) := (blk_cell HN2.out 2).trans rfl; replace uc3 : k9.cell? ⟨b8, 3, none⟩ = some (.int .u64 m.f3) := (blk_cell HN2.out 3).trans rfl; replace uc4 : k9.cell? ⟨b8, 4, none⟩ = some (.slice A2 m.f4.length c2) := (blk_cell HN2.out 4).trans rfl; replace uc5 : k9.cell? ⟨b8, 5, none⟩ = some (.int .i64 m.f5) := (blk_cell HN2.out 5).trans rfl; replace yc0 : k9.cell? ⟨b16, 0, none⟩ = some (.int .i64 (6 + (i : Int))) := (blk_cell HN4.out 0).trans rfl; replace yc1 : k9.cell? ⟨b16, 1, none⟩ = some (.string (⟨#[]⟩ : ByteArray)) := (blk_cell HN4.out 1).trans rfl; replace yc2 : k9.cell? ⟨b16, 2, none⟩ = some (.int .i64 0) := (blk_cell HN4.out 2).trans rfl; replace yc3 : k9.cell? ⟨b16, 3, none⟩ = some (.int .u64 0) := (blk_cell HN4.out 3).trans rfl; replace yc4 : k9.cell? ⟨b16, 4, none⟩ = some (.slice (some ad) 2 c4) := (blk_cell HN4.out 4).trans rfl; replace yc5 : k9.cell? ⟨b16, 5, none⟩ = some (.int .i64 ((a0.size : Int) + 2)) := (blk_cell HN4.out 5).trans rfl; replace xa0 := (hB.cell (World.block_lt_of_cell? _ _ xa0)).trans xa0; replace xa1 := (hB.cell (World.block_lt_of_cell? _ _ xa1)).trans xa1; replace xa2 := (hB.cell (World.block_lt_of_cell? _ _ xa2)).trans xa2; replace xa3 := (hB.cell (World.block_lt_of_cell? _ _ xa3)).trans xa3; replace xa4 := (hB.cell (World.block_lt_of_cell? _ _ xa4)).trans xa4; replace xa5 := (hB.cell (World.block_lt_of_cell? _ _ xa5)).trans xa5; replace xb0 := (hB.cell (World.block_lt_of_cell? _ _ xb0)).trans xb0; replace xb1 := (hB.cell (World.block_lt_of_cell? _ _ xb1)).trans xb1; replace xb2 := (hB.cell (World.block_lt_of_cell? _ _ xb2)).trans xb2; replace xb3 := (hB.cell (World.block_lt_of_cell? _ _ xb3)).trans xb3; replace xb4 := (hB.cell (World.block_lt_of_cell? _ _ xb4)).trans xb4; replace xb5 := (hB.cell (World.block_lt_of_cell? _ _ xb5)).trans xb5; replace HW := Lib.hid (below_step HW.out hB); have HE6 := Lib.hid hC; have HL12 := Lib.hid hl; clear hl hC hB) | (go_at_call 28; (with_reducible refine (same_any false n' n WN4.out W1.out A11 A12 c11 c12 HL11.out HL12.out _ HE5.out HE6.out).mono ?_); rintro e_ k10 ⟨he, hB⟩; rw [HS2.out] at he; subst he; (try replace hB := below_undrew hB); replace KB := Lib.hid (below_step KB.out hB); replace HN1 := Lib.hid (blk_belowU hB HN1.out); replace HN2 := Lib.hid (blk_belowU hB HN2.out); replace HN4 := Lib.hid (blk_belowU hB HN4.out); replace HD1 := Lib.hid (Kd.C_below HD1.out hB); replace HD2 := Lib.hid (Kd.C_below HD2.out hB); replace HD5 := Lib.hid (Kd.C_below HD5.out hB); replace HD6 := Lib.hid (Kd.C_below HD6.out hB); replace tc0 : k10.cell? ⟨b5, 0, none⟩ = some (.int .i64 n.f0) := (blk_cell HN1.out 0).trans rfl; replace tc1 : k10.cell? ⟨b5, 1, none⟩ = some (.string n.f1) := (blk_cell HN1.out 1).trans rfl; replace tc2 : k10.cell? ⟨b5, 2, none⟩ = some (.int .i64 n.f2) := (blk_cell HN1.out 2).trans rfl; replace tc3 : k10.cell? ⟨b5, 3, none⟩ = some (.int .u64 n.f3) := (blk_cell HN1.out 3).trans rfl; replace tc4 : k10.cell? ⟨b5, 4, none⟩ = some (.slice A1 n.f4.length c1) := (blk_cell HN1.out 4).trans rfl; replace tc5 : k10.cell? ⟨b5, 5, none⟩ = some (.int .i64 n.f5) := (blk_cell HN1.out 5).trans rfl; replace uc0 : k10.cell? ⟨b8, 0, none⟩ = some (.int .i64 m.f0) := (blk_cell HN2.out 0).trans rfl; replace uc1 : k10.cell? ⟨b8, 1, none⟩ = some (.string m.f1) := (blk_cell HN2.out 1).trans rfl; replace uc2 : k10.cell? ⟨b8, 2, none⟩ = some (.int .i64 m.f2) := (blk_cell HN2.out 2).trans rfl; replace uc3 : k10.cell? ⟨b8, 3, none⟩ = some (.int .u64 m.f3) := (blk_cell HN2.out 3).trans rfl; replace uc4 : k10.cell? ⟨b8, 4, none⟩ = some (.slice A2 m.f4.length c2) := (blk_cell HN2.out 4).trans rfl; replace uc5 : k10.cell? ⟨b8, 5, none⟩ = some (.int .i64 m.f5) := (blk_cell HN2.out 5).trans rfl; replace yc0 : k10.cell? ⟨b16, 0, none⟩ = some (.int .i64 (6 + (i : Int))) := (blk_cell HN4.out 0).trans rfl; replace yc1 : k10.cell? ⟨b16, 1, none⟩ = some (.string (⟨#[]⟩ : ByteArray)) := (blk_cell HN4.out 1).trans rfl; replace yc2 : k10.cell? ⟨b16, 2, none⟩ = some (.int .i64 0) := (blk_cell HN4.out 2).trans rfl; replace yc3 : k10.cell? ⟨b16, 3, none⟩ = some (.int .u64 0) := (blk_cell HN4.out 3).trans rfl; replace yc4 : k10.cell? ⟨b16, 4, none⟩ = some (.slice (some ad) 2 c4) := (blk_cell HN4.out 4).trans rfl; replace yc5 : k10.cell? ⟨b16, 5, none⟩ = some (.int .i64 ((a0.size : Int) + 2)) := (blk_cell HN4.out 5).trans rfl; replace xa0 := (hB.cell (World.block_lt_of_cell? _ _ xa0)).trans xa0; replace xa1 := (hB.cell (World.block_lt_of_cell? _ _ xa1)).trans xa1; replace xa2 := (hB.cell (World.block_lt_of_cell? _ _ xa2)).trans xa2; replace xa3 := (hB.cell (World.block_lt_of_cell? _ _ xa3)).trans xa3; replace xa4 := (hB.cell (World.block_lt_of_cell? _ _ xa4)).trans xa4; replace xa5 := (hB.cell (World.block_lt_of_cell? _ _ xa5)).trans xa5; replace xb0 := (hB.cell (World.block_lt_of_cell? _ _ xb0)).trans xb0; replace xb1 := (hB.cell (World.block_lt_of_cell? _ _ xb1)).trans xb1; replace xb2 := (hB.cell (World.block_lt_of_cell? _ _ xb2)).trans xb2; replace xb3 := (hB.cell (World.block_lt_of_cell? _ _ xb3)).trans xb3; replace xb4 := (hB.cell (World.block_lt_of_cell? _ _ xb4)).trans xb4; replace xb5 := (hB.cell (World.block_lt_of_cell? _ _ xb5)).trans xb5; replace HW := Lib.hid (below_step HW.out hB); clear hB) | (go_at_call 25; (with_reducible refine (node_any m' WN5.out A6 c6 HL6.out _ ?_).mono ?_); (first | exact HD6.out | exact Kd.C_below HD6.out (below_drew1 (Below.refl _ _))); rintro e_ k11 ⟨A13, c13, rfl, hl, hC, hB⟩; (try replace hB := below_undrew hB); replace KB := Lib.hid (below_step KB.out hB); replace HN1 := Lib.hid (blk_belowU hB HN1.out); replace HN2 := Lib.hid (blk_belowU hB HN2.out); replace HN4 := Lib.hid (blk_belowU hB HN4.out); replace HD1 := Lib.hid (Kd.C_below HD1.out hB); replace HD2 := Lib.hid (Kd.C_below HD2.out hB); replace HD5 := Lib.hid (Kd.C_below HD5.out hB); replace HD6 := Lib.hid (Kd.C_below HD6.out hB); replace tc0 : k11.cell? ⟨b5, 0, none⟩ = some (.int .i64 n.f0) := (blk_cell HN1.out 0).trans rfl; replace tc1 : k11.cell? ⟨b5, 1, none⟩ = some (.string n.f1) := (blk_cell HN1.out 1).trans rfl; replace tc2 : k11.cell? ⟨b5, 2, none⟩ = some (.int .i64 n.f2) := (blk_cell HN1.out 2).trans rfl; replace tc3 : k11.cell? ⟨b5, 3, none⟩ = some (.int .u64 n.f3) := (blk_cell HN1.out 3).trans rfl; replace tc4 : k11.cell? ⟨b5, 4, none⟩ = some (.slice A1 n.f4.length c1) := (blk_cell HN1.out 4).trans rfl; replace tc5 : k11.cell? ⟨b5, 5, none⟩ = some (.int .i64 n.f5) := (blk_cell HN1.out 5).trans rfl; replace uc0 : k11.cell? ⟨b8, 0, none⟩ = some (.int .i64 m.f0) := (blk_cell HN2.out 0).trans rfl; replace uc1 : k11.cell? ⟨b8, 1, none⟩ = some (.string m.f1) := (blk_cell HN2.out 1).trans rfl; replace uc2 : k11.cell? ⟨b8, 2, none⟩ = some (.int .i64 m.f2) := (blk_cell HN2.out 2).trans rfl; replace uc3 : k11.cell? ⟨b8, 3, none⟩ = some (.int .u64 m.f3) := (blk_cell HN2.out 3).trans rfl; replace uc4 : k11.cell? ⟨b8, 4, none⟩ = some (.slice A2 m.f4.length c2) := (blk_cell HN2.out 4).trans rfl; replace uc5 : k11.cell? ⟨b8, 5, none⟩ = some (.int .i64 m.f5) := (blk_cell HN2.out 5).trans rfl; replace yc0 : k11.cell? ⟨b16, 0, none⟩ = some (.int .i64 (6 + (i : Int))) := (blk_cell HN4.out 0).trans rfl; replace yc1 : k11.cell? ⟨b16, 1, none⟩ = some (.string (⟨#[]⟩ : ByteArray)) := (blk_cell HN4.out 1).trans rfl; replace yc2 : k11.cell? ⟨b16, 2, none⟩ = some (.int .i64 0) := (blk_cell HN4.out 2).trans rfl; replace yc3 : k11.cell? ⟨b16, 3, none⟩ = some (.int .u64 0) := (blk_cell HN4.out 3).trans rfl; replace yc4 : k11.cell? ⟨b16, 4, none⟩ = some (.slice (some ad) 2 c4) := (blk_cell HN4.out 4).trans rfl; replace yc5 : k11.cell? ⟨b16, 5, none⟩ = some (.int .i64 ((a0.size : Int) + 2)) := (blk_cell HN4.out 5).trans rfl; replace xa0 := (hB.cell (World.block_lt_of_cell? _ _ xa0)).trans xa0; replace xa1 := (hB.cell (World.block_lt_of_cell? _ _ xa1)).trans xa1; replace xa2 := (hB.cell (World.block_lt_of_cell? _ _ xa2)).trans xa2; replace xa3 := (hB.cell (World.block_lt_of_cell? _ _ xa3)).trans xa3; replace xa4 := (hB.cell (World.block_lt_of_cell? _ _ xa4)).trans xa4; replace xa5 := (hB.cell (World.block_lt_of_cell? _ _ xa5)).trans xa5; replace xb0 := (hB.cell (World.block_lt_of_cell? _ _ xb0)).trans xb0; replace xb1 := (hB.cell (World.block_lt_of_cell? _ _ xb1)).trans xb1; replace xb2 := (hB.cell (World.block_lt_of_cell? _ _ xb2)).trans xb2; replace xb3 := (hB.cell (World.block_lt_of_cell? _ _ xb3)).trans xb3; replace xb4 := (hB.cell (World.block_lt_of_cell? _ _ xb4)).trans xb4; replace xb5 := (hB.cell (World.block_lt_of_cell? _ _ xb5)).trans xb5; replace HW := Lib.hid (below_step HW.out hB); have HE7 := Lib.hid hC; have HL13 := Lib.hid hl; clear hl hC hB) | (go_at_call 25; (with_reducible refine (node_any m W2.out A2 c2 HL2.out _ ?_).mono ?_); (first | exact HD2.out | exact Kd.C_below HD2.out (below_drew1 (Below.refl _ _))); rintro e_ k12 ⟨A14, c14, rfl, hl, hC, hB⟩; (try replace hB := below_undrew hB); replace KB := Lib.hid (below_step KB.out hB); replace HN1 := Lib.hid (blk_belowU hB HN1.out); replace HN2 := Lib.hid (blk_belowU hB HN2.out); replace HN4 := Lib.hid (blk_belowU hB HN4.out); replace HD1 := Lib.hid (Kd.C_below HD1.out hB); replace HD2 := Lib.hid (Kd.C_below HD2.out hB); replace HD5 := Lib.hid (Kd.C_below HD5.out hB); replace HD6 := Lib.hid (Kd.C_below HD6.out hB); replace HE7 := Lib.hid (Kd.C_below HE7.out hB); replace tc0 : k12.cell? ⟨b5, 0, none⟩ = some (.int .i64 n.f0) := (blk_cell HN1.out 0).trans rfl; replace tc1 : k12.cell? ⟨b5, 1, none⟩ = some (.string n.f1) := (blk_cell HN1.out 1).trans rfl; replace tc2 : k12.cell? ⟨b5, 2, none⟩ = some (.int .i64 n.f2) := (blk_cell HN1.out 2).trans rfl; replace tc3 : k12.cell? ⟨b5, 3, none⟩ = some (.int .u64 n.f3) := (blk_cell HN1.out 3).trans rfl; replace tc4 : k12.cell? ⟨b5, 4, none⟩ = some (.slice A1 n.f4.length c1) := (blk_cell HN1.out 4).trans rfl; replace tc5 : k12.cell? ⟨b5, 5, none⟩ = some (.int .i64 n.f5) := (blk_cell HN1.out 5).trans rfl; replace uc0 : k12.cell? ⟨b8, 0, none⟩ = some (.int .i64 m.f0) := (blk_cell HN2.out 0).trans rfl; replace uc1 : k12.cell? ⟨b8, 1, none⟩ = some (.string m.f1) := (blk_cell HN2.out 1).trans rfl; replace uc2 : k12.cell? ⟨b8, 2, none⟩ = some (.int .i64 m.f2) := (blk_cell HN2.out 2).trans rfl; replace uc3 : k12.cell? ⟨b8, 3, none⟩ = some (.int .u64 m.f3) := (blk_cell HN2.out 3).trans rfl; replace uc4 : k12.cell? ⟨b8, 4, none⟩ = some (.slice A2 m.f4.length c2) := (blk_cell HN2.out 4).trans rfl; replace uc5 : k12.cell? ⟨b8, 5, none⟩ = some (.int .i64 m.f5) := (blk_cell HN2.out 5).trans rfl; replace yc0 : k12.cell? ⟨b16, 0, none⟩ = some (.int .i64 (6 + (i : Int))) := (blk_cell HN4.out 0).trans rfl; replace yc1 : k12.cell? ⟨b16, 1, none⟩ = some (.string (⟨#[]⟩ : ByteArray)) := (blk_cell HN4.out 1).trans rfl; replace yc2 : k12.cell? ⟨b16, 2, none⟩ = some (.int .i64 0) := (blk_cell HN4.out 2).trans rfl; replace yc3 : k12.cell? ⟨b16, 3, none⟩ = some (.int .u64 0) := (blk_cell HN4.out 3).trans rfl; replace yc4 : k12.cell? ⟨b16, 4, none⟩ = some (.slice (some ad) 2 c4) := (blk_cell HN4.out 4).trans rfl; replace yc5 : k12.cell? ⟨b16, 5, none⟩ = some (.int .i64 ((a0.size : Int) + 2)) := (blk_cell HN4.out 5).trans rfl; replace xa0 := (hB.cell (World.block_lt_of_cell? _ _ xa0)).trans xa0; replace xa1 := (hB.cell (World.block_lt_of_cell? _ _ xa1)).trans xa1; replace xa2 := (hB.cell (World.block_lt_of_cell? _ _ xa2)).trans xa2; replace xa3 := (hB.cell (World.block_lt_of_cell? _ _ xa3)).trans xa3; replace xa4 := (hB.cell (World.block_lt_of_cell? _ _ xa4)).trans xa4; replace xa5 := (hB.cell (World.block_lt_of_cell? _ _ xa5)).trans xa5; replace xb0 := (hB.cell (World.block_lt_of_cell? _ _ xb0)).trans xb0; replace xb1 := (hB.cell (World.block_lt_of_cell? _ _ xb1)).trans xb1; replace xb2 := (hB.cell (World.block_lt_of_cell? _ _ xb2)).trans xb2; replace xb3 := (hB.cell (World.block_lt_of_cell? _ _ xb3)).trans xb3; replace xb4 := (hB.cell (World.block_lt_of_cell? _ _ xb4)).trans xb4; replace xb5 := (hB.cell (World.block_lt_of_cell? _ _ xb5)).trans xb5; replace HW := Lib.hid (below_step HW.out hB); have HE8 := Lib.hid hC; have HL14 := Lib.hid hl; clear hl hC hB) | (go_at_call 28; (with_reducible refine (same_any false m' m WN5.out W2.out A13 A14 c13 c14 HL13.out HL14.out _ HE7.out HE8.out).mono ?_); rintro e_ k13 ⟨he, hB⟩; rw [HS3.out] at he; subst he; (try replace hB := below_undrew hB); replace KB := Lib.hid (below_step KB.out hB); replace HN1 := Lib.hid (blk_belowU hB HN1.out); replace HN2 := Lib.hid (blk_belowU hB HN2.out); replace HN4 := Lib.hid (blk_belowU hB HN4.out); replace HD1 := Lib.hid (Kd.C_below HD1.out hB); replace HD2 := Lib.hid (Kd.C_below HD2.out hB); replace HD5 := Lib.hid (Kd.C_below HD5.out hB); replace HD6 := Lib.hid (Kd.C_below HD6.out hB); replace tc0 : k13.cell? ⟨b5, 0, none⟩ = some (.int .i64 n.f0) := (blk_cell HN1.out 0).trans rfl; replace tc1 : k13.cell? ⟨b5, 1, none⟩ = some (.string n.f1) := (blk_cell HN1.out 1).trans rfl; replace tc2 : k13.cell? ⟨b5, 2, none⟩ = some (.int .i64 n.f2) := (blk_cell HN1.out 2).trans rfl; replace tc3 : k13.cell? ⟨b5, 3, none⟩ = some (.int .u64 n.f3) := (blk_cell HN1.out 3).trans rfl; replace tc4 : k13.cell? ⟨b5, 4, none⟩ = some (.slice A1 n.f4.length c1) := (blk_cell HN1.out 4).trans rfl; replace tc5 : k13.cell? ⟨b5, 5, none⟩ = some (.int .i64 n.f5) := (blk_cell HN1.out 5).trans rfl; replace uc0 : k13.cell? ⟨b8, 0, none⟩ = some (.int .i64 m.f0) := (blk_cell HN2.out 0).trans rfl; replace uc1 : k13.cell? ⟨b8, 1, none⟩ = some (.string m.f1) := (blk_cell HN2.out 1).trans rfl; replace uc2 : k13.cell? ⟨b8, 2, none⟩ = some (.int .i64 m.f2) := (blk_cell HN2.out 2).trans rfl; replace uc3 : k13.cell? ⟨b8, 3, none⟩ = some (.int .u64 m.f3) := (blk_cell HN2.out 3).trans rfl; replace uc4 : k13.cell? ⟨b8, 4, none⟩ = some (.slice A2 m.f4.length c2) := (blk_cell HN2.out 4).trans rfl; replace uc5 : k13.cell? ⟨b8, 5, none⟩ = some (.int .i64 m.f5) := (blk_cell HN2.out 5).trans rfl; replace yc0 : k13.cell? ⟨b16, 0, none⟩ = some (.int .i64 (6 + (i : Int))) := (blk_cell HN4.out 0).trans rfl; replace yc1 : k13.cell? ⟨b16, 1, none⟩ = some (.string (⟨#[]⟩ : ByteArray)) := (blk_cell HN4.out 1).trans rfl; replace yc2 : k13.cell? ⟨b16, 2, none⟩ = some (.int .i64 0) := (blk_cell HN4.out 2).trans rfl; replace yc3 : k13.cell? ⟨b16, 3, none⟩ = some (.int .u64 0) := (blk_cell HN4.out 3).trans rfl; replace yc4 : k13.cell? ⟨b16, 4, none⟩ = some (.slice (some ad) 2 c4) := (blk_cell HN4.out 4).trans rfl; replace yc5 : k13.cell? ⟨b16, 5, none⟩ = some (.int .i64 ((a0.size : Int) + 2)) := (blk_cell HN4.out 5).trans rfl; replace xa0 := (hB.cell (World.block_lt_of_cell? _ _ xa0)).trans xa0; replace xa1 := (hB.cell (World.block_lt_of_cell? _ _ xa1)).trans xa1; replace xa2 := (hB.cell (World.block_lt_of_cell? _ _ xa2)).trans xa2; replace xa3 := (hB.cell (World.block_lt_of_cell? _ _ xa3)).trans xa3; replace xa4 := (hB.cell (World.block_lt_of_cell? _ _ xa4)).trans xa4; replace xa5 := (hB.cell (World.block_lt_of_cell? _ _ xa5)).trans xa5; replace xb0 := (hB.cell (World.block_lt_of_cell? _ _ xb0)).trans xb0; replace xb1 := (hB.cell (World.block_lt_of_cell? _ _ xb1)).trans xb1; replace xb2 := (hB.cell (World.block_lt_of_cell? _ _ xb2)).trans xb2; replace xb3 := (hB.cell (World.block_lt_of_cell? _ _ xb3)).trans xb3; replace xb4 := (hB.cell (World.block_lt_of_cell? _ _ xb4)).trans xb4; replace xb5 := (hB.cell (World.block_lt_of_cell? _ _ xb5)).trans xb5; replace HW := Lib.hid (below_step HW.out hB); clear hB))
                go_wp2
                go_roundw
                case rel => exact ⟨i + 1, by omega, by go_num, ⟨HW.out⟩⟩
                case measure => simp [intOf]; omega
              · obtain rfl : i = 5 := by omega
                obtain ⟨g1, g2, hz⟩ := HZ.out
                have hwz := prs_few (callB a0 a1)
                rw [hz] at hwz
                have HS4 : sameT false ⟨5, bs [102], 0, 0, [mp g1 n, mp g2 m], 0⟩ (⟨5, (⟨#[102]⟩ : ByteArray), 0, 0, [n, m], 0⟩ : S44) = true := by rw [sameT_is]; simp [sameM_cons, sameM_nil, same_mp g1 (wt n) n (Nat.le_refl _), same_mp g2 (wt m) m (Nat.le_refl _), bs]
                generalize (⟨5, bs [102], 0, 0, [mp g1 n, mp g2 m], 0⟩ : S44) = z at *
                have P5 : ∀ W, Calls Tryd.prog 22 #[.string (((((⟨#[102, 40]⟩ : ByteArray) ++ a0) ++ (⟨#[44]⟩ : ByteArray)) ++ a1) ++ (⟨#[41]⟩ : ByteArray))] W (fun e_ w_ => ∃ A c, e_ = .returned (.tuple #[.agg #[.int .i64 z.f0, .string z.f1, .int .i64 z.f2, .int .u64 z.f3, .slice A z.f4.length c, .int .i64 z.f5], .int .i64 0, .int .i64 0]) ∧ z.f4.length ≤ c ∧ Kd.C k44 w_ A z.f4.length z.f4 ∧ Below W.heap.size W w_) := fun W => by have := prs_any (callB a0 a1) W; rw [hz] at this; exact this
                have WZ : Hid (wt z ≤ 1000000) := Lib.hid (Nat.le_trans hwz (by decide))
                have wcn : wt (⟨5, (⟨#[102]⟩ : ByteArray), 0, 0, [n, m], 0⟩ : S44) ≤ 1000000 := by have := HWW.out; rw [wt_mk, wtM_cons, wtM_cons, wtM_nil]; omega
                have CNN : ∀ W A c, 2 ≤ c → Kd.C k44 W A 2 [n, m] → Calls Tryd.prog 25 #[.agg #[.int .i64 5, .string (⟨#[102]⟩ : ByteArray), .int .i64 0, .int .u64 0, .slice A 2 c, .int .i64 0]] W fun e w' => ∃ A' c', e = .returned (.agg #[.int .i64 5, .string (⟨#[102]⟩ : ByteArray), .int .i64 0, .int .u64 0, .slice A' 2 c', .int .i64 0]) ∧ 2 ≤ c' ∧ Kd.C k54 w' A' 2 (nodeM [n, m]) ∧ Below W.heap.size W w' := fun W A c hl hC => node_any (⟨5, (⟨#[102]⟩ : ByteArray), 0, 0, [n, m], 0⟩ : S44) wcn A c hl W hC
                have CSS : ∀ W A c A' c', z.f4.length ≤ c → 2 ≤ c' → Kd.C k54 W A z.f4.length (nodeM z.f4) → Kd.C k54 W A' 2 (nodeM [n, m]) → Calls Tryd.prog 28 #[.agg #[.int .i64 z.f0, .string z.f1, .int .i64 z.f2, .int .u64 z.f3, .slice A z.f4.length c, .int .i64 z.f5], .agg #[.int .i64 5, .string (⟨#[102]⟩ : ByteArray), .int .i64 0, .int .u64 0, .slice A' 2 c', .int .i64 0], .bool false] W fun e w' => e = .returned (.bool true) ∧ Below W.heap.size W w' := fun W A c A' c' hl hl' hC hC' => by have := same_any false z (⟨5, (⟨#[102]⟩ : ByteArray), 0, 0, [n, m], 0⟩ : S44) WZ.out wcn A A' c c' hl hl' W hC hC'; rw [HS4] at this; exact this
                have CC : ∀ W ad, Kd.C k44 W (some ad) 2 [n, m] → Calls Tryd.prog 32 #[.string (⟨#[102]⟩ : ByteArray), .slice (some ad) 2 2] W fun e w' => ∃ A c, e = .returned (.agg #[.int .i64 5, .string (⟨#[102]⟩ : ByteArray), .int .i64 0, .int .u64 0, .slice A 2 c, .int .i64 0]) ∧ 2 ≤ c ∧ Kd.C k44 w' A 2 [n, m] ∧ Below W.heap.size W w' := fun W ad hC => call_any n m W ad hC
                clear hz hwz HS4 wcn HY HZ
                go_upto_region 18 with (go_at_call 22; (with_reducible refine (P5 _).mono ?_); rintro e v4 ⟨A4, c4, rfl, hl, hC, hB⟩; have HC4 := Lib.hid hC; have HL4 := Lib.hid hl; have HV4 := Lib.hid hB; clear hl hC hB)
                clear P5
                have HN4 := Lib.hid (blk_new v4 (Obj.cells #[.int .i64 z.f0, .string z.f1, .int .i64 z.f2, .int .u64 z.f3, .slice A4 z.f4.length c4, .int .i64 z.f5] 44))
                have HD4 := Lib.hid (Kd.C_below HC4.out (below_allocV v4 (Obj.cells #[.int .i64 z.f0, .string z.f1, .int .i64 z.f2, .int .u64 z.f3, .slice A4 z.f4.length c4, .int .i64 z.f5] 44)))
                have hB : Below wr.heap.size wr (v4.alloc (Obj.cells #[.int .i64 z.f0, .string z.f1, .int .i64 z.f2, .int .u64 z.f3, .slice A4 z.f4.length c4, .int .i64 z.f5] 44)) := below_alloc HV4.out _
                replace KB := Lib.hid (below_step KB.out hB)
                replace HN1 := Lib.hid (blk_belowU hB HN1.out)
                replace HN2 := Lib.hid (blk_belowU hB HN2.out)
                replace HD1 := Lib.hid (Kd.C_below HD1.out hB)
                replace HD2 := Lib.hid (Kd.C_below HD2.out hB)
                clear HC4 HV4 hB
                generalize v4.alloc (Obj.cells #[.int .i64 z.f0, .string z.f1, .int .i64 z.f2, .int .u64 z.f3, .slice A4 z.f4.length c4, .int .i64 z.f5] 44) = w9 at *
                generalize v4.heap.size = b19 at *
                replace tc0 : w9.cell? ⟨b5, 0, none⟩ = some (.int .i64 n.f0) := (blk_cell HN1.out 0).trans rfl
                replace tc1 : w9.cell? ⟨b5, 1, none⟩ = some (.string n.f1) := (blk_cell HN1.out 1).trans rfl
                replace tc2 : w9.cell? ⟨b5, 2, none⟩ = some (.int .i64 n.f2) := (blk_cell HN1.out 2).trans rfl
                replace tc3 : w9.cell? ⟨b5, 3, none⟩ = some (.int .u64 n.f3) := (blk_cell HN1.out 3).trans rfl
                replace tc4 : w9.cell? ⟨b5, 4, none⟩ = some (.slice A1 n.f4.length c1) := (blk_cell HN1.out 4).trans rfl
                replace tc5 : w9.cell? ⟨b5, 5, none⟩ = some (.int .i64 n.f5) := (blk_cell HN1.out 5).trans rfl
                replace uc0 : w9.cell? ⟨b8, 0, none⟩ = some (.int .i64 m.f0) := (blk_cell HN2.out 0).trans rfl
                replace uc1 : w9.cell? ⟨b8, 1, none⟩ = some (.string m.f1) := (blk_cell HN2.out 1).trans rfl
                replace uc2 : w9.cell? ⟨b8, 2, none⟩ = some (.int .i64 m.f2) := (blk_cell HN2.out 2).trans rfl
                replace uc3 : w9.cell? ⟨b8, 3, none⟩ = some (.int .u64 m.f3) := (blk_cell HN2.out 3).trans rfl
                replace uc4 : w9.cell? ⟨b8, 4, none⟩ = some (.slice A2 m.f4.length c2) := (blk_cell HN2.out 4).trans rfl
                replace uc5 : w9.cell? ⟨b8, 5, none⟩ = some (.int .i64 m.f5) := (blk_cell HN2.out 5).trans rfl
                have zc0 : w9.cell? ⟨b19, 0, none⟩ = some (.int .i64 z.f0) := (blk_cell HN4.out 0).trans rfl
                have zc1 : w9.cell? ⟨b19, 1, none⟩ = some (.string z.f1) := (blk_cell HN4.out 1).trans rfl
                have zc2 : w9.cell? ⟨b19, 2, none⟩ = some (.int .i64 z.f2) := (blk_cell HN4.out 2).trans rfl
                have zc3 : w9.cell? ⟨b19, 3, none⟩ = some (.int .u64 z.f3) := (blk_cell HN4.out 3).trans rfl
                have zc4 : w9.cell? ⟨b19, 4, none⟩ = some (.slice A4 z.f4.length c4) := (blk_cell HN4.out 4).trans rfl
                have zc5 : w9.cell? ⟨b19, 5, none⟩ = some (.int .i64 z.f5) := (blk_cell HN4.out 5).trans rfl
                go_region_held3 (fun w' => w'.cell? ⟨b19, 0, none⟩ = some (.int .i64 z.f0) ∧ w'.cell? ⟨b19, 1, none⟩ = some (.string z.f1) ∧ w'.cell? ⟨b19, 2, none⟩ = some (.int .i64 z.f2) ∧ w'.cell? ⟨b19, 3, none⟩ = some (.int .u64 z.f3) ∧ w'.cell? ⟨b19, 4, none⟩ = some (.slice A4 z.f4.length c4) ∧ w'.cell? ⟨b19, 5, none⟩ = some (.int .i64 z.f5) ∧ w'.cell? ⟨b5, 0, none⟩ = some (.int .i64 n.f0) ∧ w'.cell? ⟨b5, 1, none⟩ = some (.string n.f1) ∧ w'.cell? ⟨b5, 2, none⟩ = some (.int .i64 n.f2) ∧ w'.cell? ⟨b5, 3, none⟩ = some (.int .u64 n.f3) ∧ w'.cell? ⟨b5, 4, none⟩ = some (.slice A1 n.f4.length c1) ∧ w'.cell? ⟨b5, 5, none⟩ = some (.int .i64 n.f5) ∧ w'.cell? ⟨b8, 0, none⟩ = some (.int .i64 m.f0) ∧ w'.cell? ⟨b8, 1, none⟩ = some (.string m.f1) ∧ w'.cell? ⟨b8, 2, none⟩ = some (.int .i64 m.f2) ∧ w'.cell? ⟨b8, 3, none⟩ = some (.int .u64 m.f3) ∧ w'.cell? ⟨b8, 4, none⟩ = some (.slice A2 m.f4.length c2) ∧ w'.cell? ⟨b8, 5, none⟩ = some (.int .i64 m.f5)) ((repeat' apply And.intro) <;> (first | assumption | exact cell_drew (by assumption) | exact cell_alloc (by assumption) | exact cell_alloc (cell_drew (by assumption)) | exact cell_drew (cell_alloc (by assumption)))) (first | (go_at_call 25; (with_reducible refine (node_any z WZ.out A4 c4 HL4.out _ ?_).mono ?_); (first | exact HD4.out | exact Kd.C_below HD4.out (below_drew1 (below_allocV _ _)) | exact Kd.C_below HD4.out (below_drew1 (Below.refl _ _)) | exact Kd.C_below HD4.out (below_allocV _ _) | exact Kd.C_below HD4.out (below_alloc (below_drew1 (Below.refl _ _)) _)); rintro e_ j1 ⟨A15, c15, rfl, hl, hC, hB⟩; (first | have HP := Lib.hid (blk_belowU hB (blk_new _ (Obj.cells #[.int .i64 n.f0, .string n.f1, .int .i64 n.f2, .int .u64 n.f3, .slice A1 n.f4.length c1, .int .i64 n.f5, .int .i64 m.f0, .string m.f1, .int .i64 m.f2, .int .u64 m.f3, .slice A2 m.f4.length c2, .int .i64 m.f5] 44))) | have HP := Lib.hid (blk_belowU hB (blk_drew (blk_new _ (Obj.cells #[.int .i64 n.f0, .string n.f1, .int .i64 n.f2, .int .u64 n.f3, .slice A1 n.f4.length c1, .int .i64 n.f5, .int .i64 m.f0, .string m.f1, .int .i64 m.f2, .int .u64 m.f3, .slice A2 m.f4.length c2, .int .i64 m.f5] 44)))) | skip); (first | replace hB := below_unallocdr hB | replace hB := below_undralloc hB | replace hB := below_unalloc hB | replace hB := below_undrew hB | skip); replace KB := Lib.hid (below_step KB.out hB); replace HN1 := Lib.hid (blk_belowU hB HN1.out); replace HN2 := Lib.hid (blk_belowU hB HN2.out); replace HN4 := Lib.hid (blk_belowU hB HN4.out); replace HD1 := Lib.hid (Kd.C_below HD1.out hB); replace HD2 := Lib.hid (Kd.C_below HD2.out hB); replace HD4 := Lib.hid (Kd.C_below HD4.out hB); replace tc0 : j1.cell? ⟨b5, 0, none⟩ = some (.int .i64 n.f0) := (blk_cell HN1.out 0).trans rfl; replace tc1 : j1.cell? ⟨b5, 1, none⟩ = some (.string n.f1) := (blk_cell HN1.out 1).trans rfl; replace tc2 : j1.cell? ⟨b5, 2, none⟩ = some (.int .i64 n.f2) := (blk_cell HN1.out 2).trans rfl; replace tc3 : j1.cell? ⟨b5, 3, none⟩ = some (.int .u64 n.f3) := (blk_cell HN1.out 3).trans rfl; replace tc4 : j1.cell? ⟨b5, 4, none⟩ = some (.slice A1 n.f4.length c1) := (blk_cell HN1.out 4).trans rfl; replace tc5 : j1.cell? ⟨b5, 5, none⟩ = some (.int .i64 n.f5) := (blk_cell HN1.out 5).trans rfl; replace uc0 : j1.cell? ⟨b8, 0, none⟩ = some (.int .i64 m.f0) := (blk_cell HN2.out 0).trans rfl; replace uc1 : j1.cell? ⟨b8, 1, none⟩ = some (.string m.f1) := (blk_cell HN2.out 1).trans rfl; replace uc2 : j1.cell? ⟨b8, 2, none⟩ = some (.int .i64 m.f2) := (blk_cell HN2.out 2).trans rfl; replace uc3 : j1.cell? ⟨b8, 3, none⟩ = some (.int .u64 m.f3) := (blk_cell HN2.out 3).trans rfl; replace uc4 : j1.cell? ⟨b8, 4, none⟩ = some (.slice A2 m.f4.length c2) := (blk_cell HN2.out 4).trans rfl; replace uc5 : j1.cell? ⟨b8, 5, none⟩ = some (.int .i64 m.f5) := (blk_cell HN2.out 5).trans rfl; replace zc0 : j1.cell? ⟨b19, 0, none⟩ = some (.int .i64 z.f0) := (blk_cell HN4.out 0).trans rfl; replace zc1 : j1.cell? ⟨b19, 1, none⟩ = some (.string z.f1) := (blk_cell HN4.out 1).trans rfl; replace zc2 : j1.cell? ⟨b19, 2, none⟩ = some (.int .i64 z.f2) := (blk_cell HN4.out 2).trans rfl; replace zc3 : j1.cell? ⟨b19, 3, none⟩ = some (.int .u64 z.f3) := (blk_cell HN4.out 3).trans rfl; replace zc4 : j1.cell? ⟨b19, 4, none⟩ = some (.slice A4 z.f4.length c4) := (blk_cell HN4.out 4).trans rfl; replace zc5 : j1.cell? ⟨b19, 5, none⟩ = some (.int .i64 z.f5) := (blk_cell HN4.out 5).trans rfl; have HE9 := Lib.hid hC; have HL15 := Lib.hid hl; clear hl hC hB) | (go_at_call 32; (with_reducible refine (CC _ _ ?_).mono ?_); (first | exact pair_row (blk_drew (blk_new _ _)) HL1.out HL2.out (Kd.C_below HD1.out (below_drew1 (below_allocV _ _))) (Kd.C_below HD2.out (below_drew1 (below_allocV _ _))) | exact pair_row (blk_new _ _) HL1.out HL2.out (Kd.C_below HD1.out (below_allocV _ _)) (Kd.C_below HD2.out (below_allocV _ _)) | exact pair_row HP.out HL1.out HL2.out HD1.out HD2.out); rintro e_ j2 ⟨A16, c16, rfl, hl, hC, hB⟩; (first | have HP := Lib.hid (blk_belowU hB (blk_new _ (Obj.cells #[.int .i64 n.f0, .string n.f1, .int .i64 n.f2, .int .u64 n.f3, .slice A1 n.f4.length c1, .int .i64 n.f5, .int .i64 m.f0, .string m.f1, .int .i64 m.f2, .int .u64 m.f3, .slice A2 m.f4.length c2, .int .i64 m.f5] 44))) | have HP := Lib.hid (blk_belowU hB (blk_drew (blk_new _ (Obj.cells #[.int .i64 n.f0, .string n.f1, .int .i64 n.f2, .int .u64 n.f3, .slice A1 n.f4.length c1, .int .i64 n.f5, .int .i64 m.f0, .string m.f1, .int .i64 m.f2, .int .u64 m.f3, .slice A2 m.f4.length c2, .int .i64 m.f5] 44)))) | skip); (first | replace hB := below_unallocdr hB | replace hB := below_undralloc hB | replace hB := below_unalloc hB | replace hB := below_undrew hB | skip); replace KB := Lib.hid (below_step KB.out hB); replace HN1 := Lib.hid (blk_belowU hB HN1.out); replace HN2 := Lib.hid (blk_belowU hB HN2.out); replace HN4 := Lib.hid (blk_belowU hB HN4.out); replace HD1 := Lib.hid (Kd.C_below HD1.out hB); replace HD2 := Lib.hid (Kd.C_below HD2.out hB); replace HD4 := Lib.hid (Kd.C_below HD4.out hB); replace HE9 := Lib.hid (Kd.C_below HE9.out hB); replace tc0 : j2.cell? ⟨b5, 0, none⟩ = some (.int .i64 n.f0) := (blk_cell HN1.out 0).trans rfl; replace tc1 : j2.cell? ⟨b5, 1, none⟩ = some (.string n.f1) := (blk_cell HN1.out 1).trans rfl; replace tc2 : j2.cell? ⟨b5, 2, none⟩ = some (.int .i64 n.f2) := (blk_cell HN1.out 2).trans rfl; replace tc3 : j2.cell? ⟨b5, 3, none⟩ = some (.int .u64 n.f3) := (blk_cell HN1.out 3).trans rfl; replace tc4 : j2.cell? ⟨b5, 4, none⟩ = some (.slice A1 n.f4.length c1) := (blk_cell HN1.out 4).trans rfl; replace tc5 : j2.cell? ⟨b5, 5, none⟩ = some (.int .i64 n.f5) := (blk_cell HN1.out 5).trans rfl; replace uc0 : j2.cell? ⟨b8, 0, none⟩ = some (.int .i64 m.f0) := (blk_cell HN2.out 0).trans rfl; replace uc1 : j2.cell? ⟨b8, 1, none⟩ = some (.string m.f1) := (blk_cell HN2.out 1).trans rfl; replace uc2 : j2.cell? ⟨b8, 2, none⟩ = some (.int .i64 m.f2) := (blk_cell HN2.out 2).trans rfl; replace uc3 : j2.cell? ⟨b8, 3, none⟩ = some (.int .u64 m.f3) := (blk_cell HN2.out 3).trans rfl; replace uc4 : j2.cell? ⟨b8, 4, none⟩ = some (.slice A2 m.f4.length c2) := (blk_cell HN2.out 4).trans rfl; replace uc5 : j2.cell? ⟨b8, 5, none⟩ = some (.int .i64 m.f5) := (blk_cell HN2.out 5).trans rfl; replace zc0 : j2.cell? ⟨b19, 0, none⟩ = some (.int .i64 z.f0) := (blk_cell HN4.out 0).trans rfl; replace zc1 : j2.cell? ⟨b19, 1, none⟩ = some (.string z.f1) := (blk_cell HN4.out 1).trans rfl; replace zc2 : j2.cell? ⟨b19, 2, none⟩ = some (.int .i64 z.f2) := (blk_cell HN4.out 2).trans rfl; replace zc3 : j2.cell? ⟨b19, 3, none⟩ = some (.int .u64 z.f3) := (blk_cell HN4.out 3).trans rfl; replace zc4 : j2.cell? ⟨b19, 4, none⟩ = some (.slice A4 z.f4.length c4) := (blk_cell HN4.out 4).trans rfl; replace zc5 : j2.cell? ⟨b19, 5, none⟩ = some (.int .i64 z.f5) := (blk_cell HN4.out 5).trans rfl; have HD16 := Lib.hid hC; have HL16 := Lib.hid hl; clear hl hC hB) | (go_at_call 25; (with_reducible refine (CNN _ _ _ HL16.out HD16.out).mono ?_); rintro e_ j3 ⟨A17, c17, rfl, hl, hC, hB⟩; (first | have HP := Lib.hid (blk_belowU hB (blk_new _ (Obj.cells #[.int .i64 n.f0, .string n.f1, .int .i64 n.f2, .int .u64 n.f3, .slice A1 n.f4.length c1, .int .i64 n.f5, .int .i64 m.f0, .string m.f1, .int .i64 m.f2, .int .u64 m.f3, .slice A2 m.f4.length c2, .int .i64 m.f5] 44))) | have HP := Lib.hid (blk_belowU hB (blk_drew (blk_new _ (Obj.cells #[.int .i64 n.f0, .string n.f1, .int .i64 n.f2, .int .u64 n.f3, .slice A1 n.f4.length c1, .int .i64 n.f5, .int .i64 m.f0, .string m.f1, .int .i64 m.f2, .int .u64 m.f3, .slice A2 m.f4.length c2, .int .i64 m.f5] 44)))) | skip); (first | replace hB := below_unallocdr hB | replace hB := below_undralloc hB | replace hB := below_unalloc hB | replace hB := below_undrew hB | skip); replace KB := Lib.hid (below_step KB.out hB); replace HN1 := Lib.hid (blk_belowU hB HN1.out); replace HN2 := Lib.hid (blk_belowU hB HN2.out); replace HN4 := Lib.hid (blk_belowU hB HN4.out); replace HD1 := Lib.hid (Kd.C_below HD1.out hB); replace HD2 := Lib.hid (Kd.C_below HD2.out hB); replace HD4 := Lib.hid (Kd.C_below HD4.out hB); replace HE9 := Lib.hid (Kd.C_below HE9.out hB); replace tc0 : j3.cell? ⟨b5, 0, none⟩ = some (.int .i64 n.f0) := (blk_cell HN1.out 0).trans rfl; replace tc1 : j3.cell? ⟨b5, 1, none⟩ = some (.string n.f1) := (blk_cell HN1.out 1).trans rfl; replace tc2 : j3.cell? ⟨b5, 2, none⟩ = some (.int .i64 n.f2) := (blk_cell HN1.out 2).trans rfl; replace tc3 : j3.cell? ⟨b5, 3, none⟩ = some (.int .u64 n.f3) := (blk_cell HN1.out 3).trans rfl; replace tc4 : j3.cell? ⟨b5, 4, none⟩ = some (.slice A1 n.f4.length c1) := (blk_cell HN1.out 4).trans rfl; replace tc5 : j3.cell? ⟨b5, 5, none⟩ = some (.int .i64 n.f5) := (blk_cell HN1.out 5).trans rfl; replace uc0 : j3.cell? ⟨b8, 0, none⟩ = some (.int .i64 m.f0) := (blk_cell HN2.out 0).trans rfl; replace uc1 : j3.cell? ⟨b8, 1, none⟩ = some (.string m.f1) := (blk_cell HN2.out 1).trans rfl; replace uc2 : j3.cell? ⟨b8, 2, none⟩ = some (.int .i64 m.f2) := (blk_cell HN2.out 2).trans rfl; replace uc3 : j3.cell? ⟨b8, 3, none⟩ = some (.int .u64 m.f3) := (blk_cell HN2.out 3).trans rfl; replace uc4 : j3.cell? ⟨b8, 4, none⟩ = some (.slice A2 m.f4.length c2) := (blk_cell HN2.out 4).trans rfl; replace uc5 : j3.cell? ⟨b8, 5, none⟩ = some (.int .i64 m.f5) := (blk_cell HN2.out 5).trans rfl; replace zc0 : j3.cell? ⟨b19, 0, none⟩ = some (.int .i64 z.f0) := (blk_cell HN4.out 0).trans rfl; replace zc1 : j3.cell? ⟨b19, 1, none⟩ = some (.string z.f1) := (blk_cell HN4.out 1).trans rfl; replace zc2 : j3.cell? ⟨b19, 2, none⟩ = some (.int .i64 z.f2) := (blk_cell HN4.out 2).trans rfl; replace zc3 : j3.cell? ⟨b19, 3, none⟩ = some (.int .u64 z.f3) := (blk_cell HN4.out 3).trans rfl; replace zc4 : j3.cell? ⟨b19, 4, none⟩ = some (.slice A4 z.f4.length c4) := (blk_cell HN4.out 4).trans rfl; replace zc5 : j3.cell? ⟨b19, 5, none⟩ = some (.int .i64 z.f5) := (blk_cell HN4.out 5).trans rfl; have HE17 := Lib.hid hC; have HL17 := Lib.hid hl; clear hl hC hB) | (go_at_call 28; (with_reducible refine (CSS _ _ _ _ _ HL15.out HL17.out HE9.out HE17.out).mono ?_); rintro e_ j4 ⟨rfl, hB⟩; (first | have HP := Lib.hid (blk_belowU hB (blk_new _ (Obj.cells #[.int .i64 n.f0, .string n.f1, .int .i64 n.f2, .int .u64 n.f3, .slice A1 n.f4.length c1, .int .i64 n.f5, .int .i64 m.f0, .string m.f1, .int .i64 m.f2, .int .u64 m.f3, .slice A2 m.f4.length c2, .int .i64 m.f5] 44))) | have HP := Lib.hid (blk_belowU hB (blk_drew (blk_new _ (Obj.cells #[.int .i64 n.f0, .string n.f1, .int .i64 n.f2, .int .u64 n.f3, .slice A1 n.f4.length c1, .int .i64 n.f5, .int .i64 m.f0, .string m.f1, .int .i64 m.f2, .int .u64 m.f3, .slice A2 m.f4.length c2, .int .i64 m.f5] 44)))) | skip); (first | replace hB := below_unallocdr hB | replace hB := below_undralloc hB | replace hB := below_unalloc hB | replace hB := below_undrew hB | skip); replace KB := Lib.hid (below_step KB.out hB); replace HN1 := Lib.hid (blk_belowU hB HN1.out); replace HN2 := Lib.hid (blk_belowU hB HN2.out); replace HN4 := Lib.hid (blk_belowU hB HN4.out); replace HD1 := Lib.hid (Kd.C_below HD1.out hB); replace HD2 := Lib.hid (Kd.C_below HD2.out hB); replace HD4 := Lib.hid (Kd.C_below HD4.out hB); replace tc0 : j4.cell? ⟨b5, 0, none⟩ = some (.int .i64 n.f0) := (blk_cell HN1.out 0).trans rfl; replace tc1 : j4.cell? ⟨b5, 1, none⟩ = some (.string n.f1) := (blk_cell HN1.out 1).trans rfl; replace tc2 : j4.cell? ⟨b5, 2, none⟩ = some (.int .i64 n.f2) := (blk_cell HN1.out 2).trans rfl; replace tc3 : j4.cell? ⟨b5, 3, none⟩ = some (.int .u64 n.f3) := (blk_cell HN1.out 3).trans rfl; replace tc4 : j4.cell? ⟨b5, 4, none⟩ = some (.slice A1 n.f4.length c1) := (blk_cell HN1.out 4).trans rfl; replace tc5 : j4.cell? ⟨b5, 5, none⟩ = some (.int .i64 n.f5) := (blk_cell HN1.out 5).trans rfl; replace uc0 : j4.cell? ⟨b8, 0, none⟩ = some (.int .i64 m.f0) := (blk_cell HN2.out 0).trans rfl; replace uc1 : j4.cell? ⟨b8, 1, none⟩ = some (.string m.f1) := (blk_cell HN2.out 1).trans rfl; replace uc2 : j4.cell? ⟨b8, 2, none⟩ = some (.int .i64 m.f2) := (blk_cell HN2.out 2).trans rfl; replace uc3 : j4.cell? ⟨b8, 3, none⟩ = some (.int .u64 m.f3) := (blk_cell HN2.out 3).trans rfl; replace uc4 : j4.cell? ⟨b8, 4, none⟩ = some (.slice A2 m.f4.length c2) := (blk_cell HN2.out 4).trans rfl; replace uc5 : j4.cell? ⟨b8, 5, none⟩ = some (.int .i64 m.f5) := (blk_cell HN2.out 5).trans rfl; replace zc0 : j4.cell? ⟨b19, 0, none⟩ = some (.int .i64 z.f0) := (blk_cell HN4.out 0).trans rfl; replace zc1 : j4.cell? ⟨b19, 1, none⟩ = some (.string z.f1) := (blk_cell HN4.out 1).trans rfl; replace zc2 : j4.cell? ⟨b19, 2, none⟩ = some (.int .i64 z.f2) := (blk_cell HN4.out 2).trans rfl; replace zc3 : j4.cell? ⟨b19, 3, none⟩ = some (.int .u64 z.f3) := (blk_cell HN4.out 3).trans rfl; replace zc4 : j4.cell? ⟨b19, 4, none⟩ = some (.slice A4 z.f4.length c4) := (blk_cell HN4.out 4).trans rfl; replace zc5 : j4.cell? ⟨b19, 5, none⟩ = some (.int .i64 z.f5) := (blk_cell HN4.out 5).trans rfl; clear hB))
                all_goals go_wp2
                all_goals go_ret
                all_goals exact ⟨rfl, KB.out⟩
          · have q5 : decide ((24 : Int) ≤ (depthT m : Int)) = true := decide_eq_true (by omega)
            clear HOK h1 h2 h3 h4 h5
            go_wp2_with (first | (go_at_call 25; (with_reducible refine (node_any n W1.out A1 c1 HL1.out _ ?_).mono ?_); (first | exact HD1.out | exact Kd.C_below HD1.out (below_drew1 (Below.refl _ _))); rintro e_ k1 ⟨A7, c7, rfl, hl, hC, hB⟩; (try replace hB := below_undrew hB); replace KB := Lib.hid (below_step KB.out hB); replace HN1 := Lib.hid (blk_belowU hB HN1.out); replace HN2 := Lib.hid (blk_belowU hB HN2.out); replace HD1 := Lib.hid (Kd.C_below HD1.out hB); replace HD2 := Lib.hid (Kd.C_below HD2.out hB); replace tc0 : k1.cell? ⟨b5, 0, none⟩ = some (.int .i64 n.f0) := (blk_cell HN1.out 0).trans rfl; replace tc1 : k1.cell? ⟨b5, 1, none⟩ = some (.string n.f1) := (blk_cell HN1.out 1).trans rfl; replace tc2 : k1.cell? ⟨b5, 2, none⟩ = some (.int .i64 n.f2) := (blk_cell HN1.out 2).trans rfl; replace tc3 : k1.cell? ⟨b5, 3, none⟩ = some (.int .u64 n.f3) := (blk_cell HN1.out 3).trans rfl; replace tc4 : k1.cell? ⟨b5, 4, none⟩ = some (.slice A1 n.f4.length c1) := (blk_cell HN1.out 4).trans rfl; replace tc5 : k1.cell? ⟨b5, 5, none⟩ = some (.int .i64 n.f5) := (blk_cell HN1.out 5).trans rfl; replace uc0 : k1.cell? ⟨b8, 0, none⟩ = some (.int .i64 m.f0) := (blk_cell HN2.out 0).trans rfl; replace uc1 : k1.cell? ⟨b8, 1, none⟩ = some (.string m.f1) := (blk_cell HN2.out 1).trans rfl; replace uc2 : k1.cell? ⟨b8, 2, none⟩ = some (.int .i64 m.f2) := (blk_cell HN2.out 2).trans rfl; replace uc3 : k1.cell? ⟨b8, 3, none⟩ = some (.int .u64 m.f3) := (blk_cell HN2.out 3).trans rfl; replace uc4 : k1.cell? ⟨b8, 4, none⟩ = some (.slice A2 m.f4.length c2) := (blk_cell HN2.out 4).trans rfl; replace uc5 : k1.cell? ⟨b8, 5, none⟩ = some (.int .i64 m.f5) := (blk_cell HN2.out 5).trans rfl; have HE1 := Lib.hid hC; have HL7 := Lib.hid hl; clear hl hC hB) | (go_at_call 31; (with_reducible refine (depth_any n W1.out A7 c7 HL7.out _ HE1.out).mono ?_); rintro e_ k2 ⟨rfl, hB⟩; (try replace hB := below_undrew hB); replace KB := Lib.hid (below_step KB.out hB); replace HN1 := Lib.hid (blk_belowU hB HN1.out); replace HN2 := Lib.hid (blk_belowU hB HN2.out); replace HD1 := Lib.hid (Kd.C_below HD1.out hB); replace HD2 := Lib.hid (Kd.C_below HD2.out hB); replace tc0 : k2.cell? ⟨b5, 0, none⟩ = some (.int .i64 n.f0) := (blk_cell HN1.out 0).trans rfl; replace tc1 : k2.cell? ⟨b5, 1, none⟩ = some (.string n.f1) := (blk_cell HN1.out 1).trans rfl; replace tc2 : k2.cell? ⟨b5, 2, none⟩ = some (.int .i64 n.f2) := (blk_cell HN1.out 2).trans rfl; replace tc3 : k2.cell? ⟨b5, 3, none⟩ = some (.int .u64 n.f3) := (blk_cell HN1.out 3).trans rfl; replace tc4 : k2.cell? ⟨b5, 4, none⟩ = some (.slice A1 n.f4.length c1) := (blk_cell HN1.out 4).trans rfl; replace tc5 : k2.cell? ⟨b5, 5, none⟩ = some (.int .i64 n.f5) := (blk_cell HN1.out 5).trans rfl; replace uc0 : k2.cell? ⟨b8, 0, none⟩ = some (.int .i64 m.f0) := (blk_cell HN2.out 0).trans rfl; replace uc1 : k2.cell? ⟨b8, 1, none⟩ = some (.string m.f1) := (blk_cell HN2.out 1).trans rfl; replace uc2 : k2.cell? ⟨b8, 2, none⟩ = some (.int .i64 m.f2) := (blk_cell HN2.out 2).trans rfl; replace uc3 : k2.cell? ⟨b8, 3, none⟩ = some (.int .u64 m.f3) := (blk_cell HN2.out 3).trans rfl; replace uc4 : k2.cell? ⟨b8, 4, none⟩ = some (.slice A2 m.f4.length c2) := (blk_cell HN2.out 4).trans rfl; replace uc5 : k2.cell? ⟨b8, 5, none⟩ = some (.int .i64 m.f5) := (blk_cell HN2.out 5).trans rfl; clear hB) | (go_at_call 25; (with_reducible refine (node_any m W2.out A2 c2 HL2.out _ ?_).mono ?_); (first | exact HD2.out | exact Kd.C_below HD2.out (below_drew1 (Below.refl _ _))); rintro e_ k3 ⟨A8, c8, rfl, hl, hC, hB⟩; (try replace hB := below_undrew hB); replace KB := Lib.hid (below_step KB.out hB); replace HN1 := Lib.hid (blk_belowU hB HN1.out); replace HN2 := Lib.hid (blk_belowU hB HN2.out); replace HD1 := Lib.hid (Kd.C_below HD1.out hB); replace HD2 := Lib.hid (Kd.C_below HD2.out hB); replace tc0 : k3.cell? ⟨b5, 0, none⟩ = some (.int .i64 n.f0) := (blk_cell HN1.out 0).trans rfl; replace tc1 : k3.cell? ⟨b5, 1, none⟩ = some (.string n.f1) := (blk_cell HN1.out 1).trans rfl; replace tc2 : k3.cell? ⟨b5, 2, none⟩ = some (.int .i64 n.f2) := (blk_cell HN1.out 2).trans rfl; replace tc3 : k3.cell? ⟨b5, 3, none⟩ = some (.int .u64 n.f3) := (blk_cell HN1.out 3).trans rfl; replace tc4 : k3.cell? ⟨b5, 4, none⟩ = some (.slice A1 n.f4.length c1) := (blk_cell HN1.out 4).trans rfl; replace tc5 : k3.cell? ⟨b5, 5, none⟩ = some (.int .i64 n.f5) := (blk_cell HN1.out 5).trans rfl; replace uc0 : k3.cell? ⟨b8, 0, none⟩ = some (.int .i64 m.f0) := (blk_cell HN2.out 0).trans rfl; replace uc1 : k3.cell? ⟨b8, 1, none⟩ = some (.string m.f1) := (blk_cell HN2.out 1).trans rfl; replace uc2 : k3.cell? ⟨b8, 2, none⟩ = some (.int .i64 m.f2) := (blk_cell HN2.out 2).trans rfl; replace uc3 : k3.cell? ⟨b8, 3, none⟩ = some (.int .u64 m.f3) := (blk_cell HN2.out 3).trans rfl; replace uc4 : k3.cell? ⟨b8, 4, none⟩ = some (.slice A2 m.f4.length c2) := (blk_cell HN2.out 4).trans rfl; replace uc5 : k3.cell? ⟨b8, 5, none⟩ = some (.int .i64 m.f5) := (blk_cell HN2.out 5).trans rfl; have HE2 := Lib.hid hC; have HL8 := Lib.hid hl; clear hl hC hB) | (go_at_call 31; (with_reducible refine (depth_any m W2.out A8 c8 HL8.out _ HE2.out).mono ?_); rintro e_ k4 ⟨rfl, hB⟩; (try replace hB := below_undrew hB); replace KB := Lib.hid (below_step KB.out hB); replace HN1 := Lib.hid (blk_belowU hB HN1.out); replace HN2 := Lib.hid (blk_belowU hB HN2.out); replace HD1 := Lib.hid (Kd.C_below HD1.out hB); replace HD2 := Lib.hid (Kd.C_below HD2.out hB); replace tc0 : k4.cell? ⟨b5, 0, none⟩ = some (.int .i64 n.f0) := (blk_cell HN1.out 0).trans rfl; replace tc1 : k4.cell? ⟨b5, 1, none⟩ = some (.string n.f1) := (blk_cell HN1.out 1).trans rfl; replace tc2 : k4.cell? ⟨b5, 2, none⟩ = some (.int .i64 n.f2) := (blk_cell HN1.out 2).trans rfl; replace tc3 : k4.cell? ⟨b5, 3, none⟩ = some (.int .u64 n.f3) := (blk_cell HN1.out 3).trans rfl; replace tc4 : k4.cell? ⟨b5, 4, none⟩ = some (.slice A1 n.f4.length c1) := (blk_cell HN1.out 4).trans rfl; replace tc5 : k4.cell? ⟨b5, 5, none⟩ = some (.int .i64 n.f5) := (blk_cell HN1.out 5).trans rfl; replace uc0 : k4.cell? ⟨b8, 0, none⟩ = some (.int .i64 m.f0) := (blk_cell HN2.out 0).trans rfl; replace uc1 : k4.cell? ⟨b8, 1, none⟩ = some (.string m.f1) := (blk_cell HN2.out 1).trans rfl; replace uc2 : k4.cell? ⟨b8, 2, none⟩ = some (.int .i64 m.f2) := (blk_cell HN2.out 2).trans rfl; replace uc3 : k4.cell? ⟨b8, 3, none⟩ = some (.int .u64 m.f3) := (blk_cell HN2.out 3).trans rfl; replace uc4 : k4.cell? ⟨b8, 4, none⟩ = some (.slice A2 m.f4.length c2) := (blk_cell HN2.out 4).trans rfl; replace uc5 : k4.cell? ⟨b8, 5, none⟩ = some (.int .i64 m.f5) := (blk_cell HN2.out 5).trans rfl; clear hB))
            go_ret
            exact ⟨rfl, KB.out⟩
        · have q4 : decide ((24 : Int) ≤ (depthT n : Int)) = true := decide_eq_true (by omega)
          clear HOK h1 h2 h3 h4
          go_wp2_with (first | (go_at_call 25; (with_reducible refine (node_any n W1.out A1 c1 HL1.out _ ?_).mono ?_); (first | exact HD1.out | exact Kd.C_below HD1.out (below_drew1 (Below.refl _ _))); rintro e_ k1 ⟨A7, c7, rfl, hl, hC, hB⟩; (try replace hB := below_undrew hB); replace KB := Lib.hid (below_step KB.out hB); replace HN1 := Lib.hid (blk_belowU hB HN1.out); replace HN2 := Lib.hid (blk_belowU hB HN2.out); replace HD1 := Lib.hid (Kd.C_below HD1.out hB); replace HD2 := Lib.hid (Kd.C_below HD2.out hB); replace tc0 : k1.cell? ⟨b5, 0, none⟩ = some (.int .i64 n.f0) := (blk_cell HN1.out 0).trans rfl; replace tc1 : k1.cell? ⟨b5, 1, none⟩ = some (.string n.f1) := (blk_cell HN1.out 1).trans rfl; replace tc2 : k1.cell? ⟨b5, 2, none⟩ = some (.int .i64 n.f2) := (blk_cell HN1.out 2).trans rfl; replace tc3 : k1.cell? ⟨b5, 3, none⟩ = some (.int .u64 n.f3) := (blk_cell HN1.out 3).trans rfl; replace tc4 : k1.cell? ⟨b5, 4, none⟩ = some (.slice A1 n.f4.length c1) := (blk_cell HN1.out 4).trans rfl; replace tc5 : k1.cell? ⟨b5, 5, none⟩ = some (.int .i64 n.f5) := (blk_cell HN1.out 5).trans rfl; replace uc0 : k1.cell? ⟨b8, 0, none⟩ = some (.int .i64 m.f0) := (blk_cell HN2.out 0).trans rfl; replace uc1 : k1.cell? ⟨b8, 1, none⟩ = some (.string m.f1) := (blk_cell HN2.out 1).trans rfl; replace uc2 : k1.cell? ⟨b8, 2, none⟩ = some (.int .i64 m.f2) := (blk_cell HN2.out 2).trans rfl; replace uc3 : k1.cell? ⟨b8, 3, none⟩ = some (.int .u64 m.f3) := (blk_cell HN2.out 3).trans rfl; replace uc4 : k1.cell? ⟨b8, 4, none⟩ = some (.slice A2 m.f4.length c2) := (blk_cell HN2.out 4).trans rfl; replace uc5 : k1.cell? ⟨b8, 5, none⟩ = some (.int .i64 m.f5) := (blk_cell HN2.out 5).trans rfl; have HE1 := Lib.hid hC; have HL7 := Lib.hid hl; clear hl hC hB) | (go_at_call 31; (with_reducible refine (depth_any n W1.out A7 c7 HL7.out _ HE1.out).mono ?_); rintro e_ k2 ⟨rfl, hB⟩; (try replace hB := below_undrew hB); replace KB := Lib.hid (below_step KB.out hB); replace HN1 := Lib.hid (blk_belowU hB HN1.out); replace HN2 := Lib.hid (blk_belowU hB HN2.out); replace HD1 := Lib.hid (Kd.C_below HD1.out hB); replace HD2 := Lib.hid (Kd.C_below HD2.out hB); replace tc0 : k2.cell? ⟨b5, 0, none⟩ = some (.int .i64 n.f0) := (blk_cell HN1.out 0).trans rfl; replace tc1 : k2.cell? ⟨b5, 1, none⟩ = some (.string n.f1) := (blk_cell HN1.out 1).trans rfl; replace tc2 : k2.cell? ⟨b5, 2, none⟩ = some (.int .i64 n.f2) := (blk_cell HN1.out 2).trans rfl; replace tc3 : k2.cell? ⟨b5, 3, none⟩ = some (.int .u64 n.f3) := (blk_cell HN1.out 3).trans rfl; replace tc4 : k2.cell? ⟨b5, 4, none⟩ = some (.slice A1 n.f4.length c1) := (blk_cell HN1.out 4).trans rfl; replace tc5 : k2.cell? ⟨b5, 5, none⟩ = some (.int .i64 n.f5) := (blk_cell HN1.out 5).trans rfl; replace uc0 : k2.cell? ⟨b8, 0, none⟩ = some (.int .i64 m.f0) := (blk_cell HN2.out 0).trans rfl; replace uc1 : k2.cell? ⟨b8, 1, none⟩ = some (.string m.f1) := (blk_cell HN2.out 1).trans rfl; replace uc2 : k2.cell? ⟨b8, 2, none⟩ = some (.int .i64 m.f2) := (blk_cell HN2.out 2).trans rfl; replace uc3 : k2.cell? ⟨b8, 3, none⟩ = some (.int .u64 m.f3) := (blk_cell HN2.out 3).trans rfl; replace uc4 : k2.cell? ⟨b8, 4, none⟩ = some (.slice A2 m.f4.length c2) := (blk_cell HN2.out 4).trans rfl; replace uc5 : k2.cell? ⟨b8, 5, none⟩ = some (.int .i64 m.f5) := (blk_cell HN2.out 5).trans rfl; clear hB) | (go_at_call 25; (with_reducible refine (node_any m W2.out A2 c2 HL2.out _ ?_).mono ?_); (first | exact HD2.out | exact Kd.C_below HD2.out (below_drew1 (Below.refl _ _))); rintro e_ k3 ⟨A8, c8, rfl, hl, hC, hB⟩; (try replace hB := below_undrew hB); replace KB := Lib.hid (below_step KB.out hB); replace HN1 := Lib.hid (blk_belowU hB HN1.out); replace HN2 := Lib.hid (blk_belowU hB HN2.out); replace HD1 := Lib.hid (Kd.C_below HD1.out hB); replace HD2 := Lib.hid (Kd.C_below HD2.out hB); replace tc0 : k3.cell? ⟨b5, 0, none⟩ = some (.int .i64 n.f0) := (blk_cell HN1.out 0).trans rfl; replace tc1 : k3.cell? ⟨b5, 1, none⟩ = some (.string n.f1) := (blk_cell HN1.out 1).trans rfl; replace tc2 : k3.cell? ⟨b5, 2, none⟩ = some (.int .i64 n.f2) := (blk_cell HN1.out 2).trans rfl; replace tc3 : k3.cell? ⟨b5, 3, none⟩ = some (.int .u64 n.f3) := (blk_cell HN1.out 3).trans rfl; replace tc4 : k3.cell? ⟨b5, 4, none⟩ = some (.slice A1 n.f4.length c1) := (blk_cell HN1.out 4).trans rfl; replace tc5 : k3.cell? ⟨b5, 5, none⟩ = some (.int .i64 n.f5) := (blk_cell HN1.out 5).trans rfl; replace uc0 : k3.cell? ⟨b8, 0, none⟩ = some (.int .i64 m.f0) := (blk_cell HN2.out 0).trans rfl; replace uc1 : k3.cell? ⟨b8, 1, none⟩ = some (.string m.f1) := (blk_cell HN2.out 1).trans rfl; replace uc2 : k3.cell? ⟨b8, 2, none⟩ = some (.int .i64 m.f2) := (blk_cell HN2.out 2).trans rfl; replace uc3 : k3.cell? ⟨b8, 3, none⟩ = some (.int .u64 m.f3) := (blk_cell HN2.out 3).trans rfl; replace uc4 : k3.cell? ⟨b8, 4, none⟩ = some (.slice A2 m.f4.length c2) := (blk_cell HN2.out 4).trans rfl; replace uc5 : k3.cell? ⟨b8, 5, none⟩ = some (.int .i64 m.f5) := (blk_cell HN2.out 5).trans rfl; have HE2 := Lib.hid hC; have HL8 := Lib.hid hl; clear hl hC hB) | (go_at_call 31; (with_reducible refine (depth_any m W2.out A8 c8 HL8.out _ HE2.out).mono ?_); rintro e_ k4 ⟨rfl, hB⟩; (try replace hB := below_undrew hB); replace KB := Lib.hid (below_step KB.out hB); replace HN1 := Lib.hid (blk_belowU hB HN1.out); replace HN2 := Lib.hid (blk_belowU hB HN2.out); replace HD1 := Lib.hid (Kd.C_below HD1.out hB); replace HD2 := Lib.hid (Kd.C_below HD2.out hB); replace tc0 : k4.cell? ⟨b5, 0, none⟩ = some (.int .i64 n.f0) := (blk_cell HN1.out 0).trans rfl; replace tc1 : k4.cell? ⟨b5, 1, none⟩ = some (.string n.f1) := (blk_cell HN1.out 1).trans rfl; replace tc2 : k4.cell? ⟨b5, 2, none⟩ = some (.int .i64 n.f2) := (blk_cell HN1.out 2).trans rfl; replace tc3 : k4.cell? ⟨b5, 3, none⟩ = some (.int .u64 n.f3) := (blk_cell HN1.out 3).trans rfl; replace tc4 : k4.cell? ⟨b5, 4, none⟩ = some (.slice A1 n.f4.length c1) := (blk_cell HN1.out 4).trans rfl; replace tc5 : k4.cell? ⟨b5, 5, none⟩ = some (.int .i64 n.f5) := (blk_cell HN1.out 5).trans rfl; replace uc0 : k4.cell? ⟨b8, 0, none⟩ = some (.int .i64 m.f0) := (blk_cell HN2.out 0).trans rfl; replace uc1 : k4.cell? ⟨b8, 1, none⟩ = some (.string m.f1) := (blk_cell HN2.out 1).trans rfl; replace uc2 : k4.cell? ⟨b8, 2, none⟩ = some (.int .i64 m.f2) := (blk_cell HN2.out 2).trans rfl; replace uc3 : k4.cell? ⟨b8, 3, none⟩ = some (.int .u64 m.f3) := (blk_cell HN2.out 3).trans rfl; replace uc4 : k4.cell? ⟨b8, 4, none⟩ = some (.slice A2 m.f4.length c2) := (blk_cell HN2.out 4).trans rfl; replace uc5 : k4.cell? ⟨b8, 5, none⟩ = some (.int .i64 m.f5) := (blk_cell HN2.out 5).trans rfl; clear hB))
          go_ret
          exact ⟨rfl, KB.out⟩
      · have q3 : decide ((1000 : Int) < (a0.size : Int) + (a1.size : Int)) = true := decide_eq_true (by omega)
        clear HOK h1 h2 h3
        go_wp2_with (first | (go_at_call 25; (with_reducible refine (node_any n W1.out A1 c1 HL1.out _ ?_).mono ?_); (first | exact HD1.out | exact Kd.C_below HD1.out (below_drew1 (Below.refl _ _))); rintro e_ k1 ⟨A7, c7, rfl, hl, hC, hB⟩; (try replace hB := below_undrew hB); replace KB := Lib.hid (below_step KB.out hB); replace HN1 := Lib.hid (blk_belowU hB HN1.out); replace HN2 := Lib.hid (blk_belowU hB HN2.out); replace HD1 := Lib.hid (Kd.C_below HD1.out hB); replace HD2 := Lib.hid (Kd.C_below HD2.out hB); replace tc0 : k1.cell? ⟨b5, 0, none⟩ = some (.int .i64 n.f0) := (blk_cell HN1.out 0).trans rfl; replace tc1 : k1.cell? ⟨b5, 1, none⟩ = some (.string n.f1) := (blk_cell HN1.out 1).trans rfl; replace tc2 : k1.cell? ⟨b5, 2, none⟩ = some (.int .i64 n.f2) := (blk_cell HN1.out 2).trans rfl; replace tc3 : k1.cell? ⟨b5, 3, none⟩ = some (.int .u64 n.f3) := (blk_cell HN1.out 3).trans rfl; replace tc4 : k1.cell? ⟨b5, 4, none⟩ = some (.slice A1 n.f4.length c1) := (blk_cell HN1.out 4).trans rfl; replace tc5 : k1.cell? ⟨b5, 5, none⟩ = some (.int .i64 n.f5) := (blk_cell HN1.out 5).trans rfl; replace uc0 : k1.cell? ⟨b8, 0, none⟩ = some (.int .i64 m.f0) := (blk_cell HN2.out 0).trans rfl; replace uc1 : k1.cell? ⟨b8, 1, none⟩ = some (.string m.f1) := (blk_cell HN2.out 1).trans rfl; replace uc2 : k1.cell? ⟨b8, 2, none⟩ = some (.int .i64 m.f2) := (blk_cell HN2.out 2).trans rfl; replace uc3 : k1.cell? ⟨b8, 3, none⟩ = some (.int .u64 m.f3) := (blk_cell HN2.out 3).trans rfl; replace uc4 : k1.cell? ⟨b8, 4, none⟩ = some (.slice A2 m.f4.length c2) := (blk_cell HN2.out 4).trans rfl; replace uc5 : k1.cell? ⟨b8, 5, none⟩ = some (.int .i64 m.f5) := (blk_cell HN2.out 5).trans rfl; have HE1 := Lib.hid hC; have HL7 := Lib.hid hl; clear hl hC hB) | (go_at_call 31; (with_reducible refine (depth_any n W1.out A7 c7 HL7.out _ HE1.out).mono ?_); rintro e_ k2 ⟨rfl, hB⟩; (try replace hB := below_undrew hB); replace KB := Lib.hid (below_step KB.out hB); replace HN1 := Lib.hid (blk_belowU hB HN1.out); replace HN2 := Lib.hid (blk_belowU hB HN2.out); replace HD1 := Lib.hid (Kd.C_below HD1.out hB); replace HD2 := Lib.hid (Kd.C_below HD2.out hB); replace tc0 : k2.cell? ⟨b5, 0, none⟩ = some (.int .i64 n.f0) := (blk_cell HN1.out 0).trans rfl; replace tc1 : k2.cell? ⟨b5, 1, none⟩ = some (.string n.f1) := (blk_cell HN1.out 1).trans rfl; replace tc2 : k2.cell? ⟨b5, 2, none⟩ = some (.int .i64 n.f2) := (blk_cell HN1.out 2).trans rfl; replace tc3 : k2.cell? ⟨b5, 3, none⟩ = some (.int .u64 n.f3) := (blk_cell HN1.out 3).trans rfl; replace tc4 : k2.cell? ⟨b5, 4, none⟩ = some (.slice A1 n.f4.length c1) := (blk_cell HN1.out 4).trans rfl; replace tc5 : k2.cell? ⟨b5, 5, none⟩ = some (.int .i64 n.f5) := (blk_cell HN1.out 5).trans rfl; replace uc0 : k2.cell? ⟨b8, 0, none⟩ = some (.int .i64 m.f0) := (blk_cell HN2.out 0).trans rfl; replace uc1 : k2.cell? ⟨b8, 1, none⟩ = some (.string m.f1) := (blk_cell HN2.out 1).trans rfl; replace uc2 : k2.cell? ⟨b8, 2, none⟩ = some (.int .i64 m.f2) := (blk_cell HN2.out 2).trans rfl; replace uc3 : k2.cell? ⟨b8, 3, none⟩ = some (.int .u64 m.f3) := (blk_cell HN2.out 3).trans rfl; replace uc4 : k2.cell? ⟨b8, 4, none⟩ = some (.slice A2 m.f4.length c2) := (blk_cell HN2.out 4).trans rfl; replace uc5 : k2.cell? ⟨b8, 5, none⟩ = some (.int .i64 m.f5) := (blk_cell HN2.out 5).trans rfl; clear hB) | (go_at_call 25; (with_reducible refine (node_any m W2.out A2 c2 HL2.out _ ?_).mono ?_); (first | exact HD2.out | exact Kd.C_below HD2.out (below_drew1 (Below.refl _ _))); rintro e_ k3 ⟨A8, c8, rfl, hl, hC, hB⟩; (try replace hB := below_undrew hB); replace KB := Lib.hid (below_step KB.out hB); replace HN1 := Lib.hid (blk_belowU hB HN1.out); replace HN2 := Lib.hid (blk_belowU hB HN2.out); replace HD1 := Lib.hid (Kd.C_below HD1.out hB); replace HD2 := Lib.hid (Kd.C_below HD2.out hB); replace tc0 : k3.cell? ⟨b5, 0, none⟩ = some (.int .i64 n.f0) := (blk_cell HN1.out 0).trans rfl; replace tc1 : k3.cell? ⟨b5, 1, none⟩ = some (.string n.f1) := (blk_cell HN1.out 1).trans rfl; replace tc2 : k3.cell? ⟨b5, 2, none⟩ = some (.int .i64 n.f2) := (blk_cell HN1.out 2).trans rfl; replace tc3 : k3.cell? ⟨b5, 3, none⟩ = some (.int .u64 n.f3) := (blk_cell HN1.out 3).trans rfl; replace tc4 : k3.cell? ⟨b5, 4, none⟩ = some (.slice A1 n.f4.length c1) := (blk_cell HN1.out 4).trans rfl; replace tc5 : k3.cell? ⟨b5, 5, none⟩ = some (.int .i64 n.f5) := (blk_cell HN1.out 5).trans rfl; replace uc0 : k3.cell? ⟨b8, 0, none⟩ = some (.int .i64 m.f0) := (blk_cell HN2.out 0).trans rfl; replace uc1 : k3.cell? ⟨b8, 1, none⟩ = some (.string m.f1) := (blk_cell HN2.out 1).trans rfl; replace uc2 : k3.cell? ⟨b8, 2, none⟩ = some (.int .i64 m.f2) := (blk_cell HN2.out 2).trans rfl; replace uc3 : k3.cell? ⟨b8, 3, none⟩ = some (.int .u64 m.f3) := (blk_cell HN2.out 3).trans rfl; replace uc4 : k3.cell? ⟨b8, 4, none⟩ = some (.slice A2 m.f4.length c2) := (blk_cell HN2.out 4).trans rfl; replace uc5 : k3.cell? ⟨b8, 5, none⟩ = some (.int .i64 m.f5) := (blk_cell HN2.out 5).trans rfl; have HE2 := Lib.hid hC; have HL8 := Lib.hid hl; clear hl hC hB) | (go_at_call 31; (with_reducible refine (depth_any m W2.out A8 c8 HL8.out _ HE2.out).mono ?_); rintro e_ k4 ⟨rfl, hB⟩; (try replace hB := below_undrew hB); replace KB := Lib.hid (below_step KB.out hB); replace HN1 := Lib.hid (blk_belowU hB HN1.out); replace HN2 := Lib.hid (blk_belowU hB HN2.out); replace HD1 := Lib.hid (Kd.C_below HD1.out hB); replace HD2 := Lib.hid (Kd.C_below HD2.out hB); replace tc0 : k4.cell? ⟨b5, 0, none⟩ = some (.int .i64 n.f0) := (blk_cell HN1.out 0).trans rfl; replace tc1 : k4.cell? ⟨b5, 1, none⟩ = some (.string n.f1) := (blk_cell HN1.out 1).trans rfl; replace tc2 : k4.cell? ⟨b5, 2, none⟩ = some (.int .i64 n.f2) := (blk_cell HN1.out 2).trans rfl; replace tc3 : k4.cell? ⟨b5, 3, none⟩ = some (.int .u64 n.f3) := (blk_cell HN1.out 3).trans rfl; replace tc4 : k4.cell? ⟨b5, 4, none⟩ = some (.slice A1 n.f4.length c1) := (blk_cell HN1.out 4).trans rfl; replace tc5 : k4.cell? ⟨b5, 5, none⟩ = some (.int .i64 n.f5) := (blk_cell HN1.out 5).trans rfl; replace uc0 : k4.cell? ⟨b8, 0, none⟩ = some (.int .i64 m.f0) := (blk_cell HN2.out 0).trans rfl; replace uc1 : k4.cell? ⟨b8, 1, none⟩ = some (.string m.f1) := (blk_cell HN2.out 1).trans rfl; replace uc2 : k4.cell? ⟨b8, 2, none⟩ = some (.int .i64 m.f2) := (blk_cell HN2.out 2).trans rfl; replace uc3 : k4.cell? ⟨b8, 3, none⟩ = some (.int .u64 m.f3) := (blk_cell HN2.out 3).trans rfl; replace uc4 : k4.cell? ⟨b8, 4, none⟩ = some (.slice A2 m.f4.length c2) := (blk_cell HN2.out 4).trans rfl; replace uc5 : k4.cell? ⟨b8, 5, none⟩ = some (.int .i64 m.f5) := (blk_cell HN2.out 5).trans rfl; clear hB))
        go_ret
        exact ⟨rfl, KB.out⟩
    · have q2 : (em != 0) = true := bne_iff_ne.2 h2
      clear HOK h1 h2
      go_wp2_with (first | (go_at_call 25; (with_reducible refine (node_any n W1.out A1 c1 HL1.out _ ?_).mono ?_); (first | exact HD1.out | exact Kd.C_below HD1.out (below_drew1 (Below.refl _ _))); rintro e_ k1 ⟨A7, c7, rfl, hl, hC, hB⟩; (try replace hB := below_undrew hB); replace KB := Lib.hid (below_step KB.out hB); replace HN1 := Lib.hid (blk_belowU hB HN1.out); replace HN2 := Lib.hid (blk_belowU hB HN2.out); replace HD1 := Lib.hid (Kd.C_below HD1.out hB); replace HD2 := Lib.hid (Kd.C_below HD2.out hB); replace tc0 : k1.cell? ⟨b5, 0, none⟩ = some (.int .i64 n.f0) := (blk_cell HN1.out 0).trans rfl; replace tc1 : k1.cell? ⟨b5, 1, none⟩ = some (.string n.f1) := (blk_cell HN1.out 1).trans rfl; replace tc2 : k1.cell? ⟨b5, 2, none⟩ = some (.int .i64 n.f2) := (blk_cell HN1.out 2).trans rfl; replace tc3 : k1.cell? ⟨b5, 3, none⟩ = some (.int .u64 n.f3) := (blk_cell HN1.out 3).trans rfl; replace tc4 : k1.cell? ⟨b5, 4, none⟩ = some (.slice A1 n.f4.length c1) := (blk_cell HN1.out 4).trans rfl; replace tc5 : k1.cell? ⟨b5, 5, none⟩ = some (.int .i64 n.f5) := (blk_cell HN1.out 5).trans rfl; replace uc0 : k1.cell? ⟨b8, 0, none⟩ = some (.int .i64 m.f0) := (blk_cell HN2.out 0).trans rfl; replace uc1 : k1.cell? ⟨b8, 1, none⟩ = some (.string m.f1) := (blk_cell HN2.out 1).trans rfl; replace uc2 : k1.cell? ⟨b8, 2, none⟩ = some (.int .i64 m.f2) := (blk_cell HN2.out 2).trans rfl; replace uc3 : k1.cell? ⟨b8, 3, none⟩ = some (.int .u64 m.f3) := (blk_cell HN2.out 3).trans rfl; replace uc4 : k1.cell? ⟨b8, 4, none⟩ = some (.slice A2 m.f4.length c2) := (blk_cell HN2.out 4).trans rfl; replace uc5 : k1.cell? ⟨b8, 5, none⟩ = some (.int .i64 m.f5) := (blk_cell HN2.out 5).trans rfl; have HE1 := Lib.hid hC; have HL7 := Lib.hid hl; clear hl hC hB) | (go_at_call 31; (with_reducible refine (depth_any n W1.out A7 c7 HL7.out _ HE1.out).mono ?_); rintro e_ k2 ⟨rfl, hB⟩; (try replace hB := below_undrew hB); replace KB := Lib.hid (below_step KB.out hB); replace HN1 := Lib.hid (blk_belowU hB HN1.out); replace HN2 := Lib.hid (blk_belowU hB HN2.out); replace HD1 := Lib.hid (Kd.C_below HD1.out hB); replace HD2 := Lib.hid (Kd.C_below HD2.out hB); replace tc0 : k2.cell? ⟨b5, 0, none⟩ = some (.int .i64 n.f0) := (blk_cell HN1.out 0).trans rfl; replace tc1 : k2.cell? ⟨b5, 1, none⟩ = some (.string n.f1) := (blk_cell HN1.out 1).trans rfl; replace tc2 : k2.cell? ⟨b5, 2, none⟩ = some (.int .i64 n.f2) := (blk_cell HN1.out 2).trans rfl; replace tc3 : k2.cell? ⟨b5, 3, none⟩ = some (.int .u64 n.f3) := (blk_cell HN1.out 3).trans rfl; replace tc4 : k2.cell? ⟨b5, 4, none⟩ = some (.slice A1 n.f4.length c1) := (blk_cell HN1.out 4).trans rfl; replace tc5 : k2.cell? ⟨b5, 5, none⟩ = some (.int .i64 n.f5) := (blk_cell HN1.out 5).trans rfl; replace uc0 : k2.cell? ⟨b8, 0, none⟩ = some (.int .i64 m.f0) := (blk_cell HN2.out 0).trans rfl; replace uc1 : k2.cell? ⟨b8, 1, none⟩ = some (.string m.f1) := (blk_cell HN2.out 1).trans rfl; replace uc2 : k2.cell? ⟨b8, 2, none⟩ = some (.int .i64 m.f2) := (blk_cell HN2.out 2).trans rfl; replace uc3 : k2.cell? ⟨b8, 3, none⟩ = some (.int .u64 m.f3) := (blk_cell HN2.out 3).trans rfl; replace uc4 : k2.cell? ⟨b8, 4, none⟩ = some (.slice A2 m.f4.length c2) := (blk_cell HN2.out 4).trans rfl; replace uc5 : k2.cell? ⟨b8, 5, none⟩ = some (.int .i64 m.f5) := (blk_cell HN2.out 5).trans rfl; clear hB) | (go_at_call 25; (with_reducible refine (node_any m W2.out A2 c2 HL2.out _ ?_).mono ?_); (first | exact HD2.out | exact Kd.C_below HD2.out (below_drew1 (Below.refl _ _))); rintro e_ k3 ⟨A8, c8, rfl, hl, hC, hB⟩; (try replace hB := below_undrew hB); replace KB := Lib.hid (below_step KB.out hB); replace HN1 := Lib.hid (blk_belowU hB HN1.out); replace HN2 := Lib.hid (blk_belowU hB HN2.out); replace HD1 := Lib.hid (Kd.C_below HD1.out hB); replace HD2 := Lib.hid (Kd.C_below HD2.out hB); replace tc0 : k3.cell? ⟨b5, 0, none⟩ = some (.int .i64 n.f0) := (blk_cell HN1.out 0).trans rfl; replace tc1 : k3.cell? ⟨b5, 1, none⟩ = some (.string n.f1) := (blk_cell HN1.out 1).trans rfl; replace tc2 : k3.cell? ⟨b5, 2, none⟩ = some (.int .i64 n.f2) := (blk_cell HN1.out 2).trans rfl; replace tc3 : k3.cell? ⟨b5, 3, none⟩ = some (.int .u64 n.f3) := (blk_cell HN1.out 3).trans rfl; replace tc4 : k3.cell? ⟨b5, 4, none⟩ = some (.slice A1 n.f4.length c1) := (blk_cell HN1.out 4).trans rfl; replace tc5 : k3.cell? ⟨b5, 5, none⟩ = some (.int .i64 n.f5) := (blk_cell HN1.out 5).trans rfl; replace uc0 : k3.cell? ⟨b8, 0, none⟩ = some (.int .i64 m.f0) := (blk_cell HN2.out 0).trans rfl; replace uc1 : k3.cell? ⟨b8, 1, none⟩ = some (.string m.f1) := (blk_cell HN2.out 1).trans rfl; replace uc2 : k3.cell? ⟨b8, 2, none⟩ = some (.int .i64 m.f2) := (blk_cell HN2.out 2).trans rfl; replace uc3 : k3.cell? ⟨b8, 3, none⟩ = some (.int .u64 m.f3) := (blk_cell HN2.out 3).trans rfl; replace uc4 : k3.cell? ⟨b8, 4, none⟩ = some (.slice A2 m.f4.length c2) := (blk_cell HN2.out 4).trans rfl; replace uc5 : k3.cell? ⟨b8, 5, none⟩ = some (.int .i64 m.f5) := (blk_cell HN2.out 5).trans rfl; have HE2 := Lib.hid hC; have HL8 := Lib.hid hl; clear hl hC hB) | (go_at_call 31; (with_reducible refine (depth_any m W2.out A8 c8 HL8.out _ HE2.out).mono ?_); rintro e_ k4 ⟨rfl, hB⟩; (try replace hB := below_undrew hB); replace KB := Lib.hid (below_step KB.out hB); replace HN1 := Lib.hid (blk_belowU hB HN1.out); replace HN2 := Lib.hid (blk_belowU hB HN2.out); replace HD1 := Lib.hid (Kd.C_below HD1.out hB); replace HD2 := Lib.hid (Kd.C_below HD2.out hB); replace tc0 : k4.cell? ⟨b5, 0, none⟩ = some (.int .i64 n.f0) := (blk_cell HN1.out 0).trans rfl; replace tc1 : k4.cell? ⟨b5, 1, none⟩ = some (.string n.f1) := (blk_cell HN1.out 1).trans rfl; replace tc2 : k4.cell? ⟨b5, 2, none⟩ = some (.int .i64 n.f2) := (blk_cell HN1.out 2).trans rfl; replace tc3 : k4.cell? ⟨b5, 3, none⟩ = some (.int .u64 n.f3) := (blk_cell HN1.out 3).trans rfl; replace tc4 : k4.cell? ⟨b5, 4, none⟩ = some (.slice A1 n.f4.length c1) := (blk_cell HN1.out 4).trans rfl; replace tc5 : k4.cell? ⟨b5, 5, none⟩ = some (.int .i64 n.f5) := (blk_cell HN1.out 5).trans rfl; replace uc0 : k4.cell? ⟨b8, 0, none⟩ = some (.int .i64 m.f0) := (blk_cell HN2.out 0).trans rfl; replace uc1 : k4.cell? ⟨b8, 1, none⟩ = some (.string m.f1) := (blk_cell HN2.out 1).trans rfl; replace uc2 : k4.cell? ⟨b8, 2, none⟩ = some (.int .i64 m.f2) := (blk_cell HN2.out 2).trans rfl; replace uc3 : k4.cell? ⟨b8, 3, none⟩ = some (.int .u64 m.f3) := (blk_cell HN2.out 3).trans rfl; replace uc4 : k4.cell? ⟨b8, 4, none⟩ = some (.slice A2 m.f4.length c2) := (blk_cell HN2.out 4).trans rfl; replace uc5 : k4.cell? ⟨b8, 5, none⟩ = some (.int .i64 m.f5) := (blk_cell HN2.out 5).trans rfl; clear hB))
      go_ret
      exact ⟨rfl, KB.out⟩
  · have q1 : (en != 0) = true := bne_iff_ne.2 h1
    clear HOK h1
    go_wp2_with (first | (go_at_call 25; (with_reducible refine (node_any n W1.out A1 c1 HL1.out _ ?_).mono ?_); (first | exact HD1.out | exact Kd.C_below HD1.out (below_drew1 (Below.refl _ _))); rintro e_ k1 ⟨A7, c7, rfl, hl, hC, hB⟩; (try replace hB := below_undrew hB); replace KB := Lib.hid (below_step KB.out hB); replace HN1 := Lib.hid (blk_belowU hB HN1.out); replace HN2 := Lib.hid (blk_belowU hB HN2.out); replace HD1 := Lib.hid (Kd.C_below HD1.out hB); replace HD2 := Lib.hid (Kd.C_below HD2.out hB); replace tc0 : k1.cell? ⟨b5, 0, none⟩ = some (.int .i64 n.f0) := (blk_cell HN1.out 0).trans rfl; replace tc1 : k1.cell? ⟨b5, 1, none⟩ = some (.string n.f1) := (blk_cell HN1.out 1).trans rfl; replace tc2 : k1.cell? ⟨b5, 2, none⟩ = some (.int .i64 n.f2) := (blk_cell HN1.out 2).trans rfl; replace tc3 : k1.cell? ⟨b5, 3, none⟩ = some (.int .u64 n.f3) := (blk_cell HN1.out 3).trans rfl; replace tc4 : k1.cell? ⟨b5, 4, none⟩ = some (.slice A1 n.f4.length c1) := (blk_cell HN1.out 4).trans rfl; replace tc5 : k1.cell? ⟨b5, 5, none⟩ = some (.int .i64 n.f5) := (blk_cell HN1.out 5).trans rfl; replace uc0 : k1.cell? ⟨b8, 0, none⟩ = some (.int .i64 m.f0) := (blk_cell HN2.out 0).trans rfl; replace uc1 : k1.cell? ⟨b8, 1, none⟩ = some (.string m.f1) := (blk_cell HN2.out 1).trans rfl; replace uc2 : k1.cell? ⟨b8, 2, none⟩ = some (.int .i64 m.f2) := (blk_cell HN2.out 2).trans rfl; replace uc3 : k1.cell? ⟨b8, 3, none⟩ = some (.int .u64 m.f3) := (blk_cell HN2.out 3).trans rfl; replace uc4 : k1.cell? ⟨b8, 4, none⟩ = some (.slice A2 m.f4.length c2) := (blk_cell HN2.out 4).trans rfl; replace uc5 : k1.cell? ⟨b8, 5, none⟩ = some (.int .i64 m.f5) := (blk_cell HN2.out 5).trans rfl; have HE1 := Lib.hid hC; have HL7 := Lib.hid hl; clear hl hC hB) | (go_at_call 31; (with_reducible refine (depth_any n W1.out A7 c7 HL7.out _ HE1.out).mono ?_); rintro e_ k2 ⟨rfl, hB⟩; (try replace hB := below_undrew hB); replace KB := Lib.hid (below_step KB.out hB); replace HN1 := Lib.hid (blk_belowU hB HN1.out); replace HN2 := Lib.hid (blk_belowU hB HN2.out); replace HD1 := Lib.hid (Kd.C_below HD1.out hB); replace HD2 := Lib.hid (Kd.C_below HD2.out hB); replace tc0 : k2.cell? ⟨b5, 0, none⟩ = some (.int .i64 n.f0) := (blk_cell HN1.out 0).trans rfl; replace tc1 : k2.cell? ⟨b5, 1, none⟩ = some (.string n.f1) := (blk_cell HN1.out 1).trans rfl; replace tc2 : k2.cell? ⟨b5, 2, none⟩ = some (.int .i64 n.f2) := (blk_cell HN1.out 2).trans rfl; replace tc3 : k2.cell? ⟨b5, 3, none⟩ = some (.int .u64 n.f3) := (blk_cell HN1.out 3).trans rfl; replace tc4 : k2.cell? ⟨b5, 4, none⟩ = some (.slice A1 n.f4.length c1) := (blk_cell HN1.out 4).trans rfl; replace tc5 : k2.cell? ⟨b5, 5, none⟩ = some (.int .i64 n.f5) := (blk_cell HN1.out 5).trans rfl; replace uc0 : k2.cell? ⟨b8, 0, none⟩ = some (.int .i64 m.f0) := (blk_cell HN2.out 0).trans rfl; replace uc1 : k2.cell? ⟨b8, 1, none⟩ = some (.string m.f1) := (blk_cell HN2.out 1).trans rfl; replace uc2 : k2.cell? ⟨b8, 2, none⟩ = some (.int .i64 m.f2) := (blk_cell HN2.out 2).trans rfl; replace uc3 : k2.cell? ⟨b8, 3, none⟩ = some (.int .u64 m.f3) := (blk_cell HN2.out 3).trans rfl; replace uc4 : k2.cell? ⟨b8, 4, none⟩ = some (.slice A2 m.f4.length c2) := (blk_cell HN2.out 4).trans rfl; replace uc5 : k2.cell? ⟨b8, 5, none⟩ = some (.int .i64 m.f5) := (blk_cell HN2.out 5).trans rfl; clear hB) | (go_at_call 25; (with_reducible refine (node_any m W2.out A2 c2 HL2.out _ ?_).mono ?_); (first | exact HD2.out | exact Kd.C_below HD2.out (below_drew1 (Below.refl _ _))); rintro e_ k3 ⟨A8, c8, rfl, hl, hC, hB⟩; (try replace hB := below_undrew hB); replace KB := Lib.hid (below_step KB.out hB); replace HN1 := Lib.hid (blk_belowU hB HN1.out); replace HN2 := Lib.hid (blk_belowU hB HN2.out); replace HD1 := Lib.hid (Kd.C_below HD1.out hB); replace HD2 := Lib.hid (Kd.C_below HD2.out hB); replace tc0 : k3.cell? ⟨b5, 0, none⟩ = some (.int .i64 n.f0) := (blk_cell HN1.out 0).trans rfl; replace tc1 : k3.cell? ⟨b5, 1, none⟩ = some (.string n.f1) := (blk_cell HN1.out 1).trans rfl; replace tc2 : k3.cell? ⟨b5, 2, none⟩ = some (.int .i64 n.f2) := (blk_cell HN1.out 2).trans rfl; replace tc3 : k3.cell? ⟨b5, 3, none⟩ = some (.int .u64 n.f3) := (blk_cell HN1.out 3).trans rfl; replace tc4 : k3.cell? ⟨b5, 4, none⟩ = some (.slice A1 n.f4.length c1) := (blk_cell HN1.out 4).trans rfl; replace tc5 : k3.cell? ⟨b5, 5, none⟩ = some (.int .i64 n.f5) := (blk_cell HN1.out 5).trans rfl; replace uc0 : k3.cell? ⟨b8, 0, none⟩ = some (.int .i64 m.f0) := (blk_cell HN2.out 0).trans rfl; replace uc1 : k3.cell? ⟨b8, 1, none⟩ = some (.string m.f1) := (blk_cell HN2.out 1).trans rfl; replace uc2 : k3.cell? ⟨b8, 2, none⟩ = some (.int .i64 m.f2) := (blk_cell HN2.out 2).trans rfl; replace uc3 : k3.cell? ⟨b8, 3, none⟩ = some (.int .u64 m.f3) := (blk_cell HN2.out 3).trans rfl; replace uc4 : k3.cell? ⟨b8, 4, none⟩ = some (.slice A2 m.f4.length c2) := (blk_cell HN2.out 4).trans rfl; replace uc5 : k3.cell? ⟨b8, 5, none⟩ = some (.int .i64 m.f5) := (blk_cell HN2.out 5).trans rfl; have HE2 := Lib.hid hC; have HL8 := Lib.hid hl; clear hl hC hB) | (go_at_call 31; (with_reducible refine (depth_any m W2.out A8 c8 HL8.out _ HE2.out).mono ?_); rintro e_ k4 ⟨rfl, hB⟩; (try replace hB := below_undrew hB); replace KB := Lib.hid (below_step KB.out hB); replace HN1 := Lib.hid (blk_belowU hB HN1.out); replace HN2 := Lib.hid (blk_belowU hB HN2.out); replace HD1 := Lib.hid (Kd.C_below HD1.out hB); replace HD2 := Lib.hid (Kd.C_below HD2.out hB); replace tc0 : k4.cell? ⟨b5, 0, none⟩ = some (.int .i64 n.f0) := (blk_cell HN1.out 0).trans rfl; replace tc1 : k4.cell? ⟨b5, 1, none⟩ = some (.string n.f1) := (blk_cell HN1.out 1).trans rfl; replace tc2 : k4.cell? ⟨b5, 2, none⟩ = some (.int .i64 n.f2) := (blk_cell HN1.out 2).trans rfl; replace tc3 : k4.cell? ⟨b5, 3, none⟩ = some (.int .u64 n.f3) := (blk_cell HN1.out 3).trans rfl; replace tc4 : k4.cell? ⟨b5, 4, none⟩ = some (.slice A1 n.f4.length c1) := (blk_cell HN1.out 4).trans rfl; replace tc5 : k4.cell? ⟨b5, 5, none⟩ = some (.int .i64 n.f5) := (blk_cell HN1.out 5).trans rfl; replace uc0 : k4.cell? ⟨b8, 0, none⟩ = some (.int .i64 m.f0) := (blk_cell HN2.out 0).trans rfl; replace uc1 : k4.cell? ⟨b8, 1, none⟩ = some (.string m.f1) := (blk_cell HN2.out 1).trans rfl; replace uc2 : k4.cell? ⟨b8, 2, none⟩ = some (.int .i64 m.f2) := (blk_cell HN2.out 2).trans rfl; replace uc3 : k4.cell? ⟨b8, 3, none⟩ = some (.int .u64 m.f3) := (blk_cell HN2.out 3).trans rfl; replace uc4 : k4.cell? ⟨b8, 4, none⟩ = some (.slice A2 m.f4.length c2) := (blk_cell HN2.out 4).trans rfl; replace uc5 : k4.cell? ⟨b8, 5, none⟩ = some (.int .i64 m.f5) := (blk_cell HN2.out 5).trans rfl; clear hB))
    go_ret
    exact ⟨rfl, KB.out⟩
end
end Go.Proofs.YtfgfoofojofnmaaDoor.Q
