/- Plain laws for the parser: rounds enough are rounds enough; what is read is read so at any place and ahead of what cannot go on. -/
import Derived.Test.YtfgfoofojofnmaaDoorP2
namespace Go.Proofs.YtfgfoofojofnmaaDoor.Q
open Go.RowKit Go.Proofs.YtfgfoofojofnmaaDoorW.PrintWords Go.Proofs.YtfgfoofojofnmaaDoorW.PrintLast Go.Proofs.YtfgfoofojofnmaaDoorW.PrintMore
set_option linter.unusedVariables false
set_option linter.unusedSimpArgs false
open Go.Proofs.YtfgfoofojofnmaaDoor.Hand
/-- One round more changes nothing where there are enough. -/
theorem fuel_all (ev : Int) : ∀ n : Nat, (∀ st, 6 * st.ts.length + 6 ≤ n → exprF ev (n + 1) st = exprF ev n st) ∧ (∀ a st, 6 * st.ts.length ≤ n → exprL ev (n + 1) a st = exprL ev n a st) ∧ (∀ st, 6 * st.ts.length + 5 ≤ n → interF ev (n + 1) st = interF ev n st) ∧ (∀ a st, 6 * st.ts.length ≤ n + 1 → interL ev (n + 1) a st = interL ev n a st) ∧ (∀ st, 6 * st.ts.length + 4 ≤ n → rangedF ev (n + 1) st = rangedF ev n st) ∧ (∀ st, 6 * st.ts.length + 3 ≤ n → unaryF ev (n + 1) st = unaryF ev n st) ∧ (∀ a st, st.ts.length ≤ n → upL ev (n + 1) a st = upL ev n a st) ∧ (∀ st, 6 * st.ts.length + 2 ≤ n → atomF ev (n + 1) st = atomF ev n st) ∧ (∀ t ks st, 6 * st.ts.length + 7 ≤ n → callL ev (n + 1) t ks st = callL ev n t ks st)
  | 0 => by
    refine ⟨fun st h => absurd h (by omega), fun a st h => ?_, fun st h => absurd h (by omega), fun a st h => ?_, fun st h => absurd h (by omega), fun st h => absurd h (by omega), fun a st h => ?_, fun st h => absurd h (by omega), fun t ks st h => absurd h (by omega)⟩
    all_goals
      obtain ⟨ts, bad, pos⟩ := st
      have : ts = [] := List.eq_nil_of_length_eq_zero (by simp only at h; omega)
      subst this
      rfl
  | n + 1 => by
    obtain ⟨hE, hEL, hI, hIL, hR, hU, hUL, hA, hC⟩ := fuel_all ev n
    obtain ⟨tE, tI, tR, tU, tA⟩ := ts_le ev n
    refine ⟨fun st h => ?_, fun a st h => ?_, fun st h => ?_, fun a st h => ?_, fun st h => ?_, fun st h => ?_, fun a st h => ?_, fun st h => ?_, fun t ks st h => ?_⟩
    · show exprL ev (n + 1) (interF ev (n + 1) st).1 (interF ev (n + 1) st).2 = exprL ev n (interF ev n st).1 (interF ev n st).2
      have := tI st
      rw [hI st (by omega), hEL _ _ (by omega)]
    · rcases h1 : signAt (str1 124) st with _ | ⟨p, s1⟩
      · rcases h2 : signAt (str1 45) st with _ | ⟨p, s1⟩
        · rw [exprL_none h1 h2, exprL_none h1 h2]
        · have h3 := signAt_len h2; have := tI s1
          rw [exprL_minus h1 h2, exprL_minus h1 h2, hI s1 (by omega), hEL _ _ (by omega)]
      · have h3 := signAt_len h1; have := tI s1
        rw [exprL_or h1, exprL_or h1, hI s1 (by omega), hEL _ _ (by omega)]
    · show interL ev (n + 1) (rangedF ev (n + 1) st).1 (rangedF ev (n + 1) st).2 = interL ev n (rangedF ev n st).1 (rangedF ev n st).2
      have := tR st
      rw [hR st (by omega), hIL _ _ (by omega)]
    · rcases h1 : signAt (str1 38) st with _ | ⟨p, s1⟩
      · rw [interL_none h1, interL_none h1]
      · have h3 := signAt_len h1; have := tR s1
        rw [interL_some h1, interL_some h1, hR s1 (by omega), hIL _ _ (by omega)]
    · have hu := hU st (by omega)
      have := tU st
      rcases h1 : signAt (str2 46 46) (unaryF ev n st).2 with _ | ⟨p, s1⟩
      · rcases h2 : signAt (str2 58 58) (unaryF ev n st).2 with _ | ⟨p, s1⟩
        · rw [rangedF_none h1 h2, rangedF_none (by rw [hu]; exact h1) (by rw [hu]; exact h2), hu]
        · have h3 := signAt_len h2
          rw [rangedF_colons h1 h2, rangedF_colons (by rw [hu]; exact h1) (by rw [hu]; exact h2), hu, hU s1 (by omega)]
      · have h3 := signAt_len h1
        rw [rangedF_dots h1, rangedF_dots (by rw [hu]; exact h1), hu, hU s1 (by omega)]
    · rcases h1 : signAt (str1 33) st with _ | ⟨p, s1⟩
      · have := tA st
        rw [unaryF_atom h1, unaryF_atom h1, hA st (by omega), hUL _ _ (by omega)]
      · have h3 := signAt_len h1
        rw [unaryF_not h1, unaryF_not h1, hU s1 (by omega)]
    · rcases h1 : signAt (str1 94) st with _ | ⟨p, ts, bad, pos⟩
      · rw [upL_none h1, upL_none h1]
      · have h3 := signAt_len h1
        cases ts with
        | nil => rw [upL_nil h1, upL_nil h1, hUL _ _ (by simp)]
        | cons t r =>
          simp only [List.length_cons] at h3
          by_cases h2 : t.f0 = 2
          · by_cases h4 : t.f2 = 0
            · rw [upL_zero h1 h2 h4, upL_zero h1 h2 h4]
            · rw [upL_num h1 h2 h4, upL_num h1 h2 h4, hUL _ _ (by show r.length ≤ n; omega)]
          · rw [upL_other h1 h2, upL_other h1 h2, hUL _ _ (by show (t :: r).length ≤ n; simp only [List.length_cons]; omega)]
    · rcases h1 : signAt (str1 40) st with _ | ⟨p, s1⟩
      · obtain ⟨ts, bad, pos⟩ := st
        cases ts with
        | nil => rw [atomF_nil h1, atomF_nil h1]
        | cons t r =>
          simp only [List.length_cons] at h
          by_cases h2 : t.f0 = 5
          · rw [atomF_sign h1 h2, atomF_sign h1 h2]
          · by_cases h3 : t.f0 = 4 ∨ t.f0 = 2 ∨ t.f0 = 3
            · rw [atomF_leaf h1 h2 h3, atomF_leaf h1 h2 h3]
            · rcases h4 : signAt (str1 40) ⟨r, bad, pos⟩ with _ | ⟨p, s1⟩
              · rw [atomF_name h1 h2 h3 h4, atomF_name h1 h2 h3 h4]
              · have h5 := signAt_len h4
                simp only at h5
                rw [atomF_call h1 h2 h3 h4, atomF_call h1 h2 h3 h4]
                rcases h6 : signAt (str1 41) s1 with _ | ⟨p, s2⟩
                · rw [callS_none h6, callS_none h6, hC _ _ _ (by omega)]
                · rw [callS_some h6, callS_some h6]
      · have h3 := signAt_len h1
        have he := hE s1 (by omega)
        rcases h5 : signAt (str1 41) (exprF ev n s1).2 with _ | ⟨p2, s2⟩
        · rw [atomF_br_no h1 h5, atomF_br_no h1 (by rw [he]; exact h5), he]
        · rw [atomF_br h1 h5, atomF_br h1 (by rw [he]; exact h5), he]
    · have he := hE st (by omega)
      have := tE st
      rcases h1 : signAt (str1 44) (exprF ev n st).2 with _ | ⟨p, s2⟩
      · rcases h2 : signAt (str1 41) (exprF ev n st).2 with _ | ⟨p, s2⟩
        · rw [callL_bad h1 h2, callL_bad (by rw [he]; exact h1) (by rw [he]; exact h2), he]
        · rw [callL_end h1 h2, callL_end (by rw [he]; exact h1) (by rw [he]; exact h2), he]
      · have h6 := signAt_len h1
        rw [callL_comma h1, callL_comma (by rw [he]; exact h1), he, hC _ _ _ (by omega)]
theorem expr_more (ev : Int) (st : St) (n : Nat) (h : 6 * st.ts.length + 6 ≤ n) : ∀ d : Nat, exprF ev (n + d) st = exprF ev n st
  | 0 => rfl
  | d + 1 => by rw [← Nat.add_assoc, (fuel_all ev (n + d)).1 st (by omega), expr_more ev st n h d]
theorem failS_bad (ev : Int) (st : St) : (failS ev st).bad = true := by unfold failS; split <;> rfl
theorem signAt_bad {s : ByteArray} {st s1 : St} {p : Int} (h : signAt s st = some (p, s1)) : s1.bad = st.bad := by
  unfold signAt at h
  split at h
  · exact absurd h (by simp)
  · split at h
    · injection h with h; injection h with h1 h2
      rw [← h2]
    · exact absurd h (by simp)
/-- What has failed stays so. -/
theorem bad_all (ev : Int) : ∀ n : Nat, (∀ st, st.bad = true → (exprF ev n st).2.bad = true) ∧ (∀ a st, st.bad = true → (exprL ev n a st).2.bad = true) ∧ (∀ st, st.bad = true → (interF ev n st).2.bad = true) ∧ (∀ a st, st.bad = true → (interL ev n a st).2.bad = true) ∧ (∀ st, st.bad = true → (rangedF ev n st).2.bad = true) ∧ (∀ st, st.bad = true → (unaryF ev n st).2.bad = true) ∧ (∀ a st, st.bad = true → (upL ev n a st).2.bad = true) ∧ (∀ st, st.bad = true → (atomF ev n st).2.bad = true) ∧ (∀ t ks st, st.bad = true → (callL ev n t ks st).2.bad = true)
  | 0 => ⟨fun _ h => h, fun _ _ h => h, fun _ h => h, fun _ _ h => h, fun _ h => h, fun _ h => h, fun _ _ h => h, fun _ h => h, fun _ _ _ h => h⟩
  | n + 1 => by
    obtain ⟨hE, hEL, hI, hIL, hR, hU, hUL, hA, hC⟩ := bad_all ev n
    refine ⟨fun st h => hEL _ _ (hI st h), fun a st h => ?_, fun st h => hIL _ _ (hR st h), fun a st h => ?_, fun st h => ?_, fun st h => ?_, fun a st h => ?_, fun st h => ?_, fun t ks st h => ?_⟩
    · rcases h1 : signAt (str1 124) st with _ | ⟨p, s1⟩
      · rcases h2 : signAt (str1 45) st with _ | ⟨p, s1⟩
        · rw [exprL_none h1 h2]; exact h
        · rw [exprL_minus h1 h2]; exact hEL _ _ (hI s1 ((signAt_bad h2).trans h))
      · rw [exprL_or h1]; exact hEL _ _ (hI s1 ((signAt_bad h1).trans h))
    · rcases h1 : signAt (str1 38) st with _ | ⟨p, s1⟩
      · rw [interL_none h1]; exact h
      · rw [interL_some h1]; exact hIL _ _ (hR s1 ((signAt_bad h1).trans h))
    · have hu := hU st h
      rcases h1 : signAt (str2 46 46) (unaryF ev n st).2 with _ | ⟨p, s1⟩
      · rcases h2 : signAt (str2 58 58) (unaryF ev n st).2 with _ | ⟨p, s1⟩
        · rw [rangedF_none h1 h2]; exact hu
        · rw [rangedF_colons h1 h2]; exact hU s1 ((signAt_bad h2).trans hu)
      · rw [rangedF_dots h1]; exact hU s1 ((signAt_bad h1).trans hu)
    · rcases h1 : signAt (str1 33) st with _ | ⟨p, s1⟩
      · rw [unaryF_atom h1]; exact hUL _ _ (hA st h)
      · rw [unaryF_not h1]; exact hU s1 ((signAt_bad h1).trans h)
    · rcases h1 : signAt (str1 94) st with _ | ⟨p, ts, bad, pos⟩
      · rw [upL_none h1]; exact h
      · have hb := (signAt_bad h1).trans h
        simp only at hb
        subst hb
        cases ts with
        | nil => rw [upL_nil h1]; exact hUL _ _ rfl
        | cons t r =>
          by_cases h2 : t.f0 = 2
          · by_cases h4 : t.f2 = 0
            · rw [upL_zero h1 h2 h4]; exact failS_bad _ _
            · rw [upL_num h1 h2 h4]; exact hUL _ _ rfl
          · rw [upL_other h1 h2]; exact hUL _ _ rfl
    · rcases h1 : signAt (str1 40) st with _ | ⟨p, s1⟩
      · obtain ⟨ts, bad, pos⟩ := st
        simp only at h
        subst h
        cases ts with
        | nil => rw [atomF_nil h1]; exact failS_bad _ _
        | cons t r =>
          by_cases h2 : t.f0 = 5
          · rw [atomF_sign h1 h2]; exact failS_bad _ _
          · by_cases h3 : t.f0 = 4 ∨ t.f0 = 2 ∨ t.f0 = 3
            · rw [atomF_leaf h1 h2 h3]
            · rcases h4 : signAt (str1 40) ⟨r, true, pos⟩ with _ | ⟨p, s1⟩
              · rw [atomF_name h1 h2 h3 h4]
              · have hb := signAt_bad h4
                rw [atomF_call h1 h2 h3 h4]
                rcases h6 : signAt (str1 41) s1 with _ | ⟨p, s2⟩
                · rw [callS_none h6]; exact hC _ _ _ hb
                · rw [callS_some h6]; exact (signAt_bad h6).trans hb
      · have he := hE s1 ((signAt_bad h1).trans h)
        rcases h5 : signAt (str1 41) (exprF ev n s1).2 with _ | ⟨p2, s2⟩
        · rw [atomF_br_no h1 h5]; exact failS_bad _ _
        · rw [atomF_br h1 h5]; exact (signAt_bad h5).trans he
    · have he := hE st h
      rcases h1 : signAt (str1 44) (exprF ev n st).2 with _ | ⟨p, s2⟩
      · rcases h2 : signAt (str1 41) (exprF ev n st).2 with _ | ⟨p, s2⟩
        · rw [callL_bad h1 h2]; exact failS_bad _ _
        · rw [callL_end h1 h2]; exact (signAt_bad h2).trans he
      · rw [callL_comma h1]; exact hC _ _ _ ((signAt_bad h1).trans he)
/-! ### what is read is read so at any place, ahead of what cannot go on -/
def tkG (g : Int → Int) (t : S39) : S39 := ⟨t.f0, t.f1, t.f2, t.f3, g t.f4⟩
mutual
/-- A tree at other places. -/
def mp (g : Int → Int) : S44 → S44
  | ⟨a, b, c, d, ks, e⟩ => ⟨a, b, c, d, mpM g ks, g e⟩
def mpM (g : Int → Int) : List S44 → List S44
  | [] => []
  | k :: ks => mp g k :: mpM g ks
end
theorem mp_mk (g : Int → Int) (a : Int) (b : ByteArray) (c d : Int) (ks : List S44) (e : Int) : mp g ⟨a, b, c, d, ks, e⟩ = ⟨a, b, c, d, mpM g ks, g e⟩ := by rw [mp]
theorem mpM_nil (g : Int → Int) : mpM g [] = [] := by rw [mpM]
theorem mpM_cons (g : Int → Int) (k : S44) (ks : List S44) : mpM g (k :: ks) = mp g k :: mpM g ks := by rw [mpM]
theorem mpM_app (g : Int → Int) (ks : List S44) (k : S44) : mpM g (ks ++ [k]) = mpM g ks ++ [mp g k] := by
  induction ks with
  | nil => rw [List.nil_append, mpM_cons, mpM_nil]; rfl
  | cons a ks ih => rw [List.cons_append, mpM_cons, mpM_cons, ih]; rfl
theorem mp_nd1 (g : Int → Int) (op p : Int) (a : S44) : mp g (nd op [a] p) = nd op [mp g a] (g p) := by unfold nd; rw [mp_mk, mpM_cons, mpM_nil]
theorem mp_nd2 (g : Int → Int) (op p : Int) (a b : S44) : mp g (nd op [a, b] p) = nd op [mp g a, mp g b] (g p) := by unfold nd; rw [mp_mk, mpM_cons, mpM_cons, mpM_nil]
theorem mp_leaf (g : Int → Int) (t : S39) : mp g (leafN t) = leafN (tkG g t) := by unfold leafN; rw [mp_mk, mpM_nil]; rfl
def exS (g : Int → Int) (rest : List S39) (q : Int) (st : St) : St := ⟨st.ts.map (tkG g) ++ rest, false, q⟩
/-- Nothing that stands here goes on with an operand. -/
structure Stop (rest : List S39) : Prop where
  none : ∀ s : ByteArray, s = str1 124 ∨ s = str1 45 ∨ s = str1 38 ∨ s = str2 46 46 ∨ s = str2 58 58 ∨ s = str1 94 ∨ s = str1 40 → ∀ b p, signAt s ⟨rest, b, p⟩ = none
  num : ∀ t r, rest = t :: r → t.f0 ≠ 2
theorem sign_ex {g : Int → Int} {rest : List S39} {q : Int} {s : ByteArray} {st s1 : St} {p : Int} (h : signAt s st = some (p, s1)) : signAt s (exS g rest q st) = some (g p, exS g rest q s1) := by
  obtain ⟨ts, bad, pos⟩ := st
  cases ts with
  | nil => exact absurd h (by simp [signAt])
  | cons t r =>
    simp only [signAt] at h
    split at h
    · rename_i hc
      injection h with h; injection h with h1 h2
      subst h1
      subst h2
      simp only [exS, signAt, List.map_cons, List.cons_append, tkG]
      rw [if_pos hc]
    · exact absurd h (by simp)
theorem sign_ex_no {g : Int → Int} {rest : List S39} {q : Int} {s : ByteArray} {st : St} (h : signAt s st = none) (hr : st.ts ≠ [] ∨ ∀ b p, signAt s ⟨rest, b, p⟩ = none) : signAt s (exS g rest q st) = none := by
  obtain ⟨ts, bad, pos⟩ := st
  cases ts with
  | nil => exact (hr.resolve_left (fun e => e rfl)) _ _
  | cons t r =>
    simp only [signAt] at h
    split at h
    · exact absurd h (by simp)
    · rename_i hc
      simp only [exS, signAt, List.map_cons, List.cons_append, tkG]
      rw [if_neg hc]
theorem ok_of {b c : Bool} (h : b = true → c = true) (hc : c = false) : b = false := by
  cases b with
  | false => rfl
  | true => exact absurd ((h rfl).symm.trans hc) (by decide)
theorem fail_absurd {ev : Int} {st : St} {P : Prop} {x : S44} (h : (x, failS ev st).2.bad = false) : P := absurd ((failS_bad ev st).symm.trans h) (by decide)
theorem atom_none {ev : Int} {n : Nat} {bad : Bool} {pos : Int} : (atomF ev (n + 1) ⟨[], bad, pos⟩).2.bad = true := by
  rw [atomF_nil (by rfl)]; exact failS_bad _ _
set_option maxHeartbeats 1000000 in
theorem ext_all (ev ev' : Int) (g : Int → Int) (rest : List S39) (q : Int) (hs : Stop rest) : ∀ n : Nat,
    (∀ st, 6 * st.ts.length + 6 ≤ n → (exprF ev n st).2.bad = false → exprF ev' n (exS g rest q st) = (mp g (exprF ev n st).1, exS g rest q (exprF ev n st).2)) ∧
    (∀ a st, 6 * st.ts.length ≤ n → (exprL ev n a st).2.bad = false → exprL ev' n (mp g a) (exS g rest q st) = (mp g (exprL ev n a st).1, exS g rest q (exprL ev n a st).2)) ∧
    (∀ st, 6 * st.ts.length + 5 ≤ n → (interF ev n st).2.bad = false → interF ev' n (exS g rest q st) = (mp g (interF ev n st).1, exS g rest q (interF ev n st).2)) ∧
    (∀ a st, 6 * st.ts.length ≤ n + 1 → (interL ev n a st).2.bad = false → interL ev' n (mp g a) (exS g rest q st) = (mp g (interL ev n a st).1, exS g rest q (interL ev n a st).2)) ∧
    (∀ st, 6 * st.ts.length + 4 ≤ n → (rangedF ev n st).2.bad = false → rangedF ev' n (exS g rest q st) = (mp g (rangedF ev n st).1, exS g rest q (rangedF ev n st).2)) ∧
    (∀ st, 6 * st.ts.length + 3 ≤ n → (unaryF ev n st).2.bad = false → unaryF ev' n (exS g rest q st) = (mp g (unaryF ev n st).1, exS g rest q (unaryF ev n st).2)) ∧
    (∀ a st, st.ts.length ≤ n → (upL ev n a st).2.bad = false → upL ev' n (mp g a) (exS g rest q st) = (mp g (upL ev n a st).1, exS g rest q (upL ev n a st).2)) ∧
    (∀ st, 6 * st.ts.length + 2 ≤ n → (atomF ev n st).2.bad = false → atomF ev' n (exS g rest q st) = (mp g (atomF ev n st).1, exS g rest q (atomF ev n st).2)) ∧
    (∀ t ks st, 6 * st.ts.length + 7 ≤ n → (callL ev n t ks st).2.bad = false → callL ev' n (tkG g t) (mpM g ks) (exS g rest q st) = (mp g (callL ev n t ks st).1, exS g rest q (callL ev n t ks st).2))
  | 0 => by
    refine ⟨fun st h => absurd h (by omega), fun a st h hb => ?_, fun st h => absurd h (by omega), fun a st h hb => ?_, fun st h => absurd h (by omega), fun st h => absurd h (by omega), fun a st h hb => ?_, fun st h => absurd h (by omega), fun t ks st h => absurd h (by omega)⟩
    all_goals rfl
  | n + 1 => by
    obtain ⟨hE, hEL, hI, hIL, hR, hU, hUL, hA, hC⟩ := ext_all ev ev' g rest q hs n
    obtain ⟨tE, tI, tR, tU, tA⟩ := ts_le ev n
    obtain ⟨bE, bEL, bI, bIL, bR, bU, bUL, bA, bC⟩ := bad_all ev n
    refine ⟨fun st h hb => ?_, fun a st h hb => ?_, fun st h hb => ?_, fun a st h hb => ?_, fun st h hb => ?_, fun st h hb => ?_, fun a st h hb => ?_, fun st h hb => ?_, fun t ks st h hb => ?_⟩
    · have hb' : (exprL ev n (interF ev n st).1 (interF ev n st).2).2.bad = false := hb
      have := tI st
      show exprL ev' n (interF ev' n (exS g rest q st)).1 (interF ev' n (exS g rest q st)).2 = _
      rw [hI st (by omega) (ok_of (bEL _ _) hb')]
      exact hEL _ _ (by omega) hb'
    · rcases h1 : signAt (str1 124) st with _ | ⟨p, s1⟩
      · rcases h2 : signAt (str1 45) st with _ | ⟨p, s1⟩
        · rw [exprL_none h1 h2, exprL_none (sign_ex_no h1 (.inr (hs.none _ (by simp)))) (sign_ex_no h2 (.inr (hs.none _ (by simp))))]
        · have h3 := signAt_len h2; have := tI s1
          rw [exprL_minus h1 h2] at hb ⊢
          rw [exprL_minus (sign_ex_no h1 (.inr (hs.none _ (by simp)))) (sign_ex h2), hI s1 (by omega) (ok_of (bEL _ _) hb)]
          rw [← mp_nd2]
          exact hEL _ _ (by omega) hb
      · have h3 := signAt_len h1; have := tI s1
        rw [exprL_or h1] at hb ⊢
        rw [exprL_or (sign_ex h1), hI s1 (by omega) (ok_of (bEL _ _) hb)]
        rw [← mp_nd2]
        exact hEL _ _ (by omega) hb
    · have hb' : (interL ev n (rangedF ev n st).1 (rangedF ev n st).2).2.bad = false := hb
      have := tR st
      show interL ev' n (rangedF ev' n (exS g rest q st)).1 (rangedF ev' n (exS g rest q st)).2 = _
      rw [hR st (by omega) (ok_of (bIL _ _) hb')]
      exact hIL _ _ (by omega) hb'
    · rcases h1 : signAt (str1 38) st with _ | ⟨p, s1⟩
      · rw [interL_none h1, interL_none (sign_ex_no h1 (.inr (hs.none _ (by simp))))]
      · have h3 := signAt_len h1; have := tR s1
        rw [interL_some h1] at hb ⊢
        rw [interL_some (sign_ex h1), hR s1 (by omega) (ok_of (bIL _ _) hb)]
        rw [← mp_nd2]
        exact hIL _ _ (by omega) hb
    · have := tU st
      rcases h1 : signAt (str2 46 46) (unaryF ev n st).2 with _ | ⟨p, s1⟩
      · rcases h2 : signAt (str2 58 58) (unaryF ev n st).2 with _ | ⟨p, s1⟩
        · rw [rangedF_none h1 h2] at hb ⊢
          have hu := hU st (by omega) hb
          rw [rangedF_none (by rw [hu]; exact sign_ex_no h1 (.inr (hs.none _ (by simp)))) (by rw [hu]; exact sign_ex_no h2 (.inr (hs.none _ (by simp)))), hu]
        · have h3 := signAt_len h2
          rw [rangedF_colons h1 h2] at hb ⊢
          have hu1 := hU s1 (by omega) hb
          have hu := hU st (by omega) (ok_of (fun e => bU s1 ((signAt_bad h2).trans e)) hb)
          rw [rangedF_colons (by rw [hu]; exact sign_ex_no h1 (.inr (hs.none _ (by simp)))) (by rw [hu]; exact sign_ex h2), hu, hu1, mp_nd2]
      · have h3 := signAt_len h1
        rw [rangedF_dots h1] at hb ⊢
        have hu1 := hU s1 (by omega) hb
        have hu := hU st (by omega) (ok_of (fun e => bU s1 ((signAt_bad h1).trans e)) hb)
        rw [rangedF_dots (by rw [hu]; exact sign_ex h1), hu, hu1, mp_nd2]
    · rcases h1 : signAt (str1 33) st with _ | ⟨p, s1⟩
      · have := tA st
        rw [unaryF_atom h1] at hb ⊢
        have hne : st.ts ≠ [] := by
          intro e
          obtain ⟨ts, bad, pos⟩ := st
          simp only at e
          subst e
          obtain ⟨m, rfl⟩ : ∃ m, n = m + 1 := ⟨n - 1, by omega⟩
          rw [bUL _ _ atom_none] at hb
          exact absurd hb (by decide)
        rw [unaryF_atom (sign_ex_no h1 (.inl hne)), hA st (by omega) (ok_of (bUL _ _) hb)]
        exact hUL _ _ (by omega) hb
      · have h3 := signAt_len h1
        rw [unaryF_not h1] at hb ⊢
        rw [unaryF_not (sign_ex h1), hU s1 (by omega) hb, mp_nd1]
    · rcases h1 : signAt (str1 94) st with _ | ⟨p, ts, bad, pos⟩
      · rw [upL_none h1, upL_none (sign_ex_no h1 (.inr (hs.none _ (by simp))))]
      · have h3 := signAt_len h1
        have hx := sign_ex (g := g) (rest := rest) (q := q) h1
        cases ts with
        | nil =>
          rw [upL_nil h1] at hb ⊢
          have hh := hUL _ _ (by simp) hb
          rw [mp_nd1] at hh
          cases hr : rest with
          | nil =>
            subst hr
            rw [upL_nil (p := g p) hx]
            exact hh
          | cons t r =>
            have h2 := hs.num t r hr
            subst hr
            rw [upL_other (p := g p) hx h2]
            exact hh
        | cons t r =>
          simp only [List.length_cons] at h3
          by_cases h2 : t.f0 = 2
          · by_cases h4 : t.f2 = 0
            · rw [upL_zero h1 h2 h4] at hb
              exact fail_absurd hb
            · rw [upL_num h1 h2 h4] at hb ⊢
              have hh := hUL _ _ (by show r.length ≤ n; omega) hb
              rw [mp_mk, mpM_cons, mpM_nil] at hh
              rw [upL_num (p := g p) hx h2 h4]
              exact hh
          · rw [upL_other h1 h2] at hb ⊢
            have hh := hUL _ _ (by show (t :: r).length ≤ n; simp only [List.length_cons]; omega) hb
            rw [mp_nd1] at hh
            rw [upL_other (p := g p) hx h2]
            exact hh
    · rcases h1 : signAt (str1 40) st with _ | ⟨p, s1⟩
      · obtain ⟨ts, bad, pos⟩ := st
        cases ts with
        | nil =>
          rw [atomF_nil h1] at hb
          exact fail_absurd hb
        | cons t r =>
          simp only [List.length_cons] at h
          have hx := sign_ex_no (g := g) (rest := rest) (q := q) h1 (.inl (by simp))
          by_cases h2 : t.f0 = 5
          · rw [atomF_sign h1 h2] at hb
            exact fail_absurd hb
          · by_cases h3 : t.f0 = 4 ∨ t.f0 = 2 ∨ t.f0 = 3
            · rw [atomF_leaf h1 h2 h3, mp_leaf]
              exact atomF_leaf (t := tkG g t) (r := r.map (tkG g) ++ rest) hx h2 h3
            · rcases h4 : signAt (str1 40) ⟨r, bad, pos⟩ with _ | ⟨p, s1⟩
              · rw [atomF_name h1 h2 h3 h4, mp_leaf]
                exact atomF_name (t := tkG g t) (r := r.map (tkG g) ++ rest) hx h2 h3 (sign_ex_no (q := q) h4 (.inr (hs.none _ (by simp))))
              · have h5 := signAt_len h4
                simp only at h5
                rw [atomF_call h1 h2 h3 h4] at hb ⊢
                refine (atomF_call (t := tkG g t) (r := r.map (tkG g) ++ rest) hx h2 h3 (sign_ex (q := q) h4)).trans ?_
                rcases h6 : signAt (str1 41) s1 with _ | ⟨p, s2⟩
                · rw [callS_none h6] at hb ⊢
                  have hne : s1.ts ≠ [] := by
                    intro e
                    obtain ⟨ts1, bad1, pos1⟩ := s1
                    simp only at e
                    subst e
                    obtain ⟨m, rfl⟩ : ∃ m, n = m + 1 := ⟨n - 1, by omega⟩
                    have hq : (exprF ev m ⟨[], bad1, pos1⟩).2.ts = [] := List.eq_nil_of_length_eq_zero (Nat.le_zero.1 ((ts_le ev m).1 _))
                    have hn : ∀ s, signAt s (exprF ev m ⟨[], bad1, pos1⟩).2 = none := by intro s; unfold signAt; rw [hq]
                    rw [callL_bad (hn _) (hn _)] at hb
                    exact fail_absurd hb
                  rw [callS_none (sign_ex_no h6 (.inl hne))]
                  have hh := hC t [] s1 (by omega) hb
                  rw [mpM_nil] at hh
                  exact hh
                · rw [callS_some h6] at hb ⊢
                  rw [callS_some (sign_ex h6), mp_mk, mpM_nil]
                  rfl
      · have h3 := signAt_len h1
        rcases h5 : signAt (str1 41) (exprF ev n s1).2 with _ | ⟨p2, s2⟩
        · rw [atomF_br_no h1 h5] at hb
          exact fail_absurd hb
        · rw [atomF_br h1 h5] at hb ⊢
          have he := hE s1 (by omega) ((signAt_bad h5).symm.trans hb)
          rw [atomF_br (sign_ex h1) (by rw [he]; exact sign_ex h5), he]
    · have := tE st
      rcases h1 : signAt (str1 44) (exprF ev n st).2 with _ | ⟨p, s2⟩
      · rcases h2 : signAt (str1 41) (exprF ev n st).2 with _ | ⟨p, s2⟩
        · rw [callL_bad h1 h2] at hb
          exact fail_absurd hb
        · rw [callL_end h1 h2] at hb ⊢
          have he := hE st (by omega) ((signAt_bad h2).symm.trans hb)
          have hne : (exprF ev n st).2.ts ≠ [] := by
            intro e
            have h9 := signAt_len h2
            rw [e] at h9
            exact absurd h9 (by simp)
          rw [callL_end (by rw [he]; exact sign_ex_no h1 (.inl hne)) (by rw [he]; exact sign_ex h2), he, mp_mk, mpM_app]
          rfl
      · have h6 := signAt_len h1
        rw [callL_comma h1] at hb ⊢
        have he := hE st (by omega) (ok_of (fun e => bC _ _ _ ((signAt_bad h1).trans e)) hb)
        rw [callL_comma (by rw [he]; exact sign_ex h1), he]
        have hh := hC t _ s2 (by omega) hb
        rw [mpM_app] at hh
        exact hh
end Go.Proofs.YtfgfoofojofnmaaDoor.Q
