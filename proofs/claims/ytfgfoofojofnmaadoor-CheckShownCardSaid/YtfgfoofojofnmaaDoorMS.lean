/- From a row's list of variables to the table of powers of ten. -/
import Derived.Test.YtfgfoofojofnmaaDoorP2
import Derived.Test.YtfgfoofojofnmaaDoorL1
import Derived.Test.YtfgfoofojofnmaaDoorP4
import Derived.Test.YtfgfoofojofnmaaDoorP8
import Derived.Laws.BitsLemmas
import Derived.Test.YtfgfoofojofnmaaDoorQF78
import Derived.Outline
import Derived.Test.YtfgfoofojofnmaaDoorQF45
import Derived.Lib.AppendIntMem
import Derived.Test.YtfgfoofojofnmaaDoorQF25
import Derived.Test.YtfgfoofojofnmaaDoorQF28
import Derived.Test.YtfgfoofojofnmaaDoorP9
import Derived.Test.YtfgfoofojofnmaaDoorP7
import Derived.Test.YtfgfoofojofnmaaDoorQF22
import Derived.Test.YtfgfoofojofnmaaDoorQF21
import Derived.Deep.DeepCutAuto
import Derived.Deep.CutBlock
import Derived.Deep.RegionHeld3
import Derived.Deep.QuietTactic
import Derived.BigQuiet
import Derived.Lib.LaidTab
import Derived.KernelRfl
namespace Go.Proofs.YtfgfoofojofnmaaDoor.Q
section
open Go.RowKit Go.Proofs.YtfgfoofojofnmaaDoorW.PrintWords Go.Proofs.YtfgfoofojofnmaaDoorW.PrintLast Go.Proofs.YtfgfoofojofnmaaDoorW.PrintMore
set_option linter.unusedVariables false
set_option linter.unusedSimpArgs false
open Go.Proofs.YtfgfoofojofnmaaDoor.Hand
/-- One round more changes nothing where there are enough. -/
theorem fuel_all (ev : Int) : ∀ n : Nat, (∀ st, 6 * st.ts.length + 6 ≤ n → exprF ev (n + 1) st = exprF ev n st) ∧ (∀ a st, 6 * st.ts.length ≤ n → exprL ev (n + 1) a st = exprL ev n a st) ∧ (∀ st, 6 * st.ts.length + 5 ≤ n → interF ev (n + 1) st = interF ev n st) ∧ (∀ a st, 6 * st.ts.length ≤ n + 1 → interL ev (n + 1) a st = interL ev n a st) ∧ (∀ st, 6 * st.ts.length + 4 ≤ n → rangedF ev (n + 1) st = rangedF ev n st) ∧ (∀ st, 6 * st.ts.length + 3 ≤ n → unaryF ev (n + 1) st = unaryF ev n st) ∧ (∀ a st, st.ts.length ≤ n → upL ev (n + 1) a st = upL ev n a st) ∧ (∀ st, 6 * st.ts.length + 2 ≤ n → atomF ev (n + 1) st = atomF ev n st) ∧ (∀ t ks st, 6 * st.ts.length + 7 ≤ n → callL ev (n + 1) t ks st = callL ev n t ks st)
 | 0 => by
  refine ⟨fun st h => absurd h (by omega), fun a st h => ?_, fun st h => absurd h (by omega), fun a st h => ?_, fun st h => absurd h (by omega), fun st h => absurd h (by omega), fun a st h => ?_, fun st h => absurd h (by omega), fun t ks st h => absurd h (by omega)⟩
  all_goals
   obtain ⟨ts, bad, pos⟩ := st
   have : ts = [] := List.eq_nil_of_length_eq_zero (by simp only at h; omega)
   subst this
   rfl
 | n + 1 => by
  obtain ⟨hE, hEL, hI, hIL, hR, hU, hUL, hA, hC⟩ := fuel_all ev n
  obtain ⟨tE, tI, tR, tU, tA⟩ := ts_le ev n
  refine ⟨fun st h => ?_, fun a st h => ?_, fun st h => ?_, fun a st h => ?_, fun st h => ?_, fun st h => ?_, fun a st h => ?_, fun st h => ?_, fun t ks st h => ?_⟩
  ·show exprL ev (n + 1) (interF ev (n + 1) st).1 (interF ev (n + 1) st).2 = exprL ev n (interF ev n st).1 (interF ev n st).2
   have := tI st
   rw [hI st (by omega), hEL _ _ (by omega)]
  ·rcases h1 : signAt (str1 124) st with _ | ⟨p, s1⟩
   ·rcases h2 : signAt (str1 45) st with _ | ⟨p, s1⟩
    ·rw [exprL_none h1 h2, exprL_none h1 h2]
    ·have h3 := signAt_len h2; have := tI s1
     rw [exprL_minus h1 h2, exprL_minus h1 h2, hI s1 (by omega), hEL _ _ (by omega)]
   ·have h3 := signAt_len h1; have := tI s1
    rw [exprL_or h1, exprL_or h1, hI s1 (by omega), hEL _ _ (by omega)]
  ·show interL ev (n + 1) (rangedF ev (n + 1) st).1 (rangedF ev (n + 1) st).2 = interL ev n (rangedF ev n st).1 (rangedF ev n st).2
   have := tR st
   rw [hR st (by omega), hIL _ _ (by omega)]
  ·rcases h1 : signAt (str1 38) st with _ | ⟨p, s1⟩
   ·rw [interL_none h1, interL_none h1]
   ·have h3 := signAt_len h1; have := tR s1
    rw [interL_some h1, interL_some h1, hR s1 (by omega), hIL _ _ (by omega)]
  ·have hu := hU st (by omega)
   have := tU st
   rcases h1 : signAt (str2 46 46) (unaryF ev n st).2 with _ | ⟨p, s1⟩
   ·rcases h2 : signAt (str2 58 58) (unaryF ev n st).2 with _ | ⟨p, s1⟩
    ·rw [rangedF_none h1 h2, rangedF_none (by rw [hu]; exact h1) (by rw [hu]; exact h2), hu]
    ·have h3 := signAt_len h2
     rw [rangedF_colons h1 h2, rangedF_colons (by rw [hu]; exact h1) (by rw [hu]; exact h2), hu, hU s1 (by omega)]
   ·have h3 := signAt_len h1
    rw [rangedF_dots h1, rangedF_dots (by rw [hu]; exact h1), hu, hU s1 (by omega)]
  ·rcases h1 : signAt (str1 33) st with _ | ⟨p, s1⟩
   ·have := tA st
    rw [unaryF_atom h1, unaryF_atom h1, hA st (by omega), hUL _ _ (by omega)]
   ·have h3 := signAt_len h1
    rw [unaryF_not h1, unaryF_not h1, hU s1 (by omega)]
  ·rcases h1 : signAt (str1 94) st with _ | ⟨p, ts, bad, pos⟩
   ·rw [upL_none h1, upL_none h1]
   ·have h3 := signAt_len h1
    cases ts with
    | nil => rw [upL_nil h1, upL_nil h1, hUL _ _ (by simp)]
    | cons t r =>
     simp only [List.length_cons] at h3
     by_cases h2 : t.f0 = 2
     ·by_cases h4 : t.f2 = 0
      ·rw [upL_zero h1 h2 h4, upL_zero h1 h2 h4]
      ·rw [upL_num h1 h2 h4, upL_num h1 h2 h4, hUL _ _ (by show r.length ≤ n; omega)]
     ·rw [upL_other h1 h2, upL_other h1 h2, hUL _ _ (by show (t :: r).length ≤ n; simp only [List.length_cons]; omega)]
  ·rcases h1 : signAt (str1 40) st with _ | ⟨p, s1⟩
   ·obtain ⟨ts, bad, pos⟩ := st
    cases ts with
    | nil => rw [atomF_nil h1, atomF_nil h1]
    | cons t r =>
     simp only [List.length_cons] at h
     by_cases h2 : t.f0 = 5
     ·rw [atomF_sign h1 h2, atomF_sign h1 h2]
     ·by_cases h3 : t.f0 = 4 ∨ t.f0 = 2 ∨ t.f0 = 3
      ·rw [atomF_leaf h1 h2 h3, atomF_leaf h1 h2 h3]
      ·rcases h4 : signAt (str1 40) ⟨r, bad, pos⟩ with _ | ⟨p, s1⟩
       ·rw [atomF_name h1 h2 h3 h4, atomF_name h1 h2 h3 h4]
       ·have h5 := signAt_len h4
        simp only at h5
        rw [atomF_call h1 h2 h3 h4, atomF_call h1 h2 h3 h4]
        rcases h6 : signAt (str1 41) s1 with _ | ⟨p, s2⟩
        ·rw [callS_none h6, callS_none h6, hC _ _ _ (by omega)]
        ·rw [callS_some h6, callS_some h6]
   ·have h3 := signAt_len h1
    have he := hE s1 (by omega)
    rcases h5 : signAt (str1 41) (exprF ev n s1).2 with _ | ⟨p2, s2⟩
    ·rw [atomF_br_no h1 h5, atomF_br_no h1 (by rw [he]; exact h5), he]
    ·rw [atomF_br h1 h5, atomF_br h1 (by rw [he]; exact h5), he]
  ·have he := hE st (by omega)
   have := tE st
   rcases h1 : signAt (str1 44) (exprF ev n st).2 with _ | ⟨p, s2⟩
   ·rcases h2 : signAt (str1 41) (exprF ev n st).2 with _ | ⟨p, s2⟩
    ·rw [callL_bad h1 h2, callL_bad (by rw [he]; exact h1) (by rw [he]; exact h2), he]
    ·rw [callL_end h1 h2, callL_end (by rw [he]; exact h1) (by rw [he]; exact h2), he]
   ·have h6 := signAt_len h1
    rw [callL_comma h1, callL_comma (by rw [he]; exact h1), he, hC _ _ _ (by omega)]
theorem failS_bad (ev : Int) (st : St) : (failS ev st).bad = true := by unfold failS; split <;> rfl
theorem signAt_bad {s : ByteArray} {st s1 : St} {p : Int} (h : signAt s st = some (p, s1)) : s1.bad = st.bad := by
 unfold signAt at h
 split at h
 ·exact absurd h (by simp)
 ·split at h
  ·injection h with h; injection h with h1 h2
   rw [← h2]
  ·exact absurd h (by simp)
/-- What has failed stays so. -/
theorem bad_all (ev : Int) : ∀ n : Nat, (∀ st, st.bad = true → (exprF ev n st).2.bad = true) ∧ (∀ a st, st.bad = true → (exprL ev n a st).2.bad = true) ∧ (∀ st, st.bad = true → (interF ev n st).2.bad = true) ∧ (∀ a st, st.bad = true → (interL ev n a st).2.bad = true) ∧ (∀ st, st.bad = true → (rangedF ev n st).2.bad = true) ∧ (∀ st, st.bad = true → (unaryF ev n st).2.bad = true) ∧ (∀ a st, st.bad = true → (upL ev n a st).2.bad = true) ∧ (∀ st, st.bad = true → (atomF ev n st).2.bad = true) ∧ (∀ t ks st, st.bad = true → (callL ev n t ks st).2.bad = true)
 | 0 => ⟨fun _ h => h, fun _ _ h => h, fun _ h => h, fun _ _ h => h, fun _ h => h, fun _ h => h, fun _ _ h => h, fun _ h => h, fun _ _ _ h => h⟩
 | n + 1 => by
  obtain ⟨hE, hEL, hI, hIL, hR, hU, hUL, hA, hC⟩ := bad_all ev n
  refine ⟨fun st h => hEL _ _ (hI st h), fun a st h => ?_, fun st h => hIL _ _ (hR st h), fun a st h => ?_, fun st h => ?_, fun st h => ?_, fun a st h => ?_, fun st h => ?_, fun t ks st h => ?_⟩
  ·rcases h1 : signAt (str1 124) st with _ | ⟨p, s1⟩
   ·rcases h2 : signAt (str1 45) st with _ | ⟨p, s1⟩
    ·rw [exprL_none h1 h2]; exact h
    ·rw [exprL_minus h1 h2]; exact hEL _ _ (hI s1 ((signAt_bad h2).trans h))
   ·rw [exprL_or h1]; exact hEL _ _ (hI s1 ((signAt_bad h1).trans h))
  ·rcases h1 : signAt (str1 38) st with _ | ⟨p, s1⟩
   ·rw [interL_none h1]; exact h
   ·rw [interL_some h1]; exact hIL _ _ (hR s1 ((signAt_bad h1).trans h))
  ·have hu := hU st h
   rcases h1 : signAt (str2 46 46) (unaryF ev n st).2 with _ | ⟨p, s1⟩
   ·rcases h2 : signAt (str2 58 58) (unaryF ev n st).2 with _ | ⟨p, s1⟩
    ·rw [rangedF_none h1 h2]; exact hu
    ·rw [rangedF_colons h1 h2]; exact hU s1 ((signAt_bad h2).trans hu)
   ·rw [rangedF_dots h1]; exact hU s1 ((signAt_bad h1).trans hu)
  ·rcases h1 : signAt (str1 33) st with _ | ⟨p, s1⟩
   ·rw [unaryF_atom h1]; exact hUL _ _ (hA st h)
   ·rw [unaryF_not h1]; exact hU s1 ((signAt_bad h1).trans h)
  ·rcases h1 : signAt (str1 94) st with _ | ⟨p, ts, bad, pos⟩
   ·rw [upL_none h1]; exact h
   ·have hb := (signAt_bad h1).trans h
    simp only at hb
    subst hb
    cases ts with
    | nil => rw [upL_nil h1]; exact hUL _ _ rfl
    | cons t r =>
     by_cases h2 : t.f0 = 2
     ·by_cases h4 : t.f2 = 0
      ·rw [upL_zero h1 h2 h4]; exact failS_bad _ _
      ·rw [upL_num h1 h2 h4]; exact hUL _ _ rfl
     ·rw [upL_other h1 h2]; exact hUL _ _ rfl
  ·rcases h1 : signAt (str1 40) st with _ | ⟨p, s1⟩
   ·obtain ⟨ts, bad, pos⟩ := st
    simp only at h
    subst h
    cases ts with
    | nil => rw [atomF_nil h1]; exact failS_bad _ _
    | cons t r =>
     by_cases h2 : t.f0 = 5
     ·rw [atomF_sign h1 h2]; exact failS_bad _ _
     ·by_cases h3 : t.f0 = 4 ∨ t.f0 = 2 ∨ t.f0 = 3
      ·rw [atomF_leaf h1 h2 h3]
      ·rcases h4 : signAt (str1 40) ⟨r, true, pos⟩ with _ | ⟨p, s1⟩
       ·rw [atomF_name h1 h2 h3 h4]
       ·have hb := signAt_bad h4
        rw [atomF_call h1 h2 h3 h4]
        rcases h6 : signAt (str1 41) s1 with _ | ⟨p, s2⟩
        ·rw [callS_none h6]; exact hC _ _ _ hb
        ·rw [callS_some h6]; exact (signAt_bad h6).trans hb
   ·have he := hE s1 ((signAt_bad h1).trans h)
    rcases h5 : signAt (str1 41) (exprF ev n s1).2 with _ | ⟨p2, s2⟩
    ·rw [atomF_br_no h1 h5]; exact failS_bad _ _
    ·rw [atomF_br h1 h5]; exact (signAt_bad h5).trans he
  ·have he := hE st h
   rcases h1 : signAt (str1 44) (exprF ev n st).2 with _ | ⟨p, s2⟩
   ·rcases h2 : signAt (str1 41) (exprF ev n st).2 with _ | ⟨p, s2⟩
    ·rw [callL_bad h1 h2]; exact failS_bad _ _
    ·rw [callL_end h1 h2]; exact (signAt_bad h2).trans he
   ·rw [callL_comma h1]; exact hC _ _ _ ((signAt_bad h1).trans he)
/-! ### what is read is read so at any place, ahead of what cannot go on -/
def tkG (g : Int → Int) (t : S39) : S39 := ⟨t.f0, t.f1, t.f2, t.f3, g t.f4⟩
mutual
/-- A tree at other places. -/
def mp (g : Int → Int) : S44 → S44
 | ⟨a, b, c, d, ks, e⟩ => ⟨a, b, c, d, mpM g ks, g e⟩
def mpM (g : Int → Int) : List S44 → List S44
 | [] => []
 | k :: ks => mp g k :: mpM g ks
end
theorem mp_mk (g : Int → Int) (a : Int) (b : ByteArray) (c d : Int) (ks : List S44) (e : Int) : mp g ⟨a, b, c, d, ks, e⟩ = ⟨a, b, c, d, mpM g ks, g e⟩ := by rw [mp]
theorem mpM_nil (g : Int → Int) : mpM g [] = [] := by rw [mpM]
theorem mpM_cons (g : Int → Int) (k : S44) (ks : List S44) : mpM g (k :: ks) = mp g k :: mpM g ks := by rw [mpM]
theorem mp_nd1 (g : Int → Int) (op p : Int) (a : S44) : mp g (nd op [a] p) = nd op [mp g a] (g p) := by unfold nd; rw [mp_mk, mpM_cons, mpM_nil]
theorem mp_nd2 (g : Int → Int) (op p : Int) (a b : S44) : mp g (nd op [a, b] p) = nd op [mp g a, mp g b] (g p) := by unfold nd; rw [mp_mk, mpM_cons, mpM_cons, mpM_nil]
/-- Nothing that stands here goes on with an operand. -/
structure Stop (rest : List S39) : Prop where
 none : ∀ s : ByteArray, s = str1 124 ∨ s = str1 45 ∨ s = str1 38 ∨ s = str2 46 46 ∨ s = str2 58 58 ∨ s = str1 94 ∨ s = str1 40 → ∀ b p, signAt s ⟨rest, b, p⟩ = none
 num : ∀ t r, rest = t :: r → t.f0 ≠ 2
theorem ok_of {b c : Bool} (h : b = true → c = true) (hc : c = false) : b = false := by
 cases b with
 | false => rfl
 | true => exact absurd ((h rfl).symm.trans hc) (by decide)
theorem fail_absurd {ev : Int} {st : St} {P : Prop} {x : S44} (h : (x, failS ev st).2.bad = false) : P := absurd ((failS_bad ev st).symm.trans h) (by decide)
end
section
open Go.RowKit Go.Proofs.YtfgfoofojofnmaaDoorW.PrintWords Go.Proofs.YtfgfoofojofnmaaDoorW.PrintLast Go.Proofs.YtfgfoofojofnmaaDoorW.PrintMore
open Go.Proofs.YtfgfoofojofnmaaDoor.Hand
set_option linter.unusedVariables false
set_option linter.unusedSimpArgs false
theorem head_chr (p : UInt8 → Bool) {d : UInt8} (h32 : p d = false) (m : List UInt8) : ∀ l : List UInt8, headN p (l ++ d :: m) = headN p l ∧ (l ++ d :: m).take (headN p l) = l.take (headN p l)
 | [] => by simp [headN, h32]
 | c :: l => by
  obtain ⟨h1, h2⟩ := head_chr p h32 m l
  by_cases hc : p c = true
  ·have e : headN p (c :: l) = headN p l + 1 := by simp [headN, hc]
   have e2 : headN p (c :: l ++ d :: m) = headN p (l ++ d :: m) + 1 := by simp [headN, hc]
   rw [e, e2, h1, List.cons_append, List.take_succ_cons, List.take_succ_cons, h2]
   exact ⟨rfl, rfl⟩
  ·have e : headN p (c :: l) = 0 := by simp [headN, hc]
   have e2 : headN p (c :: l ++ d :: m) = 0 := by simp [headN, hc]
   rw [e, e2]
   simp
theorem one_chr {d : UInt8} (hd : nameB d = false) (c : UInt8) (r m : List UInt8) (t : Tk) (h : oneL c r = some t) (hn : t.2.2.2.2.2 ≠ 0) : oneL c (r ++ d :: m) = some t := by
 have N : ∀ {P : Prop}, some zeroT = some t → P := fun e => absurd (by rw [← Option.some.inj e]; rfl) hn
 unfold oneL at h ⊢
 have hN := head_chr nameB hd m (c :: r)
 have hD := head_chr digitB (by simp only [nameB, Bool.or_eq_false_iff] at hd; exact hd.1.2) m (c :: r)
 rw [List.cons_append] at hN hD
 by_cases h1 : smallB c = true
 ·rw [if_pos h1] at h ⊢
  rw [hN.1, hN.2]
  exact h
 ·rw [if_neg h1] at h ⊢
  by_cases h2 : digitB c = true
  ·rw [if_pos h2] at h ⊢
   rw [hD.1, hD.2]
   exact h
  ·rw [if_neg h2] at h ⊢
   by_cases h3 : c = 39
   ·rw [if_pos h3] at h ⊢
    by_cases h4 : 0 ≤ Lib.indexByte r 39
    ·rw [if_pos h4] at h
     rw [idx_more _ _ _ h4, if_pos h4]
     have := idx_lt r 39 h4
     rw [List.take_append_of_le_length (by omega)]
     exact h
    ·rw [if_neg h4] at h
     exact N h
   ·rw [if_neg h3] at h ⊢
    by_cases h4 : c = 35 ∧ 16 < r.length + 1
    ·rw [if_pos h4] at h
     rw [if_pos ⟨h4.1, by simp; omega⟩, List.take_append_of_le_length (by omega)]
     exact h
    ·rw [if_neg h4] at h
     by_cases h35 : c = 35
     ·rw [if_neg (by rw [h35]; simp), if_neg (by rw [h35]; exact (by decide : ¬ signB 35 = true))] at h
      exact N h
     ·rw [if_neg (fun e => h35 e.1)]
      by_cases h5 : (c :: r).take 2 = [46, 46] ∨ (c :: r).take 2 = [58, 58]
      ·have h2 : 2 ≤ (c :: r).length := by
        rcases h5 with h | h
        ·have := congrArg List.length h; simp at this ⊢; omega
        ·have := congrArg List.length h; simp at this ⊢; omega
       rw [if_pos h5] at h
       have e : (c :: (r ++ d :: m)).take 2 = (c :: r).take 2 := by
        rw [← List.cons_append]; exact List.take_append_of_le_length h2
       rw [e, if_pos h5]
       exact h
      ·rw [if_neg h5] at h
       by_cases h6 : signB c = true
       ·rw [if_pos h6] at h
        have h7 : ¬ ((c :: (r ++ d :: m)).take 2 = [46, 46] ∨ (c :: (r ++ d :: m)).take 2 = [58, 58]) := by
         intro e
         rcases e with e | e
         ·have : c = 46 := by simpa using congrArg List.head? e
          rw [this] at h6
          exact absurd h6 (by decide)
         ·have : c = 58 := by simpa using congrArg List.head? e
          rw [this] at h6
          exact absurd h6 (by decide)
        rw [if_neg h7, if_pos h6]
        exact h
       ·rw [if_neg h6] at h
        exact N h

theorem oneT_chr {d : UInt8} (hd : nameB d = false) (c : UInt8) (r m : List UInt8) (h : nOf (oneT c r) ≠ 0) : oneT c (r ++ d :: m) = oneT c r := by
 have h2 : (oneT c r).2.2.2.2.2 ≠ 0 := by have := nOf_eq c r; omega
 have := one_chr hd c r m (oneT c r) (oneT_eq c r) h2
 rw [oneT, this]; rfl

attribute [local irreducible] oneT nOf
theorem scanT_chr {d : UInt8} (hd : nameB d = false) (m : List UInt8) (n : Nat) : ∀ (l : List UInt8) (i : Nat) (out : List S39), l.length ≤ n → (scanT l i out).2.2 = 0 → scanT (l ++ d :: m) i out = scanT (d :: m) (i + l.length) (scanT l i out).1 := by
 induction n with
 | zero =>
  intro l i out hl _
  have : l = [] := List.length_eq_zero_iff.mp (by omega)
  subst this
  rw [List.nil_append, scanT_nil]
  rfl
 | succ n ih =>
  intro l i out hl h
  cases l with
  | nil =>
   rw [List.nil_append, scanT_nil]
   rfl
  | cons c r =>
   simp only [List.length_cons] at hl
   rw [List.cons_append]
   by_cases hb : c = 32 ∨ c = 9
   ·rw [scanT_blank hb] at h ⊢
    rw [scanT_blank hb, ih r (i + 1) out (by omega) h]
    congr 1
    simp only [List.length_cons]; omega
   ·by_cases h0 : nOf (oneT c r) = 0
    ·rw [scanT_bad hb h0] at h
     exact absurd (show (30 : Int) = 0 from h) (by decide)
    ·have e := oneT_chr hd c r m h0
     have hq := nOf_le c r
     rw [scanT_tok hb h0] at h ⊢
     rw [scanT_tok hb (by rw [e]; exact h0), e]
     have ed : (c :: (r ++ d :: m)).drop (nOf (oneT c r)) = (c :: r).drop (nOf (oneT c r)) ++ d :: m := by
      rw [← List.cons_append, List.drop_append_of_le_length (by simp only [List.length_cons]; omega)]
     rw [ed, ih _ _ _ (by simp only [List.length_drop, List.length_cons]; omega) h]
     congr 1
     simp only [List.length_drop, List.length_cons]; omega
theorem scanT_at (n : Nat) : ∀ (l : List UInt8) (i : Nat) (out : List S39), l.length ≤ n → (scanT l i out).2.2 = 0 → (scanT l i out).2.1 = 0 := by
 induction n with
 | zero =>
  intro l i out hl _
  have : l = [] := List.length_eq_zero_iff.mp (by omega)
  subst this
  rw [scanT_nil]
 | succ n ih =>
  intro l i out hl h
  cases l with
  | nil => rw [scanT_nil]
  | cons c r =>
   simp only [List.length_cons] at hl
   by_cases hb : c = 32 ∨ c = 9
   ·rw [scanT_blank hb] at h ⊢
    exact ih r _ _ (by omega) h
   ·by_cases h0 : nOf (oneT c r) = 0
    ·rw [scanT_bad hb h0] at h
     exact absurd (show (30 : Int) = 0 from h) (by decide)
    ·rw [scanT_tok hb h0] at h ⊢
     exact ih _ _ _ (by simp only [List.length_drop, List.length_cons]; omega) h
def shT (d : Nat) (t : S39) : S39 := ⟨t.f0, t.f1, t.f2, t.f3, t.f4 + d⟩
theorem scanT_mv (d : Nat) (pre : List S39) (n : Nat) : ∀ (l : List UInt8) (i : Nat) (out : List S39), l.length ≤ n → (scanT l i out).2.2 = 0 → scanT l (i + d) (pre ++ out.map (shT d)) = (pre ++ (scanT l i out).1.map (shT d), 0, 0) := by
 induction n with
 | zero =>
  intro l i out hl _
  have : l = [] := List.length_eq_zero_iff.mp (by omega)
  subst this
  rw [scanT_nil, scanT_nil]
 | succ n ih =>
  intro l i out hl h
  cases l with
  | nil => rw [scanT_nil, scanT_nil]
  | cons c r =>
   simp only [List.length_cons] at hl
   by_cases hb : c = 32 ∨ c = 9
   ·rw [scanT_blank hb] at h ⊢
    rw [scanT_blank hb, ← ih r _ _ (by omega) h]
    congr 1
    omega
   ·by_cases h0 : nOf (oneT c r) = 0
    ·rw [scanT_bad hb h0] at h
     exact absurd (show (30 : Int) = 0 from h) (by decide)
    ·rw [scanT_tok hb h0] at h ⊢
     rw [scanT_tok hb h0, ← ih _ _ _ (by simp only [List.length_drop, List.length_cons]; omega) h]
     have e1 : i + d + nOf (oneT c r) = i + nOf (oneT c r) + d := by omega
     have e2 : pre ++ out.map (shT d) ++ [tokOf (oneT c r) (i + d)] = pre ++ (out ++ [tokOf (oneT c r) i]).map (shT d) := by
      simp [shT, tokOf]
     rw [e1, e2]
end
section
open Go.RowKit Go.Proofs.YtfgfoofojofnmaaDoorW.PrintWords Go.Proofs.YtfgfoofojofnmaaDoorW.PrintLast Go.Proofs.YtfgfoofojofnmaaDoorW.PrintMore
set_option linter.unusedVariables false
set_option linter.unusedSimpArgs false
open Go.Proofs.YtfgfoofojofnmaaDoor.Hand
/-- A sign's token. -/
def sT (l : List UInt8) (p : Nat) : S39 := ⟨5, bs l, 0, 0, (p : Int)⟩
theorem str1_list (a : UInt8) : (str1 a).toList = [a] := by rw [ByteArray.toList_eq]
theorem str2_list (a b : UInt8) : (str2 a b).toList = [a, b] := by rw [ByteArray.toList_eq]
/-- The tokens A are read whole, to n. -/
def Reads (A : List S39) (n : S44) : Prop := ∃ ev b, exprF ev (6 * A.length + 6) ⟨A, false, 0⟩ = (n, ⟨[], false, b⟩)
section
variable {A : List S39} {n : S44} (h : Reads A n) (ev : Int) (g : Int → Int) (q : Int) (p0 p : Nat) (R : List S39)
include h
end
theorem shT_tk (d : Nat) : shT d = tkG (fun x => x + (d : Int)) := rfl
theorem oneT_sign (c : UInt8) (r : List UInt8) (h1 : smallB c = false) (h2 : digitB c = false) (h3 : c ≠ 39) (h4 : c ≠ 35) (h5 : c ≠ 46) (h6 : c ≠ 58) (h7 : signB c = true) : oneT c r = (5, bs [c], 0, 0, 0, 1) := by
 have : oneL c r = some (5, bs [c], 0, 0, 0, 1) := by
  unfold oneL
  rw [if_neg (by rw [h1]; decide), if_neg (by rw [h2]; decide), if_neg h3, if_neg (fun e => h4 e.1), if_neg, if_pos h7]
  intro e
  rcases e with e | e
  ·exact h5 (by simpa using congrArg List.head? e)
  ·exact h6 (by simpa using congrArg List.head? e)
 rw [oneT, this]; rfl
theorem oneT_dots (c : UInt8) (r : List UInt8) (h : c = 46 ∨ c = 58) : oneT c (c :: r) = (5, bs [c, c], 0, 0, 0, 2) := by
 have : oneL c (c :: r) = some (5, bs [c, c], 0, 0, 0, 2) := by
  unfold oneL
  rcases h with rfl | rfl
  ·rw [if_neg (by decide), if_neg (by decide), if_neg (by decide), if_neg (by simp), if_pos (.inl rfl)]; rfl
  ·rw [if_neg (by decide), if_neg (by decide), if_neg (by decide), if_neg (by simp), if_pos (.inr rfl)]; rfl
 rw [oneT, this]; rfl
theorem scan_sign (c : UInt8) (r : List UInt8) (i : Nat) (out : List S39) (hb : ¬ (c = 32 ∨ c = 9)) (h : oneT c r = (5, bs [c], 0, 0, 0, 1)) : scanT (c :: r) i out = scanT r (i + 1) (out ++ [sT [c] i]) := by
 have hn : nOf (oneT c r) = 1 := by rw [h]; rfl
 rw [scanT_tok hb (by rw [hn]; decide), hn, h]
 rfl
theorem scan_dots (c : UInt8) (r : List UInt8) (i : Nat) (out : List S39) (hc : c = 46 ∨ c = 58) : scanT (c :: c :: r) i out = scanT r (i + 2) (out ++ [sT [c, c] i]) := by
 have h := oneT_dots c r hc
 have hn : nOf (oneT c (c :: r)) = 2 := by rw [h]; rfl
 rw [scanT_tok (by rcases hc with rfl | rfl <;> decide) (by rw [hn]; decide), hn, h]
 rfl
/-- A whole text ahead of a byte that no name goes on with. -/
theorem scan_part {l : List UInt8} {A : List S39} (h : scanT l 0 [] = (A, 0, 0)) {d : UInt8} (hd : nameB d = false) (m : List UInt8) (i : Nat) (out : List S39) : scanT (l ++ d :: m) i out = scanT (d :: m) (i + l.length) (out ++ A.map (tkG (fun x => x + (i : Int)))) := by
 have h1 := scanT_mv i out l.length l 0 [] (Nat.le_refl _) (by rw [h])
 simp only [Nat.zero_add, List.map_nil, List.append_nil] at h1
 rw [scanT_chr hd m l.length l i out (Nat.le_refl _) (by rw [h1]), h1, h, shT_tk]
theorem parse_ok (a : ByteArray) (h : (parseT a).2.2 = 0) : a.size ≤ 1024 ∧ ∃ A, scanT a.data.toList 0 [] = (A, 0, 0) ∧ Reads A (parseT a).1 ∧ (parseT a).2.1 = 0 ∧ depthT (parseT a).1 ≤ 24 := by
 unfold parseT at h ⊢
 by_cases hc : (scanS a).2.2 = 0
 ·rw [if_pos hc] at h ⊢
  by_cases hb : (endS (a.size : Int) (readS a).2).bad = true
  ·rw [if_pos hb] at h; exact absurd (show (31 : Int) = 0 from h) (by decide)
  ·rw [if_neg hb] at h ⊢
   by_cases hd : 24 < depthT (readS a).1
   ·rw [if_pos hd] at h; exact absurd (show (32 : Int) = 0 from h) (by decide)
   ·rw [if_neg hd]
    have hsz : a.size ≤ 1024 := by
     by_cases hz : a.size ≤ 1024
     ·exact hz
     ·unfold scanS at hc; rw [if_neg hz] at hc; exact absurd hc (by decide)
    have he : scanS a = scanT a.data.toList 0 [] := by unfold scanS; rw [if_pos hsz]
    rw [he] at hc
    have hp := scanT_at a.data.toList.length a.data.toList 0 [] (Nat.le_refl _) hc
    have hend : (readS a).2.ts.length = 0 ∧ (readS a).2.bad = false := by
     unfold endS at hb
     by_cases hz : (readS a).2.ts.length = 0
     ·rw [if_pos hz] at hb; exact ⟨hz, by simpa using hb⟩
     ·rw [if_neg hz, failS_bad] at hb; exact absurd rfl hb
    refine ⟨hsz, (scanT a.data.toList 0 []).1, Prod.ext rfl (Prod.ext hp hc), ⟨(a.size : Int), (readS a).2.pos, ?_⟩, rfl, by show depthT (readS a).1 ≤ 24; omega⟩
    have hr : readS a = exprF (a.size : Int) (6 * (scanS a).1.length + 6) ⟨(scanS a).1, false, 0⟩ := rfl
    rw [he] at hr
    rw [← hr]
    have h0 := List.eq_nil_of_length_eq_zero hend.1
    generalize readS a = r at *
    obtain ⟨x, ts, bad, pos⟩ := r
    simp only at h0 hend
    rw [h0, hend.2]
 ·rw [if_neg hc] at h
  exact absurd h hc
end
section
open Go.RowKit Go.Proofs.YtfgfoofojofnmaaDoorW.PrintWords Go.Proofs.YtfgfoofojofnmaaDoorW.PrintLast Go.Proofs.YtfgfoofojofnmaaDoorW.PrintMore
set_option linter.unusedVariables false
set_option linter.unusedSimpArgs false
open Go.Proofs.YtfgfoofojofnmaaDoor.Hand
theorem depthT_mp (g : Int → Int) : (∀ n x, wt x ≤ n → depthT (mp g x) = depthT x) := by
 intro n
 induction n with
 | zero => exact fun x h => absurd (wt_pos x) (by omega)
 | succ n ih =>
  intro x hx
  obtain ⟨a, b, c, d, ks, e⟩ := x
  rw [wt_mk] at hx
  rw [mp_mk, depthT_mk, depthT_mk]
  have : ∀ ks : List S44, wtM ks ≤ n → depthM (mpM g ks) = depthM ks := by
   intro ks
   induction ks with
   | nil => intro _; rw [mpM_nil]
   | cons k ks ihk =>
    intro h
    rw [wtM_cons] at h
    rw [mpM_cons, depthM_cons, depthM_cons, ih k (by omega), ihk (by omega)]
  rw [this ks (by omega)]
theorem depth_mp (g : Int → Int) (x : S44) : depthT (mp g x) = depthT x := depthT_mp g (wt x) x (Nat.le_refl _)
end
section
open Go.RowKit Go.Proofs.YtfgfoofojofnmaaDoorW.PrintWords Go.Proofs.YtfgfoofojofnmaaDoorW.PrintLast Go.Proofs.YtfgfoofojofnmaaDoorW.PrintMore
set_option linter.unusedVariables false
set_option linter.unusedSimpArgs false
open Go.Proofs.YtfgfoofojofnmaaDoor.Hand
/-- What was read of tokens, is what the parser answers. -/
theorem parse_is {a : ByteArray} {A : List S39} {n : S44} (hsz : a.size ≤ 1024) (hA : scanT a.data.toList 0 [] = (A, 0, 0)) (hr : exprF (a.size : Int) (6 * A.length + 6) ⟨A, false, 0⟩ = (n, ⟨[], false, 0⟩)) (hd : depthT n ≤ 24) : parseT a = (n, 0, 0) := by
 have hsc : scanS a = (A, 0, 0) := by unfold scanS; rw [if_pos hsz, hA]
 have h : readS a = (n, ⟨[], false, 0⟩) := by unfold readS; rw [hsc]; exact hr
 unfold parseT
 rw [if_pos (by rw [hsc]), h, if_neg (by simp [endS]), if_neg (by show ¬ 24 < depthT n; omega)]
end
section
open Go.RowKit Go.Proofs.YtfgfoofojofnmaaDoorW.PrintWords Go.Proofs.YtfgfoofojofnmaaDoorW.PrintLast Go.Proofs.YtfgfoofojofnmaaDoorW.PrintMore
set_option linter.unusedVariables false
set_option linter.unusedSimpArgs false
open Go.Proofs.YtfgfoofojofnmaaDoor.Hand
/-- Without places. -/
def eT (t : S39) : S39 := tkG (fun _ => 0) t
def eN (x : S44) : S44 := mp (fun _ => 0) x
theorem eT_mk (a : Int) (b : ByteArray) (c d e : Int) : eT ⟨a, b, c, d, e⟩ = ⟨a, b, c, d, 0⟩ := rfl
theorem eN_nd1 (op p : Int) (a : S44) : eN (nd op [a] p) = nd op [eN a] 0 := mp_nd1 _ op p a
theorem eN_nd2 (op p : Int) (a b : S44) : eN (nd op [a, b] p) = nd op [eN a, eN b] 0 := mp_nd2 _ op p a b
theorem eN_mk (a : Int) (b : ByteArray) (c d : Int) (ks : List S44) (e : Int) : eN ⟨a, b, c, d, ks, e⟩ = ⟨a, b, c, d, mpM (fun _ => 0) ks, 0⟩ := mp_mk ..
theorem mpM_map (g : Int → Int) (ks : List S44) : mpM g ks = ks.map (mp g) := by
 induction ks with
 | nil => rw [mpM_nil]; rfl
 | cons k ks ih => rw [mpM_cons, ih]; rfl
theorem depth_eN (x : S44) : depthT (eN x) = depthT x := depth_mp _ x
theorem depth_of {x y : S44} (h : eN x = eN y) : depthT x = depthT y := by rw [← depth_eN x, h, depth_eN]
/-! ### what tokens there are -/
def NameOk (s : ByteArray) : Prop := ∃ c r, s.data.toList = c :: r ∧ smallB c = true ∧ (∀ x ∈ r, nameB x = true) ∧ r.length + 1 ≤ 16
def TextOk (s : ByteArray) : Prop := (39 : UInt8) ∉ s.data.toList ∧ (10 : UInt8) ∉ s.data.toList ∧ s.size ≤ 1024
def TokOk (t : S39) : Prop :=
 (t.f0 = 1 ∧ NameOk t.f1 ∧ t.f2 = 0 ∧ t.f3 = 0) ∨ (t.f0 = 2 ∧ t.f1 = ⟨#[]⟩ ∧ 0 ≤ t.f2 ∧ t.f2 < 1000000000 ∧ t.f3 = 0) ∨
 (t.f0 = 3 ∧ TextOk t.f1 ∧ t.f2 = 0 ∧ t.f3 = 0) ∨ (t.f0 = 4 ∧ t.f1 = ⟨#[]⟩ ∧ t.f2 = 0 ∧ 0 ≤ t.f3 ∧ t.f3 < 18446744073709551616) ∨
 (t.f0 = 5 ∧ t.f2 = 0 ∧ t.f3 = 0 ∧ ((∃ c, t.f1.data.toList = [c] ∧ signB c = true) ∨ t.f1.data.toList = [46, 46] ∨ t.f1.data.toList = [58, 58]))
/-! ### what trees there are -/
inductive Wf : S44 → Prop
 | name (s : ByteArray) (p : Int) : NameOk s → Wf ⟨1, s, 0, 0, [], p⟩
 | hash (id p : Int) : 0 ≤ id → id < 18446744073709551616 → Wf ⟨2, ⟨#[]⟩, 0, id, [], p⟩
 | num (n p : Int) : 0 ≤ n → n < 1000000000 → Wf ⟨3, ⟨#[]⟩, n, 0, [], p⟩
 | text (s : ByteArray) (p : Int) : TextOk s → Wf ⟨4, s, 0, 0, [], p⟩
 | call (s : ByteArray) (ks : List S44) (p : Int) : NameOk s → (∀ k ∈ ks, Wf k) → Wf ⟨5, s, 0, 0, ks, p⟩
 | two (op : Int) (a b : S44) (p : Int) : op = 6 ∨ op = 7 ∨ op = 8 ∨ op = 9 ∨ op = 10 → Wf a → Wf b → Wf (nd op [a, b] p)
 | not (a : S44) (p : Int) : Wf a → Wf (nd 11 [a] p)
 | up (n : Int) (a : S44) (p : Int) : 0 ≤ n → n < 1000000000 → Wf a → Wf ⟨12, ⟨#[]⟩, n, 0, [a], p⟩
theorem wf_leaf {t : S39} (h : TokOk t) (h5 : t.f0 ≠ 5) : Wf (leafN t) := by
 obtain ⟨a, b, c, d, e⟩ := t
 rcases h with ⟨h0, h1, h2, h3⟩ | ⟨h0, h1, h2, h3, h4⟩ | ⟨h0, h1, h2, h3⟩ | ⟨h0, h1, h2, h3, h4⟩ | ⟨h0, _⟩
 ·simp only at h0 h1 h2 h3; subst h0; subst h2; subst h3; exact Wf.name b e h1
 ·simp only at h0 h1 h2 h3 h4; subst h0; subst h1; subst h4; exact Wf.num c e h2 h3
 ·simp only at h0 h1 h2 h3; subst h0; subst h2; subst h3; exact Wf.text b e h1
 ·simp only at h0 h1 h2 h3 h4; subst h0; subst h1; subst h2; exact Wf.hash d e h3 h4
 ·exact absurd h0 h5
def AllOk (st : St) : Prop := ∀ t ∈ st.ts, TokOk t
theorem sign_ok {s : ByteArray} {st s1 : St} {p : Int} (h : signAt s st = some (p, s1)) (ha : AllOk st) : AllOk s1 := by
 obtain ⟨ts, bad, pos⟩ := st
 cases ts with
 | nil => exact absurd h (by simp [signAt])
 | cons t r =>
  simp only [signAt] at h
  split at h
  ·injection h with h; injection h with h1 h2
   subst h2
   exact fun x hx => ha x (List.mem_cons_of_mem _ hx)
  ·exact absurd h (by simp)
theorem fail_ok (ev : Int) (st : St) : AllOk (failS ev st) := fun t ht => by rw [failS_ts] at ht; exact absurd ht (by simp)
/-- What a function of the reader answers, where it didn't fail. -/
def Ans (r : S44 × St) : Prop := AllOk r.2 ∧ (r.2.bad = false → Wf r.1)
theorem ans_fail (ev : Int) (st : St) : Ans (z44, failS ev st) := ⟨fail_ok ev st, fun h => fail_absurd (x := z44) h⟩
/-- The reader makes such trees alone (where there are rounds enough). -/
theorem wf_all (ev : Int) : ∀ n : Nat,
  (∀ st, 6 * st.ts.length + 6 ≤ n → AllOk st → Ans (exprF ev n st)) ∧
  (∀ a st, 6 * st.ts.length ≤ n → AllOk st → (st.bad = false → Wf a) → Ans (exprL ev n a st)) ∧
  (∀ st, 6 * st.ts.length + 5 ≤ n → AllOk st → Ans (interF ev n st)) ∧
  (∀ a st, 6 * st.ts.length ≤ n + 1 → AllOk st → (st.bad = false → Wf a) → Ans (interL ev n a st)) ∧
  (∀ st, 6 * st.ts.length + 4 ≤ n → AllOk st → Ans (rangedF ev n st)) ∧
  (∀ st, 6 * st.ts.length + 3 ≤ n → AllOk st → Ans (unaryF ev n st)) ∧
  (∀ a st, st.ts.length ≤ n → AllOk st → (st.bad = false → Wf a) → Ans (upL ev n a st)) ∧
  (∀ st, 6 * st.ts.length + 2 ≤ n → AllOk st → Ans (atomF ev n st)) ∧
  (∀ t ks st, 6 * st.ts.length + 7 ≤ n → AllOk st → NameOk t.f1 → t.f2 = 0 → t.f3 = 0 → (st.bad = false → ∀ k ∈ ks, Wf k) → Ans (callL ev n t ks st))
 | 0 => by
  refine ⟨fun st h => absurd h (by omega), fun a st h ha hw => ⟨ha, hw⟩, fun st h => absurd h (by omega), fun a st h ha hw => ⟨ha, hw⟩, fun st h => absurd h (by omega), fun st h => absurd h (by omega), fun a st h ha hw => ⟨ha, hw⟩, fun st h => absurd h (by omega), fun t ks st h => absurd h (by omega)⟩
 | n + 1 => by
  obtain ⟨hE, hEL, hI, hIL, hR, hU, hUL, hA, hC⟩ := wf_all ev n
  obtain ⟨tE, tI, tR, tU, tA⟩ := ts_le ev n
  obtain ⟨bE, bEL, bI, bIL, bR, bU, bUL, bA, bC⟩ := bad_all ev n
  have two : ∀ {op p : Int} {a b : S44} {s1 s2 : St}, (op = 6 ∨ op = 7 ∨ op = 8 ∨ op = 9 ∨ op = 10) → (s1.bad = false → Wf a) → (s1.bad = true → s2.bad = true) → (s2.bad = false → Wf b) → (s2.bad = false → Wf (nd op [a, b] p)) :=
   fun ho h1 hb h2 h => Wf.two _ _ _ _ ho (h1 (ok_of hb h)) (h2 h)
  refine ⟨fun st h ha => ?_, fun a st h ha hw => ?_, fun st h ha => ?_, fun a st h ha hw => ?_, fun st h ha => ?_, fun st h ha => ?_, fun a st h ha hw => ?_, fun st h ha => ?_, fun t ks st h ha hn h2 h3 hw => ?_⟩
  ·have h1 := hI st (by omega) ha
   have := tI st
   exact hEL _ _ (by omega) h1.1 h1.2
  ·rcases h1 : signAt (str1 124) st with _ | ⟨p, s1⟩
   ·rcases h2 : signAt (str1 45) st with _ | ⟨p, s1⟩
    ·rw [exprL_none h1 h2]; exact ⟨ha, hw⟩
    ·have h3 := signAt_len h2; have := tI s1; have h4 := hI s1 (by omega) (sign_ok h2 ha)
     rw [exprL_minus h1 h2]
     exact hEL _ _ (by omega) h4.1 (two (by simp) (fun e => hw ((signAt_bad h2).symm.trans e)) (bI s1) h4.2)
   ·have h3 := signAt_len h1; have := tI s1; have h4 := hI s1 (by omega) (sign_ok h1 ha)
    rw [exprL_or h1]
    exact hEL _ _ (by omega) h4.1 (two (by simp) (fun e => hw ((signAt_bad h1).symm.trans e)) (bI s1) h4.2)
  ·have h1 := hR st (by omega) ha
   have := tR st
   exact hIL _ _ (by omega) h1.1 h1.2
  ·rcases h1 : signAt (str1 38) st with _ | ⟨p, s1⟩
   ·rw [interL_none h1]; exact ⟨ha, hw⟩
   ·have h3 := signAt_len h1; have := tR s1; have h4 := hR s1 (by omega) (sign_ok h1 ha)
    rw [interL_some h1]
    exact hIL _ _ (by omega) h4.1 (two (by simp) (fun e => hw ((signAt_bad h1).symm.trans e)) (bR s1) h4.2)
  ·have hu := hU st (by omega) ha
   have := tU st
   rcases h1 : signAt (str2 46 46) (unaryF ev n st).2 with _ | ⟨p, s1⟩
   ·rcases h2 : signAt (str2 58 58) (unaryF ev n st).2 with _ | ⟨p, s1⟩
    ·rw [rangedF_none h1 h2]; exact hu
    ·have h3 := signAt_len h2; have h4 := hU s1 (by omega) (sign_ok h2 hu.1)
     rw [rangedF_colons h1 h2]
     exact ⟨h4.1, two (by simp) (fun e => hu.2 ((signAt_bad h2).symm.trans e)) (bU s1) h4.2⟩
   ·have h3 := signAt_len h1; have h4 := hU s1 (by omega) (sign_ok h1 hu.1)
    rw [rangedF_dots h1]
    exact ⟨h4.1, two (by simp) (fun e => hu.2 ((signAt_bad h1).symm.trans e)) (bU s1) h4.2⟩
  ·rcases h1 : signAt (str1 33) st with _ | ⟨p, s1⟩
   ·have := tA st; have h4 := hA st (by omega) ha
    rw [unaryF_atom h1]
    exact hUL _ _ (by omega) h4.1 h4.2
   ·have h3 := signAt_len h1; have h4 := hU s1 (by omega) (sign_ok h1 ha)
    rw [unaryF_not h1]
    exact ⟨h4.1, fun e => Wf.not _ _ (h4.2 e)⟩
  ·rcases h1 : signAt (str1 94) st with _ | ⟨p, ts, bad, pos⟩
   ·rw [upL_none h1]; exact ⟨ha, hw⟩
   ·have h3 := signAt_len h1
    have hb := signAt_bad h1
    have ha1 := sign_ok h1 ha
    simp only at hb
    cases ts with
    | nil => rw [upL_nil h1]; exact hUL _ _ (by simp) ha1 (fun e => Wf.up 0 _ _ (by decide) (by decide) (hw (hb.symm.trans e)))
    | cons t r =>
     simp only [List.length_cons] at h3
     have hr : AllOk ⟨r, bad, pos⟩ := fun x hx => ha1 x (List.mem_cons_of_mem _ hx)
     by_cases h2 : t.f0 = 2
     ·by_cases h4 : t.f2 = 0
      ·rw [upL_zero h1 h2 h4]; exact ans_fail _ _
      ·rw [upL_num h1 h2 h4]
       refine hUL _ _ (by show r.length ≤ n; omega) hr (fun e => Wf.up _ _ _ ?_ ?_ (hw (hb.symm.trans e)))
       all_goals
        rcases ha1 t List.mem_cons_self with ⟨h0, _⟩ | ⟨h0, _, h6, h7, _⟩ | ⟨h0, _⟩ | ⟨h0, _⟩ | ⟨h0, _⟩
        all_goals first | exact h6 | exact h7 | (rw [h2] at h0; exact absurd h0 (by decide))
     ·rw [upL_other h1 h2]; exact hUL _ _ (by show (t :: r).length ≤ n; simp only [List.length_cons]; omega) ha1 (fun e => Wf.up 0 _ _ (by decide) (by decide) (hw (hb.symm.trans e)))
  ·rcases h1 : signAt (str1 40) st with _ | ⟨p, s1⟩
   ·obtain ⟨ts, bad, pos⟩ := st
    cases ts with
    | nil => rw [atomF_nil h1]; exact ans_fail _ _
    | cons t r =>
     simp only [List.length_cons] at h
     have hr : AllOk ⟨r, bad, pos⟩ := fun x hx => ha x (List.mem_cons_of_mem _ hx)
     have ht := ha t List.mem_cons_self
     by_cases h2 : t.f0 = 5
     ·rw [atomF_sign h1 h2]; exact ans_fail _ _
     ·by_cases h3 : t.f0 = 4 ∨ t.f0 = 2 ∨ t.f0 = 3
      ·rw [atomF_leaf h1 h2 h3]; exact ⟨hr, fun _ => wf_leaf ht h2⟩
      ·rcases h4 : signAt (str1 40) ⟨r, bad, pos⟩ with _ | ⟨p, s1⟩
       ·rw [atomF_name h1 h2 h3 h4]; exact ⟨hr, fun _ => wf_leaf ht h2⟩
       ·have h5 := signAt_len h4
        simp only at h5
        have hnm : NameOk t.f1 ∧ t.f2 = 0 ∧ t.f3 = 0 := by
         rcases ht with ⟨h0, h6⟩ | ⟨h0, _⟩ | ⟨h0, _⟩ | ⟨h0, _⟩ | ⟨h0, _⟩
         ·exact h6
         all_goals exact absurd h0 (by first | exact h2 | (intro e; exact h3 (by simp [e])))
        have ha1 := sign_ok h4 hr
        rw [atomF_call h1 h2 h3 h4]
        rcases h6 : signAt (str1 41) s1 with _ | ⟨p, s2⟩
        ·rw [callS_none h6]; exact hC _ _ _ (by omega) ha1 hnm.1 hnm.2.1 hnm.2.2 (fun _ k hk => absurd hk (by simp))
        ·rw [callS_some h6]
         refine ⟨sign_ok h6 ha1, fun _ => ?_⟩
         simp only [hnm.2.1, hnm.2.2]
         exact Wf.call _ _ _ hnm.1 (fun k hk => absurd hk (by simp))
   ·have h3 := signAt_len h1
    have he := hE s1 (by omega) (sign_ok h1 ha)
    rcases h5 : signAt (str1 41) (exprF ev n s1).2 with _ | ⟨p2, s2⟩
    ·rw [atomF_br_no h1 h5]; exact ans_fail _ _
    ·rw [atomF_br h1 h5]; exact ⟨sign_ok h5 he.1, fun e => he.2 ((signAt_bad h5).symm.trans e)⟩
  ·have he := hE st (by omega) ha
   have := tE st
   have hks : (exprF ev n st).2.bad = false → ∀ k ∈ ks ++ [(exprF ev n st).1], Wf k := by
    intro e k hk
    rcases List.mem_append.1 hk with hk | hk
    ·exact hw (ok_of (bE st) e) k hk
    ·rw [List.mem_singleton] at hk; rw [hk]; exact he.2 e
   rcases h1 : signAt (str1 44) (exprF ev n st).2 with _ | ⟨p, s2⟩
   ·rcases h6 : signAt (str1 41) (exprF ev n st).2 with _ | ⟨p, s2⟩
    ·rw [callL_bad h1 h6]; exact ans_fail _ _
    ·rw [callL_end h1 h6]
     refine ⟨sign_ok h6 he.1, fun e => ?_⟩
     simp only [h2, h3]
     exact Wf.call _ _ _ hn (hks ((signAt_bad h6).symm.trans e))
   ·have h6 := signAt_len h1
    rw [callL_comma h1]
    exact hC _ _ _ (by omega) (sign_ok h1 he.1) hn h2 h3 (fun e => hks ((signAt_bad h1).symm.trans e))
end
section
open Go.RowKit Go.Proofs.YtfgfoofojofnmaaDoorW.PrintWords Go.Proofs.YtfgfoofojofnmaaDoorW.PrintLast Go.Proofs.YtfgfoofojofnmaaDoorW.PrintMore
open Go.Proofs.YtfgfoofojofnmaaDoor.Hand
set_option linter.unusedVariables false
set_option linter.unusedSimpArgs false
/-! ### the quote -/
theorem idx_none (x : UInt8) : ∀ l : List UInt8, (∀ c ∈ l, c ≠ x) → Lib.indexByte l x = -1
 | [], _ => rfl
 | c :: l, h => by
  have hc : (c == x) = false := beq_eq_false_iff_ne.2 (h c (by simp))
  have ih := idx_none x l (fun d hd => h d (by simp [hd]))
  simp [Lib.indexByte, hc, ih]
theorem idx_at (x : UInt8) : ∀ (l : List UInt8) (q : Nat) (hq : q < l.length), (∀ c ∈ l.take q, c ≠ x) → l[q] = x → Lib.indexByte l x = q
 | c :: l, 0, _, _, h => by
  have : c = x := by simpa using h
  simp [Lib.indexByte, this]
 | c :: l, q + 1, hq, ha, h => by
  have hc : (c == x) = false := beq_eq_false_iff_ne.2 (ha c (by simp))
  have ih := idx_at x l q (by simpa using hq) (fun d hd => ha d (by simp [hd])) (by simpa using h)
  have h1 : ((q : Int) == -1) = false := beq_eq_false_iff_ne.2 (by omega)
  simp [Lib.indexByte, hc, ih, h1]
theorem idx_mem (x : UInt8) : ∀ (l : List UInt8), x ∈ l → 0 ≤ Lib.indexByte l x
 | c :: l, h => by
  by_cases hc : c = x
  ·simp [Lib.indexByte, hc]
  ·have hb : (c == x) = false := beq_eq_false_iff_ne.2 hc
   have hm : x ∈ l := by
    rcases List.mem_cons.mp h with e | e
    ·exact absurd e.symm hc
    ·exact e
   have ih := idx_mem x l hm
   have h1 : (Lib.indexByte l x == -1) = false := beq_eq_false_iff_ne.2 (by omega)
   simp only [Lib.indexByte, hb, h1, Bool.false_eq_true, if_false]
   omega
/-! ### sixteen digits -/
theorem wu64 (x : Int) : IntKind.u64.wrap x = x % 18446744073709551616 := by simp [IntKind.wrap, IntKind.bits, IntKind.signed]
theorem or_add (a b : Int) (ha : 0 ≤ a) (ha2 : a < 18446744073709551616) (hm : a % 16 = 0) (h0 : 0 ≤ b) (h1 : b < 16) : Go.bits .or .u64 a b = a + b := by
 have h64 : (2 : Int) ^ 64 = 18446744073709551616 := by decide
 have h4 : (2 : Int) ^ 4 = 16 := by decide
 exact bits_join .u64 64 (by decide) (fun n h h2 => by rw [h64] at h2; rw [wu64]; omega) 4 a b ha (by rw [h4]; exact hm) (by rw [h64]; exact ha2) h0 (by rw [h4]; exact h1) (by rw [h64]; omega)
/-- The number that a byte stands for among sixteen digits. -/
def hexD (c : Nat) : Option Nat := if 48 ≤ c ∧ c ≤ 57 then some (c - 48) else if 97 ≤ c ∧ c ≤ 102 then some (c - 87) else none
def hexF : List UInt8 → Nat → Option Nat
 | [], v => some v
 | c :: l, v => (hexD c.toNat).bind fun d => hexF l ((v * 16 + d) % 18446744073709551616)
def hexR (l : List UInt8) : Int × Int := match hexF l 0 with
 | some v => ((v : Int), 0)
 | none => (0, 9)
theorem bt_at' (l : List UInt8) (i : Nat) (h : i < l.length) : bt (bs l) (i : Int) = (l[i].toNat : Int) := by
 have e := bt_drop (bs l) i l[i] (l.drop (i + 1)) (by rw [bs_list]; exact List.drop_eq_getElem_cons h)
 exact e
theorem sum_parse_loop (l : List UInt8) (hl : l.length = 16) (d : Nat) : ∀ (k i v : Nat), i ≤ 16 → 16 - i = d → 2 * d + 1 ≤ k → v < 18446744073709551616 →
  sum_Parse.l0 k (bs l) (v : Int) 16 (i : Int) = some (match hexF (l.drop i) v with | some v => ((v : Int), 0) | none => (0, 9)) := by
 induction d with
 | zero =>
  intro k i v hi hd hk hv
  obtain ⟨k, rfl⟩ : ∃ m, k = m + 1 := ⟨k - 1, by omega⟩
  simp only [sum_Parse.l0]
  rw [if_neg (by omega), List.drop_eq_nil_of_le (by omega)]
  rfl
 | succ d ih =>
  intro k i v hi hd hk hv
  obtain ⟨k, rfl⟩ : ∃ m, k = m + 2 := ⟨k - 2, by omega⟩
  have hlt : i < l.length := by omega
  have hb : l[i].toNat < 256 := l[i].toNat_lt
  have e1 : Hid (wrap64 ((i : Int) + 1) = ((i + 1 : Nat) : Int)) := Lib.hid (by rw [w64 (by omega) (by omega)]; omega)
  have step : ∀ x : Nat, x < 16 → Go.bits .or .u64 (IntKind.u64.wrap ((v : Int) * 16)) (x : Int) = (((v * 16 + x) % 18446744073709551616 : Nat) : Int) := by
   intro x hx
   rw [wu64, or_add _ _ (by omega) (by omega) (by omega) (by omega) (by omega)]
   omega
  have hdr : l.drop i = l[i] :: l.drop (i + 1) := List.drop_eq_getElem_cons hlt
  simp only [sum_Parse.l0]
  rw [if_pos (by omega), if_pos (by omega), if_pos (by rw [bs_size]; omega), bt_at' l i hlt, hdr]
  simp only [hexF]
  generalize l[i].toNat = c at *
  by_cases h48 : (48 : Int) ≤ (c : Int)
  ·rw [if_pos h48]
   simp only [sum_Parse.j1]
   by_cases h57 : (c : Int) ≤ 57
   ·rw [if_pos (decide_eq_true h57), e1.out]
    have ed : hexD c = some (c - 48) := by unfold hexD; rw [if_pos ⟨by omega, by omega⟩]
    have ex : ((c : Int) - 48) % 256 = ((c - 48 : Nat) : Int) := by omega
    rw [ed, Option.bind_some, ex, step _ (by omega)]
    exact ih k (i + 1) _ (by omega) (by omega) (by omega) (by omega)
   ·rw [if_neg (by simpa using h57)]
    by_cases h97 : (c : Int) ≥ 97
    ·rw [if_pos h97]
     by_cases h102 : (c : Int) ≤ 102
     ·rw [if_pos h102, e1.out]
      have ed : hexD c = some (c - 87) := by unfold hexD; rw [if_neg (by omega), if_pos ⟨by omega, by omega⟩]
      have ex : ((((c : Int) - 97) % 256) + 10) % 256 = ((c - 87 : Nat) : Int) := by omega
      rw [ed, Option.bind_some, ex, step _ (by omega)]
      exact ih k (i + 1) _ (by omega) (by omega) (by omega) (by omega)
     ·rw [if_neg h102]
      have ed : hexD c = none := by unfold hexD; rw [if_neg (by omega), if_neg (by omega)]
      rw [ed, Option.bind_none]
    ·rw [if_neg h97]
     have ed : hexD c = none := by unfold hexD; rw [if_neg (by omega), if_neg (by omega)]
     rw [ed, Option.bind_none]
  ·rw [if_neg h48]
   simp only [sum_Parse.j1]
   rw [if_neg (by decide), if_neg (by omega)]
   have ed : hexD c = none := by unfold hexD; rw [if_neg (by omega), if_neg (by omega)]
   rw [ed, Option.bind_none]
theorem sum_parse_eq (l : List UInt8) (hl : l.length = 16) : sum_Parse.f 60 (bs l) = some (hexR l) := by
 unfold sum_Parse.f
 rw [if_pos (by rw [bs_size]; omega), bs_size, hl]
 exact sum_parse_loop l hl 16 60 0 0 (by omega) (by omega) (by omega) (by omega)

theorem oneT_of {c : UInt8} {r : List UInt8} {t : Tk} (h : oneL c r = some t) : oneT c r = t := by rw [oneT, h]; rfl
theorem one_name (c : UInt8) (r : List UInt8) (h : smallB c = true) (hn : headN nameB (c :: r) ≤ 16) : oneT c r = (1, bs ((c :: r).take (headN nameB (c :: r))), 0, 0, 0, (headN nameB (c :: r) : Int)) := by
 apply oneT_of; unfold oneL; rw [if_pos h, if_pos hn]
/-- The number that digits spell. -/
def dg (l : List UInt8) : Nat := l.foldl (fun a c => a * 10 + (c.toNat - 48)) 0
theorem dg_snoc (l : List UInt8) (c : UInt8) : dg (l ++ [c]) = dg l * 10 + (c.toNat - 48) := by simp [dg]
theorem dg_lt : ∀ (n : Nat) (l : List UInt8), l.length ≤ n → (∀ c ∈ l, digitB c = true) → dg l < 10 ^ n
 | n, [], _, _ => by simp [dg]; exact Nat.pow_pos (by decide)
 | 0, c :: l, h, _ => by simp at h
 | n + 1, c :: l, h, hd => by
  rcases List.eq_nil_or_concat (c :: l) with e | ⟨m, x, e⟩
  ·simp at e
  ·rw [List.concat_eq_append] at e
   rw [e, dg_snoc]
   rw [e] at h hd
   have := dg_lt n m (by simp at h; omega) (fun y hy => hd y (by simp [hy]))
   have hx := hd x (by simp)
   simp only [digitB, Bool.and_eq_true, decide_eq_true_eq] at hx
   rw [Nat.pow_succ]
   omega
theorem one_num (c : UInt8) (r : List UInt8) (h : smallB c = false) (h2 : digitB c = true) (hn : headN digitB (c :: r) = 1 ∨ (headN digitB (c :: r) ≤ 9 ∧ c ≠ 48)) : oneT c r = (2, ⟨#[]⟩, (dg ((c :: r).take (headN digitB (c :: r))) : Int), 0, 0, (headN digitB (c :: r) : Int)) := by
 apply oneT_of; unfold oneL; rw [if_neg (by rw [h]; decide), if_pos h2, if_pos hn, atoi_digits c r h2]; rfl
theorem one_hash_yes (r : List UInt8) (v : Int) (hl : 16 < r.length + 1) (h : hexR (r.take 16) = (v, 0)) : oneT 35 r = (4, ⟨#[]⟩, 0, v, 0, 17) := by
 apply oneT_of; unfold oneL
 rw [if_neg (by decide), if_neg (by decide), if_neg (by decide), if_pos ⟨rfl, hl⟩, sum_parse_eq _ (by simp; omega), h]; rfl
end
section
open Go.RowKit Go.Proofs.YtfgfoofojofnmaaDoorW.PrintWords Go.Proofs.YtfgfoofojofnmaaDoorW.PrintLast Go.Proofs.YtfgfoofojofnmaaDoorW.PrintMore
set_option linter.unusedVariables false
set_option linter.unusedSimpArgs false
open Go.Proofs.YtfgfoofojofnmaaDoor.Hand
/-! ### digits -/
theorem dig_ofNat (d : Nat) (h : d < 10) : (UInt8.ofNat (48 + d)).toNat = 48 + d := by simp; omega
theorem dig_isDigit (d : Nat) (h : d < 10) : digitB (UInt8.ofNat (48 + d)) = true := by
 unfold digitB; rw [dig_ofNat d h]; simp; omega
theorem dec_all (u : Nat) : (∀ c ∈ Lib.decDigits u, digitB c = true) ∧ dg (Lib.decDigits u) = u ∧ (∃ c r, Lib.decDigits u = c :: r ∧ (1 ≤ u → c ≠ 48)) := by
 induction u using Nat.strongRecOn with
 | _ u ih =>
  by_cases h : u < 10
  ·rw [Lib.decDigits_one h]
   refine ⟨fun c hc => ?_, ?_, _, [], rfl, fun h1 e => ?_⟩
   ·rw [List.mem_singleton] at hc; rw [hc]; exact dig_isDigit u h
   ·show 0 * 10 + ((UInt8.ofNat (48 + u)).toNat - 48) = u
    rw [dig_ofNat u h]; omega
   ·have := congrArg UInt8.toNat e
    rw [dig_ofNat u h] at this
    have : 48 + u = 48 := this
    omega
  ·obtain ⟨h1, h2, c, r, h3, h4⟩ := ih (u / 10) (by omega)
   rw [Lib.decDigits, dif_neg h]
   refine ⟨fun x hx => ?_, ?_, c, r ++ [UInt8.ofNat (48 + u % 10)], by rw [h3]; rfl, fun _ => h4 (by omega)⟩
   ·rcases List.mem_append.1 hx with hx | hx
    ·exact h1 x hx
    ·rw [List.mem_singleton] at hx; rw [hx]; exact dig_isDigit _ (by omega)
   ·rw [dg_snoc, h2, dig_ofNat _ (by omega)]; omega
theorem nDigits_le : ∀ (k u : Nat), 1 ≤ k → u < 10 ^ k → Lib.nDigits u ≤ k
 | 0, _, h, _ => absurd h (by omega)
 | 1, u, _, h => by rw [Lib.nDigits_small (by simpa using h)]; exact Nat.le_refl _
 | k + 2, u, _, h => by
  by_cases hu : u < 10
  ·rw [Lib.nDigits_small hu]; omega
  ·rw [Lib.nDigits_big hu]
   have := nDigits_le (k + 1) (u / 10) (by omega) (by rw [Nat.pow_succ] at h; omega)
   omega
theorem headN_full (p : UInt8 → Bool) : ∀ l : List UInt8, (∀ c ∈ l, p c = true) → headN p l = l.length
 | [], _ => rfl
 | c :: l, h => by
  have h1 : headN p (c :: l) = headN p l + 1 := by simp [headN, h c (by simp)]
  rw [h1, headN_full p l (fun x hx => h x (by simp [hx]))]; rfl
/-! ### sixteen digits -/
theorem hexF_app (l : List UInt8) (c : UInt8) : ∀ v, hexF (l ++ [c]) v = (hexF l v).bind fun u => (hexD c.toNat).bind fun d => some ((u * 16 + d) % 18446744073709551616) := by
 induction l with
 | nil =>
  intro v
  simp only [List.nil_append, hexF, Option.bind_some]
 | cons b l ih =>
  intro v
  simp only [List.cons_append, hexF]
  cases hexD b.toNat with
  | none => rfl
  | some d => simp only [Option.bind_some]; exact ih _
theorem hexD_dig (d : Nat) (h : d < 16) : hexD (hexDig d).toNat = some d := by
 unfold hexDig
 by_cases h1 : d < 10
 ·rw [if_pos h1]
  have : (UInt8.ofNat (48 + d)).toNat = 48 + d := by simp; omega
  rw [this]; unfold hexD; rw [if_pos ⟨by omega, by omega⟩]; congr 1; omega
 ·rw [if_neg h1]
  have : (UInt8.ofNat (87 + d)).toNat = 87 + d := by simp; omega
  rw [this]; unfold hexD; rw [if_neg (by omega), if_pos ⟨by omega, by omega⟩]; congr 1; omega
def digs (k v : Nat) : List UInt8 := (List.range k).map fun i => hexDig (v / 16 ^ (k - 1 - i) % 16)
theorem digs_succ (k v : Nat) : digs (k + 1) v = digs k (v / 16) ++ [hexDig (v % 16)] := by
 unfold digs
 rw [List.range_succ, List.map_append]
 congr 1
 ·refine List.map_congr_left fun i hi => ?_
  have hi := List.mem_range.1 hi
  rw [show k + 1 - 1 - i = k - 1 - i + 1 by omega, Nat.pow_succ, Nat.mul_comm, ← Nat.div_div_eq_div_mul]
 ·simp
theorem hex_back : ∀ (k v : Nat), k ≤ 16 → hexF (digs k v) 0 = some (v % 16 ^ k)
 | 0, v, _ => by simp [digs, hexF, Nat.mod_one]
 | k + 1, v, h => by
  rw [digs_succ, hexF_app, hex_back k (v / 16) (by omega), Option.bind_some, hexD_dig _ (by omega), Option.bind_some]
  congr 1
  have h1 : 16 ^ (k + 1) ≤ 16 ^ 16 := Nat.pow_le_pow_right (by decide) h
  have h2 : (16 : Nat) ^ 16 = 18446744073709551616 := by decide
  have h3 : v % 16 ^ (k + 1) = 16 * (v / 16 % 16 ^ k) + v % 16 := by
   rw [Nat.pow_succ, Nat.mul_comm (16 ^ k) 16, Nat.mod_mul]; omega
  have h4 : v % 16 ^ (k + 1) < 16 ^ (k + 1) := Nat.mod_lt _ (Nat.pow_pos (by decide))
  rw [h3] at h4 ⊢
  rw [Nat.mod_eq_of_lt (by omega)]
  omega
theorem hash_list (id : Int) : (hashT id).data.toList = 35 :: digs 16 id.toNat := by
 unfold hashT digs; simp
theorem digs_len (k v : Nat) : (digs k v).length = k := by simp [digs]
theorem hexF_lt (l : List UInt8) : ∀ (v u : Nat), v < 18446744073709551616 → hexF l v = some u → u < 18446744073709551616 := by
 induction l with
 | nil => intro v u hv h; simp only [hexF, Option.some.injEq] at h; omega
 | cons c l ih =>
  intro v u hv h
  simp only [hexF] at h
  cases hd : hexD c.toNat with
  | none => rw [hd] at h; simp at h
  | some d => rw [hd, Option.bind_some] at h; exact ih _ _ (by omega) h
/-! ### one token's own text -/
/-- A token as text. -/
def wtok (t : S39) : ByteArray := if t.f0 = 2 then itoaT t.f2 else if t.f0 = 3 then ((⟨#[39]⟩ : ByteArray) ++ t.f1) ++ (⟨#[39]⟩ : ByteArray) else if t.f0 = 4 then hashT t.f3 else t.f1
theorem one_tok {c : UInt8} {r : List UInt8} {k : Int} {b : ByteArray} {v a : Int} (h : oneT c r = (k, b, v, a, 0, (r.length : Int) + 1)) (hb : ¬ (c = 32 ∨ c = 9)) : scanT (c :: r) 0 [] = ([⟨k, b, v, a, 0⟩], 0, 0) := by
 have hn : nOf (oneT c r) = r.length + 1 := by rw [h]; unfold nOf; show ((r.length : Int) + 1).toNat = _; omega
 rw [scanT_tok hb (by omega), hn, h, List.drop_of_length_le (by simp), scanT_nil]
 rfl
/-- The text is cut into these tokens, but for their places. -/
def Sc (l : List UInt8) (T : List S39) : Prop := ∃ A, scanT l 0 [] = (A, 0, 0) ∧ A.map eT = T
theorem sc_one {c : UInt8} {r : List UInt8} {k : Int} {b : ByteArray} {v a : Int} (h : oneT c r = (k, b, v, a, 0, (r.length : Int) + 1)) (hb : ¬ (c = 32 ∨ c = 9)) : Sc (c :: r) [⟨k, b, v, a, 0⟩] := ⟨_, one_tok h hb, rfl⟩
theorem ba_of {s : ByteArray} {l : List UInt8} (h : s.data.toList = l) : s = bs l := by rw [← h, bs_of]
theorem small_not {c : UInt8} (h : smallB c = true) : ¬ (c = 32 ∨ c = 9) := by
 rintro (rfl | rfl) <;> exact absurd h (by decide)
theorem digit_not {c : UInt8} (h : digitB c = true) : ¬ (c = 32 ∨ c = 9) ∧ smallB c = false := by
 refine ⟨by rintro (rfl | rfl) <;> exact absurd h (by decide), ?_⟩
 simp only [digitB, smallB, Bool.and_eq_true, decide_eq_true_eq, Bool.and_eq_false_iff, decide_eq_false_iff_not] at h ⊢
 omega
theorem sc_name {s : ByteArray} (h : NameOk s) : Sc s.data.toList [⟨1, s, 0, 0, 0⟩] := by
 obtain ⟨c, r, h1, h2, h3, h4⟩ := h
 have hf : headN nameB (c :: r) = r.length + 1 := headN_full nameB (c :: r) (fun x hx => by
  rcases List.mem_cons.1 hx with rfl | hx
  ·simp [nameB, h2]
  ·exact h3 x hx)
 rw [h1, ba_of h1]
 refine sc_one ?_ (small_not h2)
 rw [one_name c r h2 (by omega), hf, List.take_of_length_le (by simp)]
 simp
theorem sc_num {n : Int} (h0 : 0 ≤ n) (h9 : n < 1000000000) : Sc (itoaT n).data.toList [⟨2, ⟨#[]⟩, n, 0, 0⟩] := by
 obtain ⟨h1, h2, c, r, h3, h4⟩ := dec_all n.toNat
 have hl : (Lib.decDigits n.toNat).length ≤ 9 := by rw [Lib.decDigits_length]; exact nDigits_le 9 _ (by decide) (by rw [show (10 : Nat) ^ 9 = 1000000000 from by decide]; omega)
 have e : (itoaT n).data.toList = Lib.decDigits n.toNat := by simp [itoaT]
 have hf : headN digitB (c :: r) = r.length + 1 := headN_full digitB (c :: r) (by rw [← h3]; exact h1)
 have hc : digitB c = true := h1 c (by rw [h3]; simp)
 have hone : r.length + 1 = 1 ∨ (r.length + 1 ≤ 9 ∧ c ≠ 48) := by
  by_cases hn : 1 ≤ n.toNat
  ·right; rw [h3] at hl; exact ⟨by simpa using hl, h4 hn⟩
  ·left
   have : n.toNat = 0 := by omega
   rw [this, Lib.decDigits_one (by decide)] at h3
   injection h3 with _ e2
   rw [← e2]; rfl
 rw [e, h3]
 refine sc_one ?_ (digit_not hc).1
 rw [one_num c r (digit_not hc).2 hc (by rw [hf]; exact hone), hf, List.take_of_length_le (by simp), ← h3, h2]
 have : ((n.toNat : Nat) : Int) = n := Int.toNat_of_nonneg h0
 rw [this]
 simp
theorem quote_tok (r : List UInt8) (h39 : (39 : UInt8) ∉ r) (h10 : (10 : UInt8) ∉ r) : oneT 39 (r ++ [39]) = (3, bs r, 0, 0, 0, ((r ++ [39]).length : Int) + 1) := by
 have hi : Lib.indexByte (r ++ [39]) 39 = (r.length : Int) := idx_at 39 (r ++ [39]) r.length (by simp) (fun c hc e => by
  rw [List.take_left] at hc; exact h39 (e ▸ hc)) (by simp)
 have hn : Lib.indexByte r 10 = -1 := idx_none 10 r (fun c hc e => h10 (e ▸ hc))
 apply oneT_of; unfold oneL
 rw [if_neg (by decide), if_neg (by decide), if_pos rfl, hi, if_pos (by omega), Int.toNat_natCast, List.take_left, hn, if_neg (by decide)]
 simp
 omega
theorem sc_text {s : ByteArray} (h : TextOk s) : Sc (((⟨#[39]⟩ : ByteArray) ++ s) ++ (⟨#[39]⟩ : ByteArray)).data.toList [⟨3, s, 0, 0, 0⟩] := by
 have e : (((⟨#[39]⟩ : ByteArray) ++ s) ++ (⟨#[39]⟩ : ByteArray)).data.toList = 39 :: (s.data.toList ++ [39]) := by simp
 have q := quote_tok s.data.toList h.1 h.2.1
 rw [bs_of] at q
 rw [e]
 exact sc_one q (by decide)
theorem sc_hash {id : Int} (h0 : 0 ≤ id) (h1 : id < 18446744073709551616) : Sc (hashT id).data.toList [⟨4, ⟨#[]⟩, 0, id, 0⟩] := by
 rw [hash_list]
 have hl := digs_len 16 id.toNat
 have h16 : (16 : Nat) ^ 16 = 18446744073709551616 := by decide
 have hr : hexR ((digs 16 id.toNat).take 16) = (id, 0) := by
  rw [List.take_of_length_le (by omega)]
  unfold hexR
  rw [hex_back 16 _ (Nat.le_refl _), h16, Nat.mod_eq_of_lt (by omega)]
  show (((id.toNat : Nat) : Int), (0 : Int)) = _
  rw [Int.toNat_of_nonneg h0]
 refine sc_one ?_ (by decide)
 rw [one_hash_yes _ id (by omega) hr, hl]
 rfl
theorem sign_list {c : UInt8} (h : signB c = true) : c = 40 ∨ c = 41 ∨ c = 44 ∨ c = 124 ∨ c = 38 ∨ c = 45 ∨ c = 33 ∨ c = 94 := by
 by_cases hm : c ∈ ([40, 41, 44, 124, 38, 45, 33, 94] : List UInt8)
 ·simpa using hm
 ·have := idx_none c [40, 41, 44, 124, 38, 45, 33, 94] (fun x hx e => hm (e ▸ hx))
  unfold signB at h
  rw [this] at h
  exact absurd h (by decide)
theorem one_sg {c : UInt8} (h : signB c = true) (r : List UInt8) : oneT c r = (5, bs [c], 0, 0, 0, 1) ∧ ¬ (c = 32 ∨ c = 9) := by
 rcases sign_list h with rfl | rfl | rfl | rfl | rfl | rfl | rfl | rfl
 all_goals exact ⟨oneT_sign _ _ (by decide) (by decide) (by decide) (by decide) (by decide) (by decide) (by decide), by decide⟩
theorem sc_sign {c : UInt8} (h : signB c = true) : Sc [c] [⟨5, bs [c], 0, 0, 0⟩] := sc_one (one_sg h []).1 (one_sg h []).2
/-! ### how scans go together -/
theorem eT_map (g : Int → Int) (A : List S39) : (A.map (tkG g)).map eT = A.map eT := by
 rw [List.map_map]; rfl
theorem sc_at {l : List UInt8} {T : List S39} (h : Sc l T) (i : Nat) (out : List S39) : ∃ A, scanT l i out = (out ++ A, 0, 0) ∧ A.map eT = T := by
 obtain ⟨A, h1, h2⟩ := h
 have h3 := scanT_mv i out l.length l 0 [] (Nat.le_refl _) (by rw [h1])
 simp only [Nat.zero_add, List.map_nil, List.append_nil] at h3
 rw [h1, shT_tk] at h3
 exact ⟨_, h3, by rw [eT_map, h2]⟩
theorem sc_app {la m : List UInt8} {A B : List S39} {d : UInt8} (h : Sc la A) (hd : nameB d = false) (h2 : Sc (d :: m) B) : Sc (la ++ d :: m) (A ++ B) := by
 obtain ⟨A1, h1, e1⟩ := h
 have h3 := scan_part h1 hd m 0 []
 obtain ⟨B1, h4, e4⟩ := sc_at h2 (0 + la.length) ([] ++ A1.map (tkG (fun x => x + ((0 : Nat) : Int))))
 rw [h4] at h3
 exact ⟨_, h3, by rw [List.nil_append, List.map_append, eT_map, e1, e4]⟩
theorem sc_pre {c : UInt8} (hc : signB c = true) {l : List UInt8} {B : List S39} (h : Sc l B) : Sc (c :: l) (⟨5, bs [c], 0, 0, 0⟩ :: B) := by
 obtain ⟨B1, h4, e4⟩ := sc_at h (0 + 1) ([] ++ [sT [c] 0])
 refine ⟨_, (scan_sign c l 0 [] (one_sg hc l).2 (one_sg hc l).1).trans h4, ?_⟩
 rw [List.nil_append, List.map_append, e4]; rfl
theorem sc_pre2 {c : UInt8} (hc : c = 46 ∨ c = 58) {l : List UInt8} {B : List S39} (h : Sc l B) : Sc (c :: c :: l) (⟨5, bs [c, c], 0, 0, 0⟩ :: B) := by
 obtain ⟨B1, h4, e4⟩ := sc_at h (0 + 2) ([] ++ [sT [c, c] 0])
 refine ⟨_, (scan_dots c l 0 [] hc).trans h4, ?_⟩
 rw [List.nil_append, List.map_append, e4]; rfl
theorem sc_blank {l : List UInt8} {B : List S39} (h : Sc l B) : Sc (32 :: l) B := by
 obtain ⟨B1, h4, e4⟩ := sc_at h (0 + 1) []
 exact ⟨_, (scanT_blank (.inl rfl) l 0 []).trans h4, by rw [List.nil_append, e4]⟩
/-! ### what tokens a scan finds -/
theorem tok_ok (c : UInt8) (r : List UInt8) (i : Nat) (hr : r.length ≤ 1024) (hn : nOf (oneT c r) ≠ 0) : TokOk (tokOf (oneT c r) i) := by
 have hz : ∀ {P : Prop}, oneT c r = zeroT → P := fun e => absurd (by rw [e]; rfl) hn
 have he := oneT_eq c r
 unfold oneL at he
 by_cases h1 : smallB c = true
 ·rw [if_pos h1] at he
  by_cases h2 : headN nameB (c :: r) ≤ 16
  ·rw [if_pos h2] at he
   rw [← Option.some.inj he]
   left
   refine ⟨rfl, ?_, rfl, rfl⟩
   have hp := head_pos nameB c r (by simp [nameB, h1])
   have ha := head_all nameB (c :: r)
   obtain ⟨k, hk⟩ : ∃ k, headN nameB (c :: r) = k + 1 := ⟨headN nameB (c :: r) - 1, by omega⟩
   refine ⟨c, r.take k, ?_, h1, fun x hx => ha x ?_, by rw [List.length_take]; omega⟩
   ·show (bs _).data.toList = _
    rw [bs_list, hk, List.take_succ_cons]
   ·rw [hk, List.take_succ_cons]; exact List.mem_cons_of_mem _ hx
  ·rw [if_neg h2] at he; exact hz (Option.some.inj he).symm
 ·rw [if_neg h1] at he
  by_cases h2 : digitB c = true
  ·rw [if_pos h2] at he
   by_cases h3 : headN digitB (c :: r) = 1 ∨ (headN digitB (c :: r) ≤ 9 ∧ c ≠ 48)
   ·rw [one_num c r (by simpa using h1) h2 h3]
    right; left
    have hd := dg_lt 9 ((c :: r).take (headN digitB (c :: r))) (by rw [List.length_take]; omega) (head_all digitB (c :: r))
    have h9 : (10 : Nat) ^ 9 = 1000000000 := by decide
    rw [h9] at hd
    exact ⟨rfl, rfl, Int.natCast_nonneg _, by show ((dg ((c :: r).take (headN digitB (c :: r))) : Nat) : Int) < _; omega, rfl⟩
   ·rw [if_neg h3] at he; exact hz (Option.some.inj he).symm
  ·rw [if_neg h2] at he
   by_cases h3 : c = 39
   ·rw [if_pos h3] at he
    by_cases h4 : 0 ≤ Lib.indexByte r 39
    ·rw [if_pos h4] at he
     by_cases h5 : 0 ≤ Lib.indexByte (r.take (Lib.indexByte r 39).toNat) 10
     ·rw [if_pos h5] at he; exact hz (Option.some.inj he).symm
     ·rw [if_neg h5] at he
      rw [← Option.some.inj he]
      right; right; left
      refine ⟨rfl, ⟨fun hm => ?_, fun hm => ?_, ?_⟩, rfl, rfl⟩
      ·have hm : (39 : UInt8) ∈ r.take (Lib.indexByte r 39).toNat := by simpa [tokOf, bs_list] using hm
       obtain ⟨k, hk, e⟩ := List.mem_take_iff_getElem.1 hm
       have hs := (Lib.indexByte_some (l := r) (c := 39) (o := (Lib.indexByte r 39).toNat) (by omega)).2 k (by omega)
       exact hs (by rw [List.getElem?_eq_getElem (by omega), e])
      ·have hm : (10 : UInt8) ∈ r.take (Lib.indexByte r 39).toNat := by simpa [tokOf, bs_list] using hm
       exact h5 (idx_mem 10 _ hm)
      ·show (bs _).size ≤ 1024
       rw [bs_size, List.length_take]; omega
    ·rw [if_neg h4] at he; exact hz (Option.some.inj he).symm
   ·rw [if_neg h3] at he
    by_cases h4 : c = 35 ∧ 16 < r.length + 1
    ·rw [if_pos h4, sum_parse_eq _ (by rw [List.length_take]; omega), Option.bind_some] at he
     unfold hexR at he
     cases hx : hexF (r.take 16) 0 with
     | none => rw [hx] at he; exact hz (Option.some.inj he).symm
     | some v =>
      rw [hx] at he
      have hlt := hexF_lt _ 0 v (by decide) hx
      rw [← Option.some.inj he]
      right; right; right; left
      exact ⟨rfl, rfl, rfl, Int.natCast_nonneg _, by show ((v : Nat) : Int) < _; omega⟩
    ·rw [if_neg h4] at he
     by_cases h5 : (c :: r).take 2 = [46, 46] ∨ (c :: r).take 2 = [58, 58]
     ·rw [if_pos h5] at he
      rw [← Option.some.inj he]
      right; right; right; right
      refine ⟨rfl, rfl, rfl, .inr ?_⟩
      rcases h5 with h5 | h5
      ·left; show (bs _).data.toList = _; rw [bs_list, h5]
      ·right; show (bs _).data.toList = _; rw [bs_list, h5]
     ·rw [if_neg h5] at he
      by_cases h6 : signB c = true
      ·rw [if_pos h6] at he
       rw [← Option.some.inj he]
       right; right; right; right
       exact ⟨rfl, rfl, rfl, .inl ⟨c, bs_list [c], h6⟩⟩
      ·rw [if_neg h6] at he; exact hz (Option.some.inj he).symm
theorem scan_ok (n : Nat) : ∀ (l : List UInt8) (i : Nat) (out : List S39), l.length ≤ n → l.length ≤ 1024 → (∀ t ∈ out, TokOk t) → ∀ t ∈ (scanT l i out).1, TokOk t := by
 induction n with
 | zero =>
  intro l i out hl _ ho
  have : l = [] := List.length_eq_zero_iff.mp (by omega)
  subst this
  rw [scanT_nil]; exact ho
 | succ n ih =>
  intro l i out hl hm ho
  cases l with
  | nil => rw [scanT_nil]; exact ho
  | cons c r =>
   simp only [List.length_cons] at hl hm
   by_cases hb : c = 32 ∨ c = 9
   ·rw [scanT_blank hb]; exact ih r _ _ (by omega) (by omega) ho
   ·by_cases h0 : nOf (oneT c r) = 0
    ·rw [scanT_bad hb h0]; intro t ht; exact absurd ht (by simp)
    ·rw [scanT_tok hb h0]
     refine ih _ _ _ (by simp only [List.length_drop, List.length_cons]; omega) (by simp only [List.length_drop, List.length_cons]; omega) (fun t ht => ?_)
     rcases List.mem_append.1 ht with ht | ht
     ·exact ho t ht
     ·rw [List.mem_singleton] at ht; rw [ht]; exact tok_ok c r i (by omega) h0
theorem scanS_ok (a : ByteArray) : ∀ t ∈ (scanS a).1, TokOk t := by
 unfold scanS
 by_cases h : a.size ≤ 1024
 ·rw [if_pos h]
  have e : a.data.toList.length = a.size := by simp
  exact scan_ok a.data.toList.length _ 0 [] (Nat.le_refl _) (by omega) (fun t ht => absurd ht (by simp))
 ·rw [if_neg h]; intro t ht; exact absurd ht (by simp)
/-- What the parser answers without an error is such a tree. -/
theorem parse_wf (a : ByteArray) (h : (parseT a).2.2 = 0) : Wf (parseT a).1 := by
 have h1 := (wf_all (a.size : Int) (6 * (scanS a).1.length + 6)).1 ⟨(scanS a).1, false, 0⟩ (Nat.le_refl _) (scanS_ok a)
 have hr : readS a = exprF (a.size : Int) (6 * (scanS a).1.length + 6) ⟨(scanS a).1, false, 0⟩ := rfl
 rw [← hr] at h1
 unfold parseT at h ⊢
 by_cases hc : (scanS a).2.2 = 0
 ·rw [if_pos hc] at h ⊢
  by_cases hb : (endS (a.size : Int) (readS a).2).bad = true
  ·rw [if_pos hb] at h; exact absurd (show (31 : Int) = 0 from h) (by decide)
  ·rw [if_neg hb] at h ⊢
   by_cases hd : 24 < depthT (readS a).1
   ·rw [if_pos hd] at h; exact absurd (show (32 : Int) = 0 from h) (by decide)
   ·rw [if_neg hd]
    refine h1.2 ?_
    unfold endS at hb
    by_cases hz : (readS a).2.ts.length = 0
    ·rw [if_pos hz] at hb; simpa using hb
    ·rw [if_neg hz, failS_bad] at hb; exact absurd rfl hb
 ·rw [if_neg hc] at h; exact absurd h hc
theorem join_two (x y : List UInt8) (r : List (List UInt8)) (sep : List UInt8) : Lib.join (x :: y :: r) sep = x ++ (sep ++ Lib.join (y :: r) sep) := by
 simp [Lib.join_cons, Lib.joinTail]
end
section
open Go.RowKit Go.Proofs.YtfgfoofojofnmaaDoorW.PrintWords Go.Proofs.YtfgfoofojofnmaaDoorW.PrintLast Go.Proofs.YtfgfoofojofnmaaDoorW.PrintMore
set_option linter.unusedVariables false
set_option linter.unusedSimpArgs false
open Go.Proofs.YtfgfoofojofnmaaDoor.Hand
/-- A sign's token at any place. -/
def sg (l : List UInt8) (p : Int) : S39 := ⟨5, bs l, 0, 0, p⟩
theorem sg_hit {s : ByteArray} {l : List UInt8} (h : l = s.toList) (p : Int) (r : List S39) (b : Bool) (q : Int) : signAt s ⟨sg l p :: r, b, q⟩ = some (p, ⟨r, b, q⟩) := by
 simp only [signAt]
 exact if_pos (show ((5 : Int) == 5 && (bs l).toList == s.toList) = true by rw [bs_toList, h]; simp)
def NoS (s : ByteArray) (R : List S39) : Prop := ∀ b q, signAt s ⟨R, b, q⟩ = none
theorem sg_miss {s : ByteArray} {l : List UInt8} (h : l ≠ s.toList) (p : Int) (r : List S39) : NoS s (sg l p :: r) := by
 intro b q
 simp only [signAt]
 exact if_neg (show ¬ ((5 : Int) == 5 && (bs l).toList == s.toList) = true by rw [bs_toList]; simp [h])
theorem tok_miss {t : S39} (h : t.f0 ≠ 5) (s : ByteArray) (r : List S39) : NoS s (t :: r) := by
 intro b q
 simp only [signAt]
 exact if_neg (by simp [h])
theorem nos_nil (s : ByteArray) : NoS s [] := fun _ _ => rfl
theorem l1 (c : UInt8) : (str1 c).toList = [c] := str1_list c
theorem l2 (c d : UInt8) : (str2 c d).toList = [c, d] := str2_list c d
def NoNum (R : List S39) : Prop := ∀ t r, R = t :: r → t.f0 ≠ 2
/-- Where an operand that holds together by w may end. -/
structure OkR (w : Nat) (R : List S39) : Prop where
 br : NoS (str1 40) R
 num : w ≤ 5 → NoNum R
 up : w ≤ 4 → NoS (str1 94) R
 dots : w ≤ 3 → NoS (str2 46 46) R ∧ NoS (str2 58 58) R
 amp : w ≤ 1 → NoS (str1 38) R
theorem OkR.mono {w v : Nat} {R : List S39} (h : OkR w R) (hv : w ≤ v) : OkR v R := ⟨h.br, fun e => h.num (by omega), fun e => h.up (by omega), fun e => h.dots (by omega), fun e => h.amp (by omega)⟩
theorem okR_nil (w : Nat) : OkR w [] := ⟨nos_nil _, fun _ t r e => absurd e (by simp), fun _ => nos_nil _, fun _ => ⟨nos_nil _, nos_nil _⟩, fun _ => nos_nil _⟩
theorem okR_sg {w : Nat} {l : List UInt8} (p : Int) (R : List S39) (h0 : l ≠ [40]) (h1 : w ≤ 4 → l ≠ [94]) (h2 : w ≤ 3 → l ≠ [46, 46] ∧ l ≠ [58, 58]) (h3 : w ≤ 1 → l ≠ [38]) : OkR w (sg l p :: R) :=
 ⟨sg_miss (by rw [l1]; exact h0) p R, fun _ t r e => by injection e with e1 e2; rw [← e1]; show (5 : Int) ≠ 2; decide, fun e => sg_miss (by rw [l1]; exact h1 e) p R, fun e => ⟨sg_miss (by rw [l2]; exact (h2 e).1) p R, sg_miss (by rw [l2]; exact (h2 e).2) p R⟩, fun e => sg_miss (by rw [l1]; exact h3 e) p R⟩
/-- What the tokens A come to, read as an operand that holds together by w, whatever follows. -/
def Rd : Nat → List S39 → S44 → Prop
 | 6, A, x => (∀ R, NoS (str1 33) (A ++ R)) ∧ ∀ ev q R k, OkR 6 R → 6 * (A ++ R).length + 2 ≤ k → atomF ev k ⟨A ++ R, false, q⟩ = (x, ⟨R, false, q⟩)
 | 5, A, x => ∀ ev q R k, OkR 5 R → 6 * (A ++ R).length + 3 ≤ k → unaryF ev k ⟨A ++ R, false, q⟩ = upL ev R.length x ⟨R, false, q⟩
 | 4, A, x => ∀ ev q R k, OkR 4 R → 6 * (A ++ R).length + 3 ≤ k → unaryF ev k ⟨A ++ R, false, q⟩ = (x, ⟨R, false, q⟩)
 | 3, A, x => ∀ ev q R k, OkR 3 R → 6 * (A ++ R).length + 4 ≤ k → rangedF ev k ⟨A ++ R, false, q⟩ = (x, ⟨R, false, q⟩)
 | 2, A, x => ∀ ev q R k, OkR 2 R → 6 * (A ++ R).length + 5 ≤ k → interF ev k ⟨A ++ R, false, q⟩ = interL ev (6 * R.length) x ⟨R, false, q⟩
 | 1, A, x => ∀ ev q R k, OkR 1 R → 6 * (A ++ R).length + 6 ≤ k → exprF ev k ⟨A ++ R, false, q⟩ = exprL ev (6 * R.length) x ⟨R, false, q⟩
 | _, _, _ => False
theorem steady {α : Type} (f : Nat → α) (m : Nat) (h : ∀ n, m ≤ n → f (n + 1) = f n) : ∀ d, f (m + d) = f m
 | 0 => rfl
 | d + 1 => by rw [← Nat.add_assoc, h _ (by omega), steady f m h d]
theorem steady' {α : Type} (f : Nat → α) (m : Nat) (h : ∀ n, m ≤ n → f (n + 1) = f n) (k : Nat) (hk : m ≤ k) : f k = f m := by
 have := steady f m h (k - m)
 rwa [Nat.add_sub_cancel' hk] at this
theorem exprL_st (ev : Int) (a : S44) (R : List S39) (q : Int) (k : Nat) (h : 6 * R.length ≤ k) : exprL ev k a ⟨R, false, q⟩ = exprL ev (6 * R.length) a ⟨R, false, q⟩ :=
 steady' (fun k => exprL ev k a ⟨R, false, q⟩) _ (fun n hn => (fuel_all ev n).2.1 a ⟨R, false, q⟩ hn) k h
theorem interL_st (ev : Int) (a : S44) (R : List S39) (q : Int) (k : Nat) (h : 6 * R.length ≤ k) : interL ev k a ⟨R, false, q⟩ = interL ev (6 * R.length) a ⟨R, false, q⟩ :=
 steady' (fun k => interL ev k a ⟨R, false, q⟩) _ (fun n hn => (fuel_all ev n).2.2.2.1 a ⟨R, false, q⟩ (by show 6 * R.length ≤ n + 1; omega)) k h
theorem upL_st (ev : Int) (a : S44) (R : List S39) (q : Int) (k : Nat) (h : R.length ≤ k) : upL ev k a ⟨R, false, q⟩ = upL ev R.length a ⟨R, false, q⟩ :=
 steady' (fun k => upL ev k a ⟨R, false, q⟩) _ (fun n hn => (fuel_all ev n).2.2.2.2.2.2.1 a ⟨R, false, q⟩ hn) k h
theorem dn65 {A : List S39} {x : S44} (h : Rd 6 A x) : Rd 5 A x := by
 intro ev q R k hR hk
 obtain ⟨k, rfl⟩ : ∃ k1, k = k1 + 1 := ⟨k - 1, by omega⟩
 have hl : (A ++ R).length = A.length + R.length := List.length_append
 rw [unaryF_atom (h.1 R _ _), h.2 ev q R k (hR.mono (by decide)) (by omega)]
 exact upL_st ev x R q k (by omega)
theorem dn54 {A : List S39} {x : S44} (h : Rd 5 A x) : Rd 4 A x := by
 intro ev q R k hR hk
 rw [h ev q R k (hR.mono (by decide)) hk, upL_none (hR.up (by decide) _ _)]
theorem dn43 {A : List S39} {x : S44} (h : Rd 4 A x) : Rd 3 A x := by
 intro ev q R k hR hk
 obtain ⟨k, rfl⟩ : ∃ k1, k = k1 + 1 := ⟨k - 1, by omega⟩
 have h1 := h ev q R k (hR.mono (by decide)) (by omega)
 have h2 := hR.dots (by decide)
 rw [rangedF_none (by rw [h1]; exact h2.1 _ _) (by rw [h1]; exact h2.2 _ _), h1]
theorem dn32 {A : List S39} {x : S44} (h : Rd 3 A x) : Rd 2 A x := by
 intro ev q R k hR hk
 obtain ⟨k, rfl⟩ : ∃ k1, k = k1 + 1 := ⟨k - 1, by omega⟩
 have hl : (A ++ R).length = A.length + R.length := List.length_append
 have h1 := h ev q R k (hR.mono (by decide)) (by omega)
 show interL ev k (rangedF ev k _).1 (rangedF ev k _).2 = _
 rw [h1]
 exact interL_st ev x R q k (by omega)
theorem dn21 {A : List S39} {x : S44} (h : Rd 2 A x) : Rd 1 A x := by
 intro ev q R k hR hk
 obtain ⟨k, rfl⟩ : ∃ k1, k = k1 + 1 := ⟨k - 1, by omega⟩
 have hl : (A ++ R).length = A.length + R.length := List.length_append
 have h1 := h ev q R k (hR.mono (by decide)) (by omega)
 show exprL ev k (interF ev k _).1 (interF ev k _).2 = _
 rw [h1, interL_none (hR.amp (by decide) _ _)]
 exact exprL_st ev x R q k (by omega)
theorem rd_down {A : List S39} {x : S44} : ∀ (v w : Nat), 1 ≤ w → w ≤ v → v ≤ 6 → Rd v A x → Rd w A x
 | 0, w, h1, h2, _, _ => absurd h1 (by omega)
 | v + 1, w, h1, h2, h3, h => by
  by_cases e : w = v + 1
  ·rw [e]; exact h
  ·refine rd_down v w h1 (by omega) (by omega) ?_
   have : v = 1 ∨ v = 2 ∨ v = 3 ∨ v = 4 ∨ v = 5 := by omega
   rcases this with rfl | rfl | rfl | rfl | rfl
   ·exact dn21 h
   ·exact dn32 h
   ·exact dn43 h
   ·exact dn54 h
   ·exact dn65 h
theorem rd_br {A : List S39} {x : S44} (h : Rd 1 A x) (p0 p1 : Int) : Rd 6 (sg [40] p0 :: (A ++ [sg [41] p1])) x := by
 refine ⟨fun R => sg_miss (by rw [l1]; decide) _ _, fun ev q R k hR hk => ?_⟩
 have e : sg [40] p0 :: (A ++ [sg [41] p1]) ++ R = sg [40] p0 :: (A ++ (sg [41] p1 :: R)) := by simp
 rw [e] at hk ⊢
 obtain ⟨k, rfl⟩ : ∃ k1, k = k1 + 1 := ⟨k - 1, by omega⟩
 rw [List.length_cons] at hk
 have h1 := h ev q (sg [41] p1 :: R) k (okR_sg p1 R (by decide) (fun _ => by decide) (fun _ => ⟨by decide, by decide⟩) (fun _ => by decide)) (by omega)
 rw [exprL_none (sg_miss (by rw [l1]; decide) p1 R _ _) (sg_miss (by rw [l1]; decide) p1 R _ _)] at h1
 rw [atomF_br (sg_hit (by rw [l1]) p0 _ _ _) (by rw [h1]; exact sg_hit (by rw [l1]) p1 _ _ _), h1]
/-- The text l, read as an operand that holds together by w, comes to x, but for the places. -/
def At (w : Nat) (l : List UInt8) (x : S44) : Prop := ∃ T, Sc l T ∧ ∀ A, A.map eT = T → (∀ R, NoS (str1 41) (A ++ R)) ∧ ∃ x', eN x' = eN x ∧ Rd w A x'
theorem at_down {v w : Nat} {l : List UInt8} {x : S44} (h : At v l x) (h1 : 1 ≤ w) (h2 : w ≤ v) (h3 : v ≤ 6) : At w l x := by
 obtain ⟨T, hT, h⟩ := h
 refine ⟨T, hT, fun A hA => ?_⟩
 obtain ⟨hc, x', e, hr⟩ := h A hA
 exact ⟨hc, x', e, rd_down v w h1 h2 h3 hr⟩
theorem eT_sg {t : S39} {l : List UInt8} (h : eT t = ⟨5, bs l, 0, 0, 0⟩) : ∃ p, t = sg l p := by
 obtain ⟨a, b, c, d, p⟩ := t
 rw [eT_mk] at h
 injection h with h1 h2 h3 h4 h5
 subst h1; subst h2; subst h3; subst h4
 exact ⟨p, rfl⟩
theorem eT_tok {t : S39} {a : Int} {b : ByteArray} {c d : Int} (h : eT t = ⟨a, b, c, d, 0⟩) : ∃ p, t = ⟨a, b, c, d, p⟩ := by
 obtain ⟨a', b', c', d', p⟩ := t
 rw [eT_mk] at h
 injection h with h1 h2 h3 h4 h5
 subst h1; subst h2; subst h3; subst h4
 exact ⟨p, rfl⟩
theorem split_two {A : List S39} {Ta Tb : List S39} {l : List UInt8} (h : A.map eT = Ta ++ ⟨5, bs l, 0, 0, 0⟩ :: Tb) : ∃ A1 p A2, A = A1 ++ sg l p :: A2 ∧ A1.map eT = Ta ∧ A2.map eT = Tb := by
 obtain ⟨A1, B, rfl, h1, h2⟩ := List.map_eq_append_iff.1 h
 obtain ⟨t, A2, rfl, h3, h4⟩ := List.map_eq_cons_iff.1 h2
 obtain ⟨p, rfl⟩ := eT_sg h3
 exact ⟨A1, p, A2, rfl, h1, h4⟩
theorem split_pre {A : List S39} {Tb : List S39} {l : List UInt8} (h : A.map eT = ⟨5, bs l, 0, 0, 0⟩ :: Tb) : ∃ p A2, A = sg l p :: A2 ∧ A2.map eT = Tb := by
 obtain ⟨t, A2, rfl, h3, h4⟩ := List.map_eq_cons_iff.1 h
 obtain ⟨p, rfl⟩ := eT_sg h3
 exact ⟨p, A2, rfl, h4⟩
/-- A kid's text, in brackets where it must, as bytes. -/
def kidL (x : S44) (w : Int) : List UInt8 := if levelT x.f0 < w then 40 :: ((showT x).data.toList ++ [41]) else (showT x).data.toList
theorem kid_list (ks : List S44) (i : Nat) (h : i < ks.length) (w : Int) : (kidAt (showM ks) i w).data.toList = kidL ks[i] w := by
 rw [kidAt_in ks i h w]
 unfold kidL
 split
 ·simp
 ·rfl
theorem lev_is (op : Int) : levelT op = 1 ∨ levelT op = 2 ∨ levelT op = 3 ∨ levelT op = 4 ∨ levelT op = 5 ∨ levelT op = 6 := by
 unfold levelT
 repeat (first | (split; · simp) | simp)
def lv (x : S44) : Nat := (levelT x.f0).toNat
theorem lv_is (x : S44) : 1 ≤ lv x ∧ lv x ≤ 6 ∧ ((lv x : Nat) : Int) = levelT x.f0 := by
 unfold lv
 rcases lev_is x.f0 with h | h | h | h | h | h <;> rw [h] <;> decide
theorem at_kid {x : S44} (h : At (lv x) (showT x).data.toList x) (w : Nat) (h1 : 1 ≤ w) (h6 : w ≤ 6) : At w (kidL x w) x := by
 obtain ⟨a1, a2, a3⟩ := lv_is x
 unfold kidL
 by_cases hw : levelT x.f0 < (w : Int)
 ·rw [if_pos hw]
  obtain ⟨T, hT, h⟩ := at_down h (Nat.le_refl 1) a1 a2
  refine at_down (v := 6) ⟨_, sc_pre (by decide) (sc_app hT (by decide) (sc_sign (by decide))), fun A hA => ?_⟩ h1 h6 (Nat.le_refl _)
  obtain ⟨p, A2, rfl, hA2⟩ := split_pre hA
  obtain ⟨A1, p2, A3, rfl, e1, e2⟩ := split_two hA2
  have : A3 = [] := List.map_eq_nil_iff.1 e2
  subst this
  obtain ⟨hc, x', e, hr⟩ := h A1 e1
  exact ⟨fun R => sg_miss (by rw [l1]; decide) _ _, x', e, rd_br hr _ _⟩
 ·rw [if_neg hw]
  exact at_down h h1 (by omega) a2
theorem map_eN {ks ks' : List S44} (h : ks'.map eN = ks.map eN) (a : Int) (b : ByteArray) (c d e e' : Int) : eN ⟨a, b, c, d, ks', e'⟩ = eN ⟨a, b, c, d, ks, e⟩ := by
 rw [eN_mk, eN_mk, mpM_map, mpM_map]
 exact congrArg (fun l => (⟨a, b, c, d, l, 0⟩ : S44)) h
theorem nos_app {s : ByteArray} {A : List S39} (h : ∀ R, NoS s (A ++ R)) (B : List S39) : ∀ R, NoS s (A ++ B ++ R) := fun R => by rw [List.append_assoc]; exact h _
/-! ### each form -/
theorem at_or {op : Int} {c : UInt8} (hop : (op = 6 ∧ c = 124) ∨ (op = 7 ∧ c = 45)) {la lb : List UInt8} {a b : S44} (p : Int) (ha : At 1 la a) (hb : At 2 lb b) : At 1 (la ++ 32 :: c :: 32 :: lb) (nd op [a, b] p) := by
 obtain ⟨Ta, hTa, ha⟩ := ha
 obtain ⟨Tb, hTb, hb⟩ := hb
 have hc : signB c = true := by rcases hop with ⟨_, rfl⟩ | ⟨_, rfl⟩ <;> decide
 refine ⟨_, sc_app hTa (by decide) (sc_blank (sc_pre hc (sc_blank hTb))), fun A hA => ?_⟩
 obtain ⟨A1, p2, A2, rfl, e1, e2⟩ := split_two hA
 obtain ⟨hc1, a', ea, ra⟩ := ha A1 e1
 obtain ⟨_, b', eb, rb⟩ := hb A2 e2
 refine ⟨nos_app hc1 _, nd op [a', b'] p2, by rw [eN_nd2, eN_nd2, ea, eb], fun ev q R k hR hk => ?_⟩
 have e : A1 ++ sg [c] p2 :: A2 ++ R = A1 ++ sg [c] p2 :: (A2 ++ R) := by simp
 rw [e] at hk ⊢
 have ok : OkR 1 (sg [c] p2 :: (A2 ++ R)) := by
  rcases hop with ⟨_, rfl⟩ | ⟨_, rfl⟩ <;> exact okR_sg _ _ (by decide) (fun _ => by decide) (fun _ => ⟨by decide, by decide⟩) (fun _ => by decide)
 rw [ra ev q _ k ok hk]
 have hl : (A2 ++ R).length = A2.length + R.length := List.length_append
 obtain ⟨k1, hk1⟩ : ∃ k1, 6 * (sg [c] p2 :: (A2 ++ R)).length = k1 + 1 := ⟨6 * (A2 ++ R).length + 5, by rw [List.length_cons]; omega⟩
 have hk2 : k1 = 6 * (A2 ++ R).length + 5 := by rw [List.length_cons] at hk1; omega
 have hi := rb ev q R k1 (hR.mono (by decide)) (by omega)
 rw [interL_none (hR.amp (by decide) _ _)] at hi
 rw [hk1]
 rcases hop with ⟨rfl, rfl⟩ | ⟨rfl, rfl⟩
 ·rw [exprL_or (sg_hit (by rw [l1]) p2 _ _ _), hi]
  exact exprL_st ev _ R q k1 (by omega)
 ·rw [exprL_minus (sg_miss (by rw [l1]; decide) p2 _ _ _) (sg_hit (by rw [l1]) p2 _ _ _), hi]
  exact exprL_st ev _ R q k1 (by omega)
theorem at_and {la lb : List UInt8} {a b : S44} (p : Int) (ha : At 2 la a) (hb : At 3 lb b) : At 2 (la ++ 32 :: 38 :: 32 :: lb) (nd 8 [a, b] p) := by
 obtain ⟨Ta, hTa, ha⟩ := ha
 obtain ⟨Tb, hTb, hb⟩ := hb
 refine ⟨_, sc_app hTa (by decide) (sc_blank (sc_pre (by decide) (sc_blank hTb))), fun A hA => ?_⟩
 obtain ⟨A1, p2, A2, rfl, e1, e2⟩ := split_two hA
 obtain ⟨hc1, a', ea, ra⟩ := ha A1 e1
 obtain ⟨_, b', eb, rb⟩ := hb A2 e2
 refine ⟨nos_app hc1 _, nd 8 [a', b'] p2, by rw [eN_nd2, eN_nd2, ea, eb], fun ev q R k hR hk => ?_⟩
 have e : A1 ++ sg [38] p2 :: A2 ++ R = A1 ++ sg [38] p2 :: (A2 ++ R) := by simp
 rw [e] at hk ⊢
 rw [ra ev q _ k (okR_sg _ _ (by decide) (fun _ => by decide) (fun _ => ⟨by decide, by decide⟩) (fun e => absurd e (by decide))) hk]
 have hl : (A2 ++ R).length = A2.length + R.length := List.length_append
 obtain ⟨k1, hk1⟩ : ∃ k1, 6 * (sg [38] p2 :: (A2 ++ R)).length = k1 + 1 := ⟨6 * (A2 ++ R).length + 5, by rw [List.length_cons]; omega⟩
 have hk2 : k1 = 6 * (A2 ++ R).length + 5 := by rw [List.length_cons] at hk1; omega
 rw [hk1, interL_some (sg_hit (by rw [l1]) p2 _ _ _), rb ev q R k1 (hR.mono (by decide)) (by omega)]
 exact interL_st ev _ R q k1 (by omega)
theorem at_dots {op : Int} {c : UInt8} (hop : (op = 9 ∧ c = 46) ∨ (op = 10 ∧ c = 58)) {la lb : List UInt8} {a b : S44} (p : Int) (ha : At 4 la a) (hb : At 4 lb b) : At 3 (la ++ c :: c :: lb) (nd op [a, b] p) := by
 obtain ⟨Ta, hTa, ha⟩ := ha
 obtain ⟨Tb, hTb, hb⟩ := hb
 have hc : c = 46 ∨ c = 58 := by rcases hop with ⟨_, rfl⟩ | ⟨_, rfl⟩ <;> simp
 have hc2 : nameB c = false := by rcases hop with ⟨_, rfl⟩ | ⟨_, rfl⟩ <;> decide
 refine ⟨_, sc_app hTa hc2 (sc_pre2 hc hTb), fun A hA => ?_⟩
 obtain ⟨A1, p2, A2, rfl, e1, e2⟩ := split_two hA
 obtain ⟨hc1, a', ea, ra⟩ := ha A1 e1
 obtain ⟨_, b', eb, rb⟩ := hb A2 e2
 refine ⟨nos_app hc1 _, nd op [a', b'] p2, by rw [eN_nd2, eN_nd2, ea, eb], fun ev q R k hR hk => ?_⟩
 have e : A1 ++ sg [c, c] p2 :: A2 ++ R = A1 ++ sg [c, c] p2 :: (A2 ++ R) := by simp
 rw [e] at hk ⊢
 have ok : OkR 4 (sg [c, c] p2 :: (A2 ++ R)) := by
  rcases hop with ⟨_, rfl⟩ | ⟨_, rfl⟩ <;> exact okR_sg _ _ (by decide) (fun _ => by decide) (fun e => absurd e (by decide)) (fun _ => by decide)
 obtain ⟨k, rfl⟩ : ∃ k1, k = k1 + 1 := ⟨k - 1, by omega⟩
 have hu := ra ev q _ k ok (by omega)
 have hl : (A1 ++ sg [c, c] p2 :: (A2 ++ R)).length = A1.length + ((A2 ++ R).length + 1) := by simp
 have hu2 := rb ev q R k (hR.mono (by decide)) (by omega)
 rcases hop with ⟨rfl, rfl⟩ | ⟨rfl, rfl⟩
 ·rw [rangedF_dots (by rw [hu]; exact sg_hit (by rw [l2]) p2 _ _ _), hu, hu2]
 ·rw [rangedF_colons (by rw [hu]; exact sg_miss (by rw [l2]; decide) p2 _ _ _) (by rw [hu]; exact sg_hit (by rw [l2]) p2 _ _ _), hu, hu2]
theorem at_not {la : List UInt8} {a : S44} (p : Int) (ha : At 4 la a) : At 4 (33 :: la) (nd 11 [a] p) := by
 obtain ⟨Ta, hTa, ha⟩ := ha
 refine ⟨_, sc_pre (by decide) hTa, fun A hA => ?_⟩
 obtain ⟨p2, A2, rfl, e2⟩ := split_pre hA
 obtain ⟨_, a', ea, ra⟩ := ha A2 e2
 refine ⟨fun R => sg_miss (by rw [l1]; decide) _ _, nd 11 [a'] p2, by rw [eN_nd1, eN_nd1, ea], fun ev q R k hR hk => ?_⟩
 rw [List.cons_append] at hk ⊢
 rw [List.length_cons] at hk
 obtain ⟨k, rfl⟩ : ∃ k1, k = k1 + 1 := ⟨k - 1, by omega⟩
 rw [unaryF_not (sg_hit (by rw [l1]) p2 _ _ _), ra ev q R k hR (by omega)]
theorem at_up0 {la : List UInt8} {a : S44} (p : Int) (ha : At 5 la a) : At 5 (la ++ [94]) ⟨12, ⟨#[]⟩, 0, 0, [a], p⟩ := by
 obtain ⟨Ta, hTa, ha⟩ := ha
 refine ⟨_, sc_app hTa (by decide) (sc_sign (by decide)), fun A hA => ?_⟩
 obtain ⟨A1, p2, A2, rfl, e1, e2⟩ := split_two hA
 have : A2 = [] := List.map_eq_nil_iff.1 e2
 subst this
 obtain ⟨hc1, a', ea, ra⟩ := ha A1 e1
 refine ⟨nos_app hc1 _, nd 12 [a'] p2, map_eN (by simp [ea]) _ _ _ _ _ _, fun ev q R k hR hk => ?_⟩
 have e : A1 ++ [sg [94] p2] ++ R = A1 ++ sg [94] p2 :: R := by simp
 rw [e] at hk ⊢
 rw [ra ev q _ k (okR_sg _ _ (by decide) (fun e => absurd e (by decide)) (fun e => absurd e (by decide)) (fun e => absurd e (by decide))) hk]
 show upL ev (R.length + 1) _ _ = _
 cases R with
 | nil => rw [upL_nil (sg_hit (by rw [l1]) p2 _ _ _)]
 | cons t r => rw [upL_other (sg_hit (by rw [l1]) p2 _ _ _) (hR.num (by decide) t r rfl)]
theorem at_up {la : List UInt8} {a : S44} {n : Int} (p : Int) (h0 : 0 ≤ n) (h9 : n < 1000000000) (hn : n ≠ 0) (ha : At 5 la a) : At 5 (la ++ 94 :: (itoaT n).data.toList) ⟨12, ⟨#[]⟩, n, 0, [a], p⟩ := by
 obtain ⟨Ta, hTa, ha⟩ := ha
 refine ⟨_, sc_app hTa (by decide) (sc_pre (by decide) (sc_num h0 h9)), fun A hA => ?_⟩
 obtain ⟨A1, p2, A2, rfl, e1, e2⟩ := split_two hA
 obtain ⟨t, A3, rfl, e3, e4⟩ := List.map_eq_cons_iff.1 e2
 obtain ⟨p3, rfl⟩ := eT_tok e3
 have : A3 = [] := List.map_eq_nil_iff.1 e4
 subst this
 obtain ⟨hc1, a', ea, ra⟩ := ha A1 e1
 refine ⟨nos_app hc1 _, ⟨12, ⟨#[]⟩, n, 0, [a'], p2⟩, map_eN (by simp [ea]) _ _ _ _ _ _, fun ev q R k hR hk => ?_⟩
 have e : A1 ++ sg [94] p2 :: [(⟨2, ⟨#[]⟩, n, 0, p3⟩ : S39)] ++ R = A1 ++ sg [94] p2 :: (⟨2, ⟨#[]⟩, n, 0, p3⟩ :: R) := by simp
 rw [e] at hk ⊢
 rw [ra ev q _ k (okR_sg _ _ (by decide) (fun e => absurd e (by decide)) (fun e => absurd e (by decide)) (fun e => absurd e (by decide))) hk]
 show upL ev (R.length + 1 + 1) _ _ = _
 rw [upL_num (sg_hit (by rw [l1]) p2 _ _ _) rfl hn]
 exact upL_st ev _ R q _ (by omega)
theorem at_leaf {l : List UInt8} {k : Int} {s : ByteArray} {n id : Int} (op : Int) (p : Int) (h : Sc l [⟨k, s, n, id, 0⟩]) (hk : (k = 4 ∧ op = 2) ∨ (k = 2 ∧ op = 3) ∨ (k = 3 ∧ op = 4)) : At 6 l ⟨op, s, n, id, [], p⟩ := by
 refine ⟨_, h, fun A hA => ?_⟩
 obtain ⟨t, A3, rfl, e3, e4⟩ := List.map_eq_cons_iff.1 hA
 obtain ⟨p3, rfl⟩ := eT_tok e3
 have : A3 = [] := List.map_eq_nil_iff.1 e4
 subst this
 have h5 : (⟨k, s, n, id, p3⟩ : S39).f0 ≠ 5 := by show k ≠ 5; omega
 refine ⟨fun R => tok_miss h5 _ _, ⟨op, s, n, id, [], p3⟩, map_eN rfl _ _ _ _ _ _, fun R => tok_miss h5 _ _, fun ev q R f hR hf => ?_⟩
 rw [List.cons_append, List.nil_append] at hf ⊢
 obtain ⟨f, rfl⟩ : ∃ k1, f = k1 + 1 := ⟨f - 1, by omega⟩
 rw [atomF_leaf (tok_miss h5 _ _ _ _) h5 (by show k = 4 ∨ k = 2 ∨ k = 3; omega)]
 rw [leaf_is (k := op) (by show (if k = 4 then (2 : Int) else if k = 2 then 3 else if k = 3 then 4 else 1) = op; rcases hk with ⟨rfl, rfl⟩ | ⟨rfl, rfl⟩ | ⟨rfl, rfl⟩ <;> rfl)]
theorem at_name {s : ByteArray} (p : Int) (hs : NameOk s) : At 6 s.data.toList ⟨1, s, 0, 0, [], p⟩ := by
 refine ⟨_, sc_name hs, fun A hA => ?_⟩
 obtain ⟨t, A3, rfl, e3, e4⟩ := List.map_eq_cons_iff.1 hA
 obtain ⟨p3, rfl⟩ := eT_tok e3
 have : A3 = [] := List.map_eq_nil_iff.1 e4
 subst this
 have h5 : (⟨1, s, 0, 0, p3⟩ : S39).f0 ≠ 5 := by show (1 : Int) ≠ 5; decide
 refine ⟨fun R => tok_miss h5 _ _, ⟨1, s, 0, 0, [], p3⟩, map_eN rfl _ _ _ _ _ _, fun R => tok_miss h5 _ _, fun ev q R f hR hf => ?_⟩
 rw [List.cons_append, List.nil_append] at hf ⊢
 obtain ⟨f, rfl⟩ : ∃ k1, f = k1 + 1 := ⟨f - 1, by omega⟩
 rw [atomF_name (tok_miss h5 _ _ _ _) h5 (by show ¬ ((1 : Int) = 4 ∨ (1 : Int) = 2 ∨ (1 : Int) = 3); decide) (hR.br _ _)]
 rfl
/-- What stands between a call's brackets, and the one that closes it. -/
def ArgsAt (l : List UInt8) (ks : List S44) : Prop := ∃ T, Sc (l ++ [41]) T ∧ ∀ A, A.map eT = T → (∀ R, NoS (str1 41) (A ++ R)) ∧ ∃ ks', ks'.map eN = ks.map eN ∧ ∀ ev q R k t acc, 6 * (A ++ R).length + 7 ≤ k → callL ev k t acc ⟨A ++ R, false, q⟩ = (⟨5, t.f1, t.f2, t.f3, acc ++ ks', t.f4⟩, ⟨R, false, q⟩)
theorem args_one {l : List UInt8} {x : S44} (h : At 1 l x) : ArgsAt l [x] := by
 obtain ⟨T, hT, h⟩ := h
 refine ⟨_, sc_app hT (by decide) (sc_sign (by decide)), fun A hA => ?_⟩
 obtain ⟨A1, p2, A2, rfl, e1, e2⟩ := split_two hA
 have : A2 = [] := List.map_eq_nil_iff.1 e2
 subst this
 obtain ⟨hc, x', ex, rx⟩ := h A1 e1
 refine ⟨nos_app hc _, [x'], by simp [ex], fun ev q R k t acc hk => ?_⟩
 have e : A1 ++ [sg [41] p2] ++ R = A1 ++ sg [41] p2 :: R := by simp
 rw [e] at hk ⊢
 obtain ⟨k, rfl⟩ : ∃ k1, k = k1 + 1 := ⟨k - 1, by omega⟩
 have h1 := rx ev q (sg [41] p2 :: R) k (okR_sg _ R (by decide) (fun _ => by decide) (fun _ => ⟨by decide, by decide⟩) (fun _ => by decide)) (by omega)
 rw [exprL_none (sg_miss (by rw [l1]; decide) _ R _ _) (sg_miss (by rw [l1]; decide) _ R _ _)] at h1
 rw [callL_end (by rw [h1]; exact sg_miss (by rw [l1]; decide) _ R _ _) (by rw [h1]; exact sg_hit (by rw [l1]) p2 _ _ _), h1]
theorem args_more {l m : List UInt8} {x : S44} {ks : List S44} (h : At 1 l x) (hm : ArgsAt m ks) : ArgsAt (l ++ 44 :: 32 :: m) (x :: ks) := by
 obtain ⟨T, hT, h⟩ := h
 obtain ⟨Tm, hTm, hm⟩ := hm
 have e0 : l ++ 44 :: 32 :: m ++ [41] = l ++ 44 :: 32 :: (m ++ [41]) := by simp
 refine ⟨_, by rw [e0]; exact sc_app hT (by decide) (sc_pre (by decide) (sc_blank hTm)), fun A hA => ?_⟩
 obtain ⟨A1, p2, A2, rfl, e1, e2⟩ := split_two hA
 obtain ⟨hc, x', ex, rx⟩ := h A1 e1
 obtain ⟨_, ks', ek, rk⟩ := hm A2 e2
 refine ⟨nos_app hc _, x' :: ks', by simp [ex, ek], fun ev q R k t acc hk => ?_⟩
 have e : A1 ++ sg [44] p2 :: A2 ++ R = A1 ++ sg [44] p2 :: (A2 ++ R) := by simp
 rw [e] at hk ⊢
 obtain ⟨k, rfl⟩ : ∃ k1, k = k1 + 1 := ⟨k - 1, by omega⟩
 have h1 := rx ev q (sg [44] p2 :: (A2 ++ R)) k (okR_sg _ _ (by decide) (fun _ => by decide) (fun _ => ⟨by decide, by decide⟩) (fun _ => by decide)) (by omega)
 rw [exprL_none (sg_miss (by rw [l1]; decide) _ _ _ _) (sg_miss (by rw [l1]; decide) _ _ _ _)] at h1
 have hl : (A1 ++ sg [44] p2 :: (A2 ++ R)).length = A1.length + ((A2 ++ R).length + 1) := by simp
 rw [callL_comma (by rw [h1]; exact sg_hit (by rw [l1]) p2 _ _ _), h1, rk ev q R k t _ (by omega)]
 simp
theorem at_call0 {s : ByteArray} (p : Int) (hs : NameOk s) : At 6 (s.data.toList ++ 40 :: [41]) ⟨5, s, 0, 0, [], p⟩ := by
 refine ⟨_, sc_app (sc_name hs) (by decide) (sc_pre (by decide) (sc_sign (by decide))), fun A hA => ?_⟩
 obtain ⟨t, A3, rfl, e3, e4⟩ := List.map_eq_cons_iff.1 hA
 obtain ⟨p3, rfl⟩ := eT_tok e3
 obtain ⟨p4, A4, rfl, e5⟩ := split_pre e4
 obtain ⟨p5, A5, rfl, e6⟩ := split_pre e5
 have : A5 = [] := List.map_eq_nil_iff.1 e6
 subst this
 have h5 : (⟨1, s, 0, 0, p3⟩ : S39).f0 ≠ 5 := by show (1 : Int) ≠ 5; decide
 refine ⟨fun R => tok_miss h5 _ _, ⟨5, s, 0, 0, [], p3⟩, map_eN rfl _ _ _ _ _ _, fun R => tok_miss h5 _ _, fun ev q R f hR hf => ?_⟩
 obtain ⟨f, rfl⟩ : ∃ k1, f = k1 + 1 := ⟨f - 1, by omega⟩
 show atomF ev (f + 1) ⟨⟨1, s, 0, 0, p3⟩ :: (sg [40] p4 :: (sg [41] p5 :: R)), false, q⟩ = _
 rw [atomF_call (tok_miss h5 _ _ _ _) h5 (by show ¬ ((1 : Int) = 4 ∨ (1 : Int) = 2 ∨ (1 : Int) = 3); decide) (sg_hit (by rw [l1]) p4 _ _ _), callS_some (sg_hit (by rw [l1]) p5 _ _ _)]
theorem at_call {s : ByteArray} {l : List UInt8} {ks : List S44} (p : Int) (hs : NameOk s) (h : ArgsAt l ks) : At 6 (s.data.toList ++ 40 :: (l ++ [41])) ⟨5, s, 0, 0, ks, p⟩ := by
 obtain ⟨T, hT, h⟩ := h
 refine ⟨_, sc_app (sc_name hs) (by decide) (sc_pre (by decide) hT), fun A hA => ?_⟩
 obtain ⟨t, A3, rfl, e3, e4⟩ := List.map_eq_cons_iff.1 hA
 obtain ⟨p3, rfl⟩ := eT_tok e3
 obtain ⟨p4, A4, rfl, e5⟩ := split_pre e4
 obtain ⟨hc, ks', ek, rk⟩ := h A4 e5
 have h5 : (⟨1, s, 0, 0, p3⟩ : S39).f0 ≠ 5 := by show (1 : Int) ≠ 5; decide
 refine ⟨fun R => tok_miss h5 _ _, ⟨5, s, 0, 0, ks', p3⟩, map_eN ek _ _ _ _ _ _, fun R => tok_miss h5 _ _, fun ev q R f hR hf => ?_⟩
 obtain ⟨f, rfl⟩ : ∃ k1, f = k1 + 1 := ⟨f - 1, by omega⟩
 show atomF ev (f + 1) ⟨⟨1, s, 0, 0, p3⟩ :: (sg [40] p4 :: (A4 ++ R)), false, q⟩ = _
 have hl : 6 * ((A4 ++ R).length + 2) + 2 ≤ f + 1 := by simpa using hf
 rw [atomF_call (tok_miss h5 _ _ _ _) h5 (by show ¬ ((1 : Int) = 4 ∨ (1 : Int) = 2 ∨ (1 : Int) = 3); decide) (sg_hit (by rw [l1]) p4 _ _ _), callS_none (hc R _ _), rk ev q R f _ [] (by omega)]
 rfl
theorem args_all : ∀ (ks : List S44), ks ≠ [] → (∀ k ∈ ks, At 1 (kidL k 1) k) → ArgsAt (Lib.join (ks.map fun k => kidL k 1) [44, 32]) ks
 | [], h, _ => absurd rfl h
 | [k], _, h => by
  show ArgsAt (Lib.join [kidL k 1] [44, 32]) [k]
  rw [Lib.join_one]; exact args_one (h k (by simp))
 | k :: k2 :: ks, _, h => by
  have := args_more (h k (by simp)) (args_all (k2 :: ks) (by simp) (fun x hx => h x (List.mem_cons_of_mem _ hx)))
  show ArgsAt (Lib.join (kidL k 1 :: kidL k2 1 :: ks.map fun k => kidL k 1) [44, 32]) _
  rw [join_two]
  exact this
theorem call_list (s : ByteArray) (ks : List S44) (p : Int) : (showT ⟨5, s, 0, 0, ks, p⟩).data.toList = s.data.toList ++ 40 :: (Lib.join (ks.map fun k => kidL k 1) [44, 32] ++ [41]) := by
 have hl : (showM ks).length = ks.length := by rw [showM_map, List.length_map]
 rw [showT]
 show (((s ++ (⟨#[40]⟩ : ByteArray)) ++ joinB ((List.range (showM ks).length).map fun i => kidAt (showM ks) i 1) (⟨#[44, 32]⟩ : ByteArray)) ++ (⟨#[41]⟩ : ByteArray)).data.toList = _
 have e : (((List.range (showM ks).length).map fun i => kidAt (showM ks) i 1).map fun x => x.data.toList) = ks.map fun k => kidL k 1 := by
  rw [hl, List.map_map]
  apply List.ext_getElem
  ·simp
  ·intro i h1 h2
   have hi : i < ks.length := by simpa using h1
   simp only [List.getElem_map, List.getElem_range, Function.comp_apply]
   exact kid_list ks i hi 1
 simp only [joinB, e]
 simp
/-- A tree's text is read as that tree, but for the places. -/
theorem wf_read {x : S44} (h : Wf x) : At (lv x) (showT x).data.toList x := by
 induction h with
 | name s p h => exact at_name p h
 | hash id p h0 h1 => exact at_leaf 2 p (sc_hash h0 h1) (.inl ⟨rfl, rfl⟩)
 | num n p h0 h1 => exact at_leaf 3 p (sc_num h0 h1) (.inr (.inl ⟨rfl, rfl⟩))
 | text s p h => exact at_leaf 4 p (sc_text h) (.inr (.inr ⟨rfl, rfl⟩))
 | call s ks p hs _ ih =>
  rw [call_list]
  show At 6 _ _
  by_cases hk : ks = []
  ·subst hk; exact at_call0 p hs
  ·exact at_call p hs (args_all ks hk (fun k hk => at_kid (ih k hk) 1 (by decide) (by decide)))
 | two op a b p ho _ _ iha ihb =>
  have ka := fun w h1 h6 => at_kid iha w h1 h6
  have kb := fun w h1 h6 => at_kid ihb w h1 h6
  have k0 : ∀ w, (kidAt (showM [a, b]) 0 w).data.toList = kidL a w := fun w => kid_list [a, b] 0 (by simp) w
  have k1 : ∀ w, (kidAt (showM [a, b]) 1 w).data.toList = kidL b w := fun w => kid_list [a, b] 1 (by simp) w
  have e : showT (nd op [a, b] p) = showB op ⟨#[]⟩ 0 0 (showM [a, b]) := by unfold nd; rw [showT]
  rw [e]
  rcases ho with rfl | rfl | rfl | rfl | rfl
  ·have : (showB 6 ⟨#[]⟩ 0 0 (showM [a, b])).data.toList = kidL a 1 ++ 32 :: 124 :: 32 :: kidL b 2 := by
    show ((kidAt (showM [a, b]) 0 1 ++ (⟨#[32, 124, 32]⟩ : ByteArray)) ++ kidAt (showM [a, b]) 1 2).data.toList = _
    rw [← k0, ← k1]; simp
   rw [this]
   exact at_or (.inl ⟨rfl, rfl⟩) p (ka 1 (by decide) (by decide)) (kb 2 (by decide) (by decide))
  ·have : (showB 7 ⟨#[]⟩ 0 0 (showM [a, b])).data.toList = kidL a 1 ++ 32 :: 45 :: 32 :: kidL b 2 := by
    show ((kidAt (showM [a, b]) 0 1 ++ (⟨#[32, 45, 32]⟩ : ByteArray)) ++ kidAt (showM [a, b]) 1 2).data.toList = _
    rw [← k0, ← k1]; simp
   rw [this]
   exact at_or (.inr ⟨rfl, rfl⟩) p (ka 1 (by decide) (by decide)) (kb 2 (by decide) (by decide))
  ·have : (showB 8 ⟨#[]⟩ 0 0 (showM [a, b])).data.toList = kidL a 2 ++ 32 :: 38 :: 32 :: kidL b 3 := by
    show ((kidAt (showM [a, b]) 0 2 ++ (⟨#[32, 38, 32]⟩ : ByteArray)) ++ kidAt (showM [a, b]) 1 3).data.toList = _
    rw [← k0, ← k1]; simp
   rw [this]
   exact at_and p (ka 2 (by decide) (by decide)) (kb 3 (by decide) (by decide))
  ·have : (showB 9 ⟨#[]⟩ 0 0 (showM [a, b])).data.toList = kidL a 4 ++ 46 :: 46 :: kidL b 4 := by
    show ((kidAt (showM [a, b]) 0 4 ++ (⟨#[46, 46]⟩ : ByteArray)) ++ kidAt (showM [a, b]) 1 4).data.toList = _
    rw [← k0, ← k1]; simp
   rw [this]
   exact at_dots (.inl ⟨rfl, rfl⟩) p (ka 4 (by decide) (by decide)) (kb 4 (by decide) (by decide))
  ·have : (showB 10 ⟨#[]⟩ 0 0 (showM [a, b])).data.toList = kidL a 4 ++ 58 :: 58 :: kidL b 4 := by
    show ((kidAt (showM [a, b]) 0 4 ++ (⟨#[58, 58]⟩ : ByteArray)) ++ kidAt (showM [a, b]) 1 4).data.toList = _
    rw [← k0, ← k1]; simp
   rw [this]
   exact at_dots (.inr ⟨rfl, rfl⟩) p (ka 4 (by decide) (by decide)) (kb 4 (by decide) (by decide))
 | not a p _ ih =>
  have : (showT (nd 11 [a] p)).data.toList = 33 :: kidL a 4 := by
   have k0 := kid_list [a] 0 (by simp) 4
   unfold nd
   rw [showT]
   show ((⟨#[33]⟩ : ByteArray) ++ kidAt (showM [a]) 0 4).data.toList = _
   rw [← show (kidAt (showM [a]) 0 4).data.toList = kidL a 4 from k0]; simp
  rw [this]
  exact at_not p (at_kid ih 4 (by decide) (by decide))
 | up n a p h0 h9 _ ih =>
  have k0 : (kidAt (showM [a]) 0 5).data.toList = kidL a 5 := kid_list [a] 0 (by simp) 5
  by_cases hn : n = 0
  ·subst hn
   have : (showT ⟨12, ⟨#[]⟩, 0, 0, [a], p⟩).data.toList = kidL a 5 ++ [94] := by
    rw [showT]
    show (kidAt (showM [a]) 0 5 ++ (⟨#[94]⟩ : ByteArray)).data.toList = _
    rw [← k0]; simp
   rw [this]
   exact at_up0 p (at_kid ih 5 (by decide) (by decide))
  ·have : (showT ⟨12, ⟨#[]⟩, n, 0, [a], p⟩).data.toList = kidL a 5 ++ 94 :: (itoaT n).data.toList := by
    rw [showT]
    have e : showB 12 ⟨#[]⟩ n 0 (showM [a]) = (kidAt (showM [a]) 0 5 ++ (⟨#[94]⟩ : ByteArray)) ++ itoaT n := by
     show (if n = 0 then _ else _) = _
     rw [if_neg hn]
    rw [e, ← k0]; simp
   rw [this]
   exact at_up p h0 h9 hn (at_kid ih 5 (by decide) (by decide))
/-- Behind the parser: what was read is shown by a text that is read as it, but for the places. -/
theorem parse_show (a : ByteArray) (h : (parseT a).2.2 = 0) (hs : (showT (parseT a).1).size ≤ 1024) : ∃ m, parseT (showT (parseT a).1) = (m, 0, 0) ∧ eN m = eN (parseT a).1 := by
 have hw := parse_wf a h
 obtain ⟨_, _, _, _, _, hd⟩ := parse_ok a h
 generalize (parseT a).1 = x at *
 obtain ⟨a1, a2, _⟩ := lv_is x
 obtain ⟨T, ⟨A, hA, eA⟩, hr⟩ := at_down (wf_read hw) (Nat.le_refl 1) a1 a2
 obtain ⟨_, x', ex, rx⟩ := hr A eA
 have h1 := rx ((showT x).size : Int) 0 [] (6 * A.length + 6) (okR_nil 1) (by simp)
 rw [List.append_nil, exprL_none (nos_nil _ _ _) (nos_nil _ _ _)] at h1
 exact ⟨x', parse_is hs hA h1 (by rw [depth_of ex]; exact hd), ex⟩
theorem parse_long (a : ByteArray) (h : 1024 < a.size) : parseT a = (z44, 0, 4) := by
 have hs : scanS a = ([], 0, 4) := by unfold scanS; rw [if_neg (by omega)]
 unfold parseT
 rw [hs, if_neg (by decide)]
end
section
open Go.RowKit Go.Proofs.YtfgfoofojofnmaaDoorW.PrintWords Go.Proofs.YtfgfoofojofnmaaDoorW.PrintLast Go.Proofs.YtfgfoofojofnmaaDoorW.PrintMore
set_option linter.unusedVariables false
set_option linter.unusedSimpArgs false
open Go.Proofs.YtfgfoofojofnmaaDoor.Hand
namespace Hx
def hexDig (d : Nat) : UInt8 := if d < 10 then UInt8.ofNat (48 + d) else UInt8.ofNat (87 + d)
theorem wu64 (x : Int) : IntKind.u64.wrap x = x % 18446744073709551616 := by simp [IntKind.wrap, IntKind.bits, IntKind.signed]
theorem or_add (a b : Int) (ha : 0 ≤ a) (ha2 : a < 18446744073709551616) (hm : a % 16 = 0) (h0 : 0 ≤ b) (h1 : b < 16) : Go.bits .or .u64 a b = a + b := by
 have h64 : (2 : Int) ^ 64 = 18446744073709551616 := by decide
 have h4 : (2 : Int) ^ 4 = 16 := by decide
 exact bits_join .u64 64 (by decide) (fun n h h2 => by rw [h64] at h2; rw [wu64]; omega) 4 a b ha (by rw [h4]; exact hm) (by rw [h64]; exact ha2) h0 (by rw [h4]; exact h1) (by rw [h64]; omega)
/-- A number, turned by i digits. -/
def rot (v i : Nat) : Nat := (v % 16 ^ (16 - i)) * 16 ^ i + v / 16 ^ (16 - i)
theorem rot_zero (v : Nat) (h : v < 18446744073709551616) : rot v 0 = v := by
 unfold rot
 have e : (16 : Nat) ^ (16 - 0) = 18446744073709551616 := by decide
 rw [e]
 omega
theorem rot_gen (v M K : Nat) (hMK : M * K = 1152921504606846976) (hv : v < 18446744073709551616) :
  v % (M * 16) * K + v / (M * 16) < 18446744073709551616 ∧ v % M * (16 * K) + v / M = (v % (M * 16) * K + v / (M * 16)) * 16 % 18446744073709551616 + (v % (M * 16) * K + v / (M * 16)) / 1152921504606846976 ∧ (v % M * (16 * K) + v / M) % 16 = v / M % 16 := by
 have hM : 0 < M := by
  rcases Nat.eq_zero_or_pos M with h | h
  ·subst h; simp at hMK
  ·exact h
 have hr : v % M < M := Nat.mod_lt _ hM
 have hq1 : v / M / 16 < K := by
  rw [Nat.div_div_eq_div_mul]
  apply Nat.div_lt_of_lt_mul
  have : M * 16 * K = 16 * (M * K) := by rw [Nat.mul_comm M 16, Nat.mul_assoc]
  omega
 rw [Nat.mod_mul, ← Nat.div_div_eq_div_mul]
 generalize v / M = q at *
 generalize v % M = r at *
 have hs : r * K + K ≤ 1152921504606846976 := by
  have := Nat.mul_le_mul_right K (show r + 1 ≤ M by omega)
  rw [Nat.add_mul, Nat.one_mul] at this
  omega
 have e1 : (r + M * (q % 16)) * K = r * K + 1152921504606846976 * (q % 16) := by rw [Nat.add_mul, Nat.mul_right_comm, hMK]
 have e2 : r * (16 * K) = 16 * (r * K) := by rw [Nat.mul_left_comm]
 rw [e1, e2]
 clear e1 e2 hMK hr hM hv
 generalize r * K = s at *
 refine ⟨?_, ?_, ?_⟩ <;> omega
theorem rot_all (v i : Nat) (hi : i < 16) (h : v < 18446744073709551616) : rot v i < 18446744073709551616 ∧ rot v (i + 1) = rot v i * 16 % 18446744073709551616 + rot v i / 1152921504606846976 ∧ rot v (i + 1) % 16 = v / 16 ^ (15 - i) % 16 := by
 have h16 : (16 : Nat) ^ 15 = 1152921504606846976 := by decide
 have e := rot_gen v (16 ^ (15 - i)) (16 ^ i) (by rw [← Nat.pow_add, ← h16]; congr 1; omega) h
 have e1 : (16 : Nat) ^ (15 - i) * 16 = 16 ^ (16 - i) := by rw [← Nat.pow_succ]; congr 1; omega
 have e2 : (16 : Nat) * 16 ^ i = 16 ^ (i + 1) := by rw [Nat.pow_succ, Nat.mul_comm]
 have e3 : 16 - (i + 1) = 15 - i := by omega
 rw [e1, e2] at e
 unfold rot
 rw [e3]
 exact e
theorem rot_call (v i : Nat) (hi : i < 16) (h : v < 18446744073709551616) : bits_RotateLeft64.f (rot v i : Int) 4 = some ((rot v (i + 1) : Nat) : Int) := by
 obtain ⟨h1, h2, _⟩ := rot_all v i hi h
 generalize rot v i = a at *
 generalize rot v (i + 1) = b at *
 have e1 : Go.bits .and .u64 (IntKind.u64.wrap 4) 63 = 4 := by decide
 have e2 : IntKind.u64.wrap (64 - 4) = 60 := by decide
 unfold bits_RotateLeft64.f
 rw [e1, e2, if_pos (by decide), if_pos (by decide)]
 have e3 : shl .u64 (a : Int) 4 = ((a * 16 % 18446744073709551616 : Nat) : Int) := by
  have e : (2 : Int) ^ min 4 IntKind.u64.bits = 16 := by decide
  simp [shl, wu64, e]
 have e4 : shr .u64 (a : Int) 60 = ((a / 1152921504606846976 : Nat) : Int) := by
  have e : (2 : Int) ^ min 60 IntKind.u64.bits = 1152921504606846976 := by decide
  simp [shr, e]
 rw [e3, e4, or_add _ _ (by omega) (by omega) (by omega) (by omega) (by omega), h2]
 congr 1
/-- The block of digits while i are there. -/
def row (v i : Nat) : Array Value := ((List.range 16).map fun j => Value.int .u8 (if j < i then ((hexDig (v / 16 ^ (15 - j) % 16)).toNat : Int) else 0)).toArray
theorem row_zero (v : Nat) : row v 0 = #[.int .u8 0, .int .u8 0, .int .u8 0, .int .u8 0, .int .u8 0, .int .u8 0, .int .u8 0, .int .u8 0, .int .u8 0, .int .u8 0, .int .u8 0, .int .u8 0, .int .u8 0, .int .u8 0, .int .u8 0, .int .u8 0] := rfl
theorem row_step (v i : Nat) (hi : i < 16) : (row v i).setIfInBounds i (.int .u8 ((hexDig (v / 16 ^ (15 - i) % 16)).toNat : Int)) = row v (i + 1) := by
 apply Array.ext
 ·simp [row]
 ·intro j h1 h2
  have hj : j < 16 := by simpa [row] using h2
  simp only [row, List.setIfInBounds_toArray, List.getElem_toArray, List.getElem_set, List.getElem_map, List.getElem_range]
  by_cases e : i = j
  ·subst e; rw [if_pos rfl, if_pos (by omega)]
  ·rw [if_neg e]
   by_cases hl : j < i
   ·rw [if_pos hl, if_pos (by omega)]
   ·rw [if_neg hl, if_neg (by omega)]
def digs (v : Nat) : List UInt8 := (List.range 16).map fun i => hexDig (v / 16 ^ (15 - i) % 16)
theorem row_end (v j : Nat) (h : j < (digs v).length) : (row v 16)[j]? = some (.int .u8 (((digs v)[j]).toNat : Int)) := by
 have hj : j < 16 := by simpa [digs] using h
 simp [row, digs, hj]
theorem hex_idx0 (w : World) : (Instr.index 9 (.string ⟨#[48, 49, 50, 51, 52, 53, 54, 55, 56, 57, 97, 98, 99, 100, 101, 102]⟩) (.int .u64 0)).run Tryd.prog w = .ok (.int .u8 48) w := by kernel_rfl
theorem hex_idx1 (w : World) : (Instr.index 9 (.string ⟨#[48, 49, 50, 51, 52, 53, 54, 55, 56, 57, 97, 98, 99, 100, 101, 102]⟩) (.int .u64 1)).run Tryd.prog w = .ok (.int .u8 49) w := by kernel_rfl
theorem hex_idx2 (w : World) : (Instr.index 9 (.string ⟨#[48, 49, 50, 51, 52, 53, 54, 55, 56, 57, 97, 98, 99, 100, 101, 102]⟩) (.int .u64 2)).run Tryd.prog w = .ok (.int .u8 50) w := by kernel_rfl
theorem hex_idx3 (w : World) : (Instr.index 9 (.string ⟨#[48, 49, 50, 51, 52, 53, 54, 55, 56, 57, 97, 98, 99, 100, 101, 102]⟩) (.int .u64 3)).run Tryd.prog w = .ok (.int .u8 51) w := by kernel_rfl
theorem hex_idx4 (w : World) : (Instr.index 9 (.string ⟨#[48, 49, 50, 51, 52, 53, 54, 55, 56, 57, 97, 98, 99, 100, 101, 102]⟩) (.int .u64 4)).run Tryd.prog w = .ok (.int .u8 52) w := by kernel_rfl
theorem hex_idx5 (w : World) : (Instr.index 9 (.string ⟨#[48, 49, 50, 51, 52, 53, 54, 55, 56, 57, 97, 98, 99, 100, 101, 102]⟩) (.int .u64 5)).run Tryd.prog w = .ok (.int .u8 53) w := by kernel_rfl
theorem hex_idx6 (w : World) : (Instr.index 9 (.string ⟨#[48, 49, 50, 51, 52, 53, 54, 55, 56, 57, 97, 98, 99, 100, 101, 102]⟩) (.int .u64 6)).run Tryd.prog w = .ok (.int .u8 54) w := by kernel_rfl
theorem hex_idx7 (w : World) : (Instr.index 9 (.string ⟨#[48, 49, 50, 51, 52, 53, 54, 55, 56, 57, 97, 98, 99, 100, 101, 102]⟩) (.int .u64 7)).run Tryd.prog w = .ok (.int .u8 55) w := by kernel_rfl
theorem hex_idx8 (w : World) : (Instr.index 9 (.string ⟨#[48, 49, 50, 51, 52, 53, 54, 55, 56, 57, 97, 98, 99, 100, 101, 102]⟩) (.int .u64 8)).run Tryd.prog w = .ok (.int .u8 56) w := by kernel_rfl
theorem hex_idx9 (w : World) : (Instr.index 9 (.string ⟨#[48, 49, 50, 51, 52, 53, 54, 55, 56, 57, 97, 98, 99, 100, 101, 102]⟩) (.int .u64 9)).run Tryd.prog w = .ok (.int .u8 57) w := by kernel_rfl
theorem hex_idx10 (w : World) : (Instr.index 9 (.string ⟨#[48, 49, 50, 51, 52, 53, 54, 55, 56, 57, 97, 98, 99, 100, 101, 102]⟩) (.int .u64 10)).run Tryd.prog w = .ok (.int .u8 97) w := by kernel_rfl
theorem hex_idx11 (w : World) : (Instr.index 9 (.string ⟨#[48, 49, 50, 51, 52, 53, 54, 55, 56, 57, 97, 98, 99, 100, 101, 102]⟩) (.int .u64 11)).run Tryd.prog w = .ok (.int .u8 98) w := by kernel_rfl
theorem hex_idx12 (w : World) : (Instr.index 9 (.string ⟨#[48, 49, 50, 51, 52, 53, 54, 55, 56, 57, 97, 98, 99, 100, 101, 102]⟩) (.int .u64 12)).run Tryd.prog w = .ok (.int .u8 99) w := by kernel_rfl
theorem hex_idx13 (w : World) : (Instr.index 9 (.string ⟨#[48, 49, 50, 51, 52, 53, 54, 55, 56, 57, 97, 98, 99, 100, 101, 102]⟩) (.int .u64 13)).run Tryd.prog w = .ok (.int .u8 100) w := by kernel_rfl
theorem hex_idx14 (w : World) : (Instr.index 9 (.string ⟨#[48, 49, 50, 51, 52, 53, 54, 55, 56, 57, 97, 98, 99, 100, 101, 102]⟩) (.int .u64 14)).run Tryd.prog w = .ok (.int .u8 101) w := by kernel_rfl
theorem hex_idx15 (w : World) : (Instr.index 9 (.string ⟨#[48, 49, 50, 51, 52, 53, 54, 55, 56, 57, 97, 98, 99, 100, 101, 102]⟩) (.int .u64 15)).run Tryd.prog w = .ok (.int .u8 102) w := by kernel_rfl
theorem hex_idx (d : Nat) (hd : d < 16) (w : World) : (Instr.index 9 (.string ⟨#[48, 49, 50, 51, 52, 53, 54, 55, 56, 57, 97, 98, 99, 100, 101, 102]⟩) (.int .u64 (d : Int))).run Tryd.prog w = .ok (.int .u8 ((hexDig d).toNat : Int)) w := by
 have hh : d = 0 ∨ d = 1 ∨ d = 2 ∨ d = 3 ∨ d = 4 ∨ d = 5 ∨ d = 6 ∨ d = 7 ∨ d = 8 ∨ d = 9 ∨ d = 10 ∨ d = 11 ∨ d = 12 ∨ d = 13 ∨ d = 14 ∨ d = 15 := by omega
 rcases hh with rfl | rfl | rfl | rfl | rfl | rfl | rfl | rfl | rfl | rfl | rfl | rfl | rfl | rfl | rfl | rfl
 ·exact hex_idx0 w
 ·exact hex_idx1 w
 ·exact hex_idx2 w
 ·exact hex_idx3 w
 ·exact hex_idx4 w
 ·exact hex_idx5 w
 ·exact hex_idx6 w
 ·exact hex_idx7 w
 ·exact hex_idx8 w
 ·exact hex_idx9 w
 ·exact hex_idx10 w
 ·exact hex_idx11 w
 ·exact hex_idx12 w
 ·exact hex_idx13 w
 ·exact hex_idx14 w
 ·exact hex_idx15 w
theorem and15 (a : Nat) (h : a < 18446744073709551616) : Go.bits .and .u64 (a : Int) 15 = ((a % 16 : Nat) : Int) := by
 have e0 : (2 : Nat) ^ IntKind.u64.bits = 18446744073709551616 := by decide
 have e : a % 18446744073709551616 &&& 15 % 18446744073709551616 = a % 16 := by
  rw [Nat.mod_eq_of_lt h]
  exact Nat.and_two_pow_sub_one_eq_mod a 4
 simp [Go.bits, e0, e]
 rw [wu64]
 omega
set_option maxHeartbeats 2000000 in
set_option maxRecDepth 100000 in
theorem hex_any (v : Nat) (hv : v < 18446744073709551616) (w : World) : Calls Tryd.prog 44 #[.int .u64 (v : Int)] w fun e w' => e = .returned (.string ⟨(digs v).toArray⟩) ∧ Below w.heap.size w w' := by
 have H0 := Lib.hid (rot_zero v hv)
 have HR := Lib.hid (fun i hi => rot_call v i hi hv)
 have HA := Lib.hid (fun i hi => rot_all v i hi hv)
 have HV := Lib.hid hv
 clear hv
 go_enter Tryd.func44, Tryd.ntmps44
 go_wp2
 have HN := Lib.hid (blk_new w (Obj.cells (row v 0) 125))
 have HB := Lib.hid (below_alloc (Below.refl w.heap.size w) (Obj.cells (row v 0) 125))
 rw [row_zero] at HN HB
 generalize w.alloc (Obj.cells #[.int .u8 0, .int .u8 0, .int .u8 0, .int .u8 0, .int .u8 0, .int .u8 0, .int .u8 0, .int .u8 0, .int .u8 0, .int .u8 0, .int .u8 0, .int .u8 0, .int .u8 0, .int .u8 0, .int .u8 0, .int .u8 0] 125) = w0 at *
 rw [← row_zero v] at HN
 have hb := Lib.hid (Nat.le_refl w.heap.size)
 obtain ⟨b, hbe⟩ : ∃ b, w.heap.size = b := ⟨_, rfl⟩
 rw [hbe] at HN HB hb ⊢
 have HBE := Lib.hid hbe
 clear hbe
 go_loopw [4, 7] (fun v4 v7 wr => ∃ i : Nat, i ≤ 16 ∧ v7 = .int .i64 (i : Int) ∧ v4 = .int .u64 (rot v i : Int) ∧ Aside0 (wr.heap[b]? = some (.cells (row v i) 125 (0, 0))) ∧ Aside0 (Below b w wr)) (fun _ v7 _ => 16 - (intOf v7).toNat)
 case atStart => exact ⟨0, by omega, rfl, by rw [H0.out], ⟨HN.out⟩, ⟨HB.out⟩⟩
 case round =>
  obtain ⟨i, hi, rfl, rfl, HNr, HBr⟩ := hrel
  by_cases hlt : i < 16
  ·have hr := HR.out i hlt
   obtain ⟨h1, h2, h3⟩ := HA.out i hlt
   have hrlt : rot v (i + 1) < 18446744073709551616 := by rw [h2]; omega
   have hx := fun W => hex_idx (v / 16 ^ (15 - i) % 16) (Nat.mod_lt _ (by decide)) W
   have ha : Go.bits .and .u64 (rot v (i + 1) : Int) 15 = ((v / 16 ^ (15 - i) % 16 : Nat) : Int) := by rw [and15 _ hrlt, h3]
   have HS := Lib.hid (row_step v i hlt)
   have hc : wr.cell? ⟨b, i, none⟩ = some (.int .u8 0) := (blk_cell HNr.out i).trans (by simp [row, hlt])
   have hf := blk_frozen HNr.out i
   clear h1 h2 h3 hrlt
   generalize v / 16 ^ (15 - i) % 16 = d at *
   obtain ⟨r1, hr1⟩ : ∃ r, rot v (i + 1) = r := ⟨_, rfl⟩
   have HR1 := Lib.hid hr1
   rw [hr1] at hr ha
   clear hr1
   generalize rot v i = r0 at *
   have CR := fun W => bits_RotateLeft64.calls (r0 : Int) 4 _ W hr
   clear hr
   go_wp2_with (go_at_call 78; (with_reducible refine (CR _).mono ?_); rintro e_ w1 ⟨rfl, ⟨nd, rfl⟩⟩)
   go_roundw
   case rel => exact ⟨i + 1, by omega, by go_num, by rw [HR1.out], ⟨blk_put (blk_drewN HNr.out _) i _ HS.out⟩, ⟨(pw_below_drewN HBr.out _).setCell (Nat.le_refl _) _⟩⟩
   case measure => simp [intOf]; omega
  ·obtain rfl : i = 16 := by omega
   clear HR HA H0 hlt
   have hsl : ∀ W, (Instr.sliceAt 125 (.pointer (some ⟨b, 0, none⟩)) none none none).run Tryd.prog W = .ok (.slice (some ⟨b, 0, none⟩) 16 16) W := fun W => by
    rw [run_sliceAt_array_all W 125 ⟨b, 0, none⟩ Tryd.underlying125]
    go_simp
   have hdl : (digs v).length = 16 := by simp [digs]
   have hcv : (convert 127 9 (.slice (some ⟨b, 0, none⟩) 16 16)).run Tryd.prog wr = .ok (.string ⟨(digs v).toArray⟩) wr := by
    have h := run_convert_bytes_back (P := Tryd.prog) wr 127 9 5 ⟨b, 0, none⟩ 16 (digs v) Tryd.underlying127 Tryd.underlying5 Tryd.underlying9 (fun j hj => by
     have e2 : (⟨b, 0, none⟩ : Addr).add j = ⟨b, j, none⟩ := by
      simp only [Addr.add]
      by_cases h : j = 0
      ·subst h; rfl
      ·rw [if_neg h, Nat.zero_add]
     rw [e2, blk_cell HNr.out j]
     exact row_end v j hj)
    rw [hdl] at h
    exact h
   have HS : Hid ((digs v).length ≤ 100) := Lib.hid (by omega)
   clear hdl
   obtain ⟨D, hD⟩ : ∃ D, digs v = D := ⟨_, rfl⟩
   rw [hD] at hcv HS
   have HD := Lib.hid hD
   clear hD
   go_wp2
   go_ret
   exact ⟨by rw [HD.out]; rfl, by rw [HBE.out]; exact HBr.out⟩
end Hx
end
section
open Go.RowKit Go.Proofs.YtfgfoofojofnmaaDoorW.PrintWords Go.Proofs.YtfgfoofojofnmaaDoorW.PrintLast Go.Proofs.YtfgfoofojofnmaaDoorW.PrintMore
set_option linter.unusedVariables false
set_option linter.unusedSimpArgs false
open Go.Proofs.YtfgfoofojofnmaaDoor.Hand
theorem below_allocX (w : World) (o : Obj) : Below w.heap.size w (w.alloc o) := below_alloc (Below.refl _ _) o
theorem join_f' (L : List ByteArray) (s : ByteArray) (h1 : L.length ≤ 140737488355328) (h2 : (Lib.join (L.map fun x => x.data.toList) s.data.toList).length ≤ 140737488355328) : strings_Join.f L s = some (joinB L s) := by unfold strings_Join.f; rw [if_pos ⟨h1, h2⟩]
theorem join_call' (A : Option Addr) (c : Nat) (L : List ByteArray) (s J : ByteArray) (n : Nat) (hn : L.length = n) (hc : n ≤ c) (hj : strings_Join.f L s = some J) (W : World) (hC : Kd.C Kd.string W A n L) : Calls Tryd.prog 45 #[.slice A n c, .string s] W fun e w' => e = .returned (.string J) ∧ Below W.heap.size W w' := by
 subst hn
 exact strings_Join.calls A c L s J W hC hc hj
/-- The table of powers of ten is laid. -/
def GW (w : World) : Prop := Lib.TabIs Tryd.prog w "internal/strconv.uint64pow10" .u64 Lib.pow10Tab
theorem gw_below (W W' : World) (hB : Below W.heap.size W W') (h : GW W) : GW W' := by
 unfold GW Lib.TabIs World.var? at *
 cases hg : Tryd.prog.globalNamed "internal/strconv.uint64pow10" with
 | none => simp [hg] at h
 | some g =>
  simp only [hg, Option.bind_some] at h ⊢
  have hlt : g < W.heap.size := by
   rcases Nat.lt_or_ge g W.heap.size with h' | h'
   ·exact h'
   ·rw [Array.getElem?_eq_none h'] at h; simp at h
  rw [hB.block g hlt]
  exact h
theorem itoa_is (n : Int) (h : 0 ≤ n) : (⟨(Lib.itoa n).toArray⟩ : ByteArray) = itoaT n := by
 unfold itoaT Lib.itoa
 rw [if_neg (by omega)]
theorem itoa_any (W : World) (n : Int) (hg : GW W) (h0 : 0 ≤ n) (h9 : n < 1000000000) : Calls Tryd.prog 43 #[.int .i64 n] W fun e w' => e = .returned (.string (itoaT n)) ∧ Below W.heap.size W w' := by
 refine (Tryd.strconv_Itoa n (by omega) (by omega) W hg).mono ?_
 rintro e w' ⟨rfl, k, os, rfl⟩
 rw [itoa_is n h0]
 exact ⟨rfl, Lib.below_grow _ W (Nat.le_refl _) k os⟩
theorem itoa_size (n : Int) (h0 : 0 ≤ n) (h9 : n < 1000000000) : (itoaT n).size ≤ 9 := by
 have : (itoaT n).size = (Lib.decDigits n.toNat).length := by simp [itoaT, ByteArray.size]
 rw [this, Lib.decDigits_length]
 exact nDigits_le 9 _ (by decide) (by rw [show (10 : Nat) ^ 9 = 1000000000 from by decide]; omega)
def hexT (id : Int) : ByteArray := ⟨(Hx.digs id.toNat).toArray⟩
theorem hash_is (id : Int) : hashT id = (⟨#[35]⟩ : ByteArray) ++ hexT id := by
 apply ByteArray.ext
 apply Array.toList_inj.1
 simp [hashT, hexT, Hx.digs, Hx.hexDig, hexDig]
theorem hexT_any (W : World) (id : Int) (h0 : 0 ≤ id) (h1 : id < 18446744073709551616) : Calls Tryd.prog 44 #[.int .u64 id] W fun e w' => e = .returned (.string (hexT id)) ∧ Below W.heap.size W w' := by
 have h := Hx.hex_any id.toNat (by omega) W
 rw [Int.toNat_of_nonneg h0] at h
 exact h
theorem hexT_size (id : Int) : (hexT id).size = 16 := by simp [hexT, Hx.digs, ByteArray.size]
/-- Tokens as a text: each as itself, a blank between. -/
def writeT (l : List S39) : ByteArray := joinB (l.map wtok) (⟨#[32]⟩ : ByteArray)
theorem writeT_list (l : List S39) : (writeT l).data.toList = Lib.join (l.map fun t => (wtok t).data.toList) [32] := by
 simp [writeT, joinB, List.map_map, Function.comp_def]
theorem wtok_size {t : S39} (h : TokOk t) : (wtok t).size ≤ 1026 := by
 unfold wtok
 by_cases h2 : t.f0 = 2
 ·rw [if_pos h2]
  rcases h with ⟨h0, _⟩ | ⟨h0, _, h6, h7, _⟩ | ⟨h0, _⟩ | ⟨h0, _⟩ | ⟨h0, _⟩
  all_goals first | (have := itoa_size t.f2 h6 h7; omega) | (rw [h2] at h0; exact absurd h0 (by decide))
 ·rw [if_neg h2]
  by_cases h3 : t.f0 = 3
  ·rw [if_pos h3]
   rcases h with ⟨h0, _⟩ | ⟨h0, _⟩ | ⟨h0, h6, _⟩ | ⟨h0, _⟩ | ⟨h0, _⟩
   all_goals first | (have := h6.2.2; simp only [ByteArray.size_append]; show 1 + _ + 1 ≤ _; omega) | (rw [h3] at h0; exact absurd h0 (by decide))
  ·rw [if_neg h3]
   by_cases h4 : t.f0 = 4
   ·rw [if_pos h4, hash_is, ByteArray.size_append, hexT_size]; decide
   ·rw [if_neg h4]
    have sz : ∀ {s : ByteArray} {l : List UInt8}, s.data.toList = l → l.length ≤ 16 → s.size ≤ 1026 := fun {s l} e h => by
     have : s.data.toList.length = s.size := by simp
     rw [e] at this; omega
    rcases h with ⟨h0, ⟨c, r, h6, _, _, h7⟩, _⟩ | ⟨h0, _⟩ | ⟨h0, _⟩ | ⟨h0, _⟩ | ⟨h0, _, _, ⟨c, h6, _⟩ | h6 | h6⟩
    ·exact sz h6 (by simpa using h7)
    ·exact absurd h0 h2
    ·exact absurd h0 h3
    ·exact absurd h0 h4
    all_goals exact sz h6 (by simp)
theorem join_le (n : Nat) : ∀ l : List (List UInt8), (∀ x ∈ l, x.length ≤ n) → (Lib.join l [32]).length ≤ l.length * (n + 1)
 | [], _ => by simp [Lib.join_nil]
 | [x], h => by rw [Lib.join_one]; have := h x (by simp); simp; omega
 | x :: y :: r, h => by
  rw [join_two]
  have h1 := h x (by simp)
  have h2 := join_le n (y :: r) (fun z hz => h z (List.mem_cons_of_mem _ hz))
  simp only [List.length_append, List.length_cons, List.length_nil] at h2 ⊢
  rw [Nat.add_mul (r.length + 1) 1, Nat.one_mul]
  omega
theorem wt_2 {t : S39} (h : t.f0 = 2) : wtok t = itoaT t.f2 := by unfold wtok; rw [if_pos h]
theorem wt_3 {t : S39} (h : t.f0 = 3) : wtok t = ((⟨#[39]⟩ : ByteArray) ++ t.f1) ++ (⟨#[39]⟩ : ByteArray) := by unfold wtok; rw [if_neg (by rw [h]; decide), if_pos h]
theorem wt_4 {t : S39} (h : t.f0 = 4) : wtok t = (⟨#[35]⟩ : ByteArray) ++ hexT t.f3 := by unfold wtok; rw [if_neg (by rw [h]; decide), if_neg (by rw [h]; decide), if_pos h, hash_is]
theorem wt_5 {t : S39} (h2 : t.f0 ≠ 2) (h3 : t.f0 ≠ 3) (h4 : t.f0 ≠ 4) : wtok t = t.f1 := by unfold wtok; rw [if_neg h2, if_neg h3, if_neg h4]
theorem tok_2 {t : S39} (h : TokOk t) (h2 : t.f0 = 2) : 0 ≤ t.f2 ∧ t.f2 < 1000000000 := by
 rcases h with ⟨h0, _⟩ | ⟨h0, _, h6, h7, _⟩ | ⟨h0, _⟩ | ⟨h0, _⟩ | ⟨h0, _⟩
 all_goals first | exact ⟨h6, h7⟩ | (rw [h2] at h0; exact absurd h0 (by decide))
theorem tok_4 {t : S39} (h : TokOk t) (h2 : t.f0 = 4) : 0 ≤ t.f3 ∧ t.f3 < 18446744073709551616 := by
 rcases h with ⟨h0, _⟩ | ⟨h0, _⟩ | ⟨h0, _⟩ | ⟨h0, _, _, h6, h7⟩ | ⟨h0, _⟩
 all_goals first | exact ⟨h6, h7⟩ | (rw [h2] at h0; exact absurd h0 (by decide))
theorem rdT39 (l : List S39) (i : Nat) (h : i < l.length) : rd_T39 l (i : Int) = l[i] := by simp [rd_T39, List.getD_eq_getElem?_getD, List.getElem?_eq_getElem h]
theorem write_step (l : List S39) (i : Nat) (h : i < l.length) : (l.take (i + 1)).map wtok = (l.take i).map wtok ++ [wtok l[i]] := by
 rw [List.take_succ_eq_append_getElem h, List.map_append]; rfl
set_option maxHeartbeats 4000000 in
set_option maxRecDepth 100000 in
theorem write_any (l : List S39) (hl : ∀ t ∈ l, TokOk t) (hn : l.length ≤ 2000) (A : Option Addr) (c : Nat) (w : World) (hg : GW w) (hC : Kd.C k39 w A l.length l) (hc : l.length ≤ c) :
  Calls Tryd.prog 19 #[.slice A l.length c] w fun e w' => e = .returned (.string (writeT l)) ∧ Below w.heap.size w w' := by
 have HG := Lib.hid hg
 have HC := Lib.hid hC
 have HL := Lib.hid hl
 have HF := Lib.hid (join_f' (l.map wtok) (⟨#[32]⟩ : ByteArray) (by simp; omega) (by
  have := join_le 1026 ((l.map wtok).map fun x => x.data.toList) (fun x hx => by
   rw [List.map_map] at hx
   obtain ⟨t, ht, rfl⟩ := List.mem_map.1 hx
   have h1 := wtok_size (hl t ht)
   have h2 : (wtok t).data.toList.length = (wtok t).size := by simp
   show (wtok t).data.toList.length ≤ _
   omega)
  simp only [List.length_map] at this
  show (Lib.join _ [32]).length ≤ _
  omega))
 clear hg hC hl
 have HB0 := Lib.hid (Below.refl w.heap.size w)
 go_enter Tryd.func19, Tryd.ntmps19
 go_wp2
 go_loopw [3, 9] (fun v3 v9 wr => ∃ i : Nat, i ≤ l.length ∧ v9 = .int .i64 (i : Int) ∧ Aside0 (Kd.R Kd.string 9 wr w.heap.size (fun _ => True) v3 ((l.take i).map wtok)) ∧ Aside0 (Below w.heap.size w wr)) (fun _ v9 _ => l.length - (intOf v9).toNat)
 case atStart => exact ⟨0, Nat.zero_le _, rfl, ⟨Kd.R_nil _ _ _ _ _⟩, ⟨Below.refl _ _⟩⟩
 case round =>
  obtain ⟨i, hi, rfl, HR, HBw⟩ := hrel
  have hrl : ((l.take i).map wtok).length = i := by simp; omega
  obtain ⟨A3, c3, rfl⟩ : ∃ A c, u3 = Value.slice A i c := by obtain ⟨A3, c3, e3⟩ := Kd.R_slice HR.out; rw [hrl] at e3; exact ⟨A3, c3, e3⟩
  by_cases hlt : i < l.length
  ·have HS := Lib.hid (write_step l i hlt)
   have ht := HL.out l[i] (List.getElem_mem hlt)
   obtain ⟨ad, rfl, x0, x1, x2, x3, x4⟩ := at_T39 (Kd.C_below HC.out HBw.out) (i : Int) (by omega) (by omega)
   rw [rdT39 l i hlt] at x0 x1 x2 x3 x4
   simp only [Int.toNat_natCast] at x0 x1 x2 x3 x4
   have HT := Lib.hid ht
   have hzs := wtok_size ht
   clear ht
   generalize l[i] = t at *
   by_cases h2 : t.f0 = 2
   ·have HW := Lib.hid (wt_2 h2)
    have t2 : (t.f0 == 2) = true := by rw [h2]; rfl
    have hh := tok_2 HT.out h2
    have CI := fun W hg => itoa_any W t.f2 hg hh.1 hh.2
    clear h2 hh
    obtain ⟨z, hz⟩ : ∃ z, wtok t = z := ⟨_, rfl⟩
    rw [hz] at HS hzs HW
    clear hz
    rw [← HW.out] at CI
    clear HW
    go_wp2_with (first | (go_at_call 43; (with_reducible refine (CI _ (gw_below _ _ (below_step HBw.out (below_allocX wr (Obj.cells #[.int .i64 t.f0, .string t.f1, .int .i64 t.f2, .int .u64 t.f3, .int .i64 t.f4] 39))) HG.out)).mono ?_); rintro e_ w1 ⟨rfl, hB⟩; have hB2 := below_step (below_allocX wr (Obj.cells #[.int .i64 t.f0, .string t.f1, .int .i64 t.f2, .int .u64 t.f3, .int .i64 t.f4] 39)) hB; have HR1 := Lib.hid (Kd.R_below HR.out hB2); have HW1 := Lib.hid (below_step HBw.out hB2); have HN1 := Lib.hid (blk_belowU hB (blk_new wr (Obj.cells #[.int .i64 t.f0, .string t.f1, .int .i64 t.f2, .int .u64 t.f3, .int .i64 t.f4] 39))); clear hB hB2) | (at_builtin; refine Kd.R_append Kd.string (w0 := w) w.heap.size rfl (.tmp 34) (.tmp 36) 69 9 (.string ⟨#[]⟩) 16 rfl Tryd.underlying69 info9 rfl (by decide) (by omega) (.slice A3 i c3) ((l.take i).map wtok) z [.string z] (fun _ => True) (fun _ => False) rfl (by first | (go_simp; done) | (go_simp; rfl)) rfl (fun _ hk => hk.elim) (fun _ _ => trivial) HR1.out HW1.out HW1.out.size (by rw [hrl]; omega) ?_; intro v1 w5 ho hb5 hg5 hat5; clear hg5 hat5; have HR5 := Lib.hid ho; have HW5 := Lib.hid hb5; clear ho hb5))
    go_roundw
    case rel => exact ⟨i + 1, by omega, by go_num, ⟨by rw [HS.out]; exact HR5.out⟩, ⟨HW5.out⟩⟩
    case measure => simp [intOf]; omega
   by_cases h3 : t.f0 = 3
   ·have HW := Lib.hid (wt_3 h3)
    have t2 : (t.f0 == 2) = false := beq_eq_false_iff_ne.2 h2
    have t3 : (t.f0 == 3) = true := by rw [h3]; rfl
    clear h2 h3
    obtain ⟨z, hz⟩ : ∃ z, wtok t = z := ⟨_, rfl⟩
    rw [hz] at HS hzs HW
    clear hz
    have hz1 : 1 + t.f1.size + 1 = z.size := by rw [HW.out]; simp only [ByteArray.size_append]; rfl
    have HR1 := Lib.hid (Kd.R_below HR.out (below_allocX wr (Obj.cells #[.int .i64 t.f0, .string t.f1, .int .i64 t.f2, .int .u64 t.f3, .int .i64 t.f4] 39)))
    have HW1 := Lib.hid (below_step HBw.out (below_allocX wr (Obj.cells #[.int .i64 t.f0, .string t.f1, .int .i64 t.f2, .int .u64 t.f3, .int .i64 t.f4] 39)))
    go_wp2_with ((at_builtin; refine Kd.R_append Kd.string (w0 := w) w.heap.size rfl (.tmp 34) (.tmp 36) 69 9 (.string ⟨#[]⟩) 16 rfl Tryd.underlying69 info9 rfl (by decide) (by omega) (.slice A3 i c3) ((l.take i).map wtok) (((⟨#[39]⟩ : ByteArray) ++ t.f1) ++ (⟨#[39]⟩ : ByteArray)) [.string (((⟨#[39]⟩ : ByteArray) ++ t.f1) ++ (⟨#[39]⟩ : ByteArray))] (fun _ => True) (fun _ => False) rfl (by first | (go_simp; done) | (go_simp; rfl)) rfl (fun _ hk => hk.elim) (fun _ _ => trivial) HR1.out HW1.out HW1.out.size (by rw [hrl]; omega) ?_; intro v1 w5 ho hb5 hg5 hat5; clear hg5 hat5; have HR5 := Lib.hid ho; have HW5 := Lib.hid hb5; clear ho hb5))
    go_roundw
    case rel => exact ⟨i + 1, by omega, by go_num, ⟨by rw [HS.out, HW.out]; exact HR5.out⟩, ⟨HW5.out⟩⟩
    case measure => simp [intOf]; omega
   by_cases h4 : t.f0 = 4
   ·have HW := Lib.hid (wt_4 h4)
    have t2 : (t.f0 == 2) = false := beq_eq_false_iff_ne.2 h2
    have t3 : (t.f0 == 3) = false := beq_eq_false_iff_ne.2 h3
    have t4 : (t.f0 == 4) = true := by rw [h4]; rfl
    have hh := tok_4 HT.out h4
    have CI := fun W => hexT_any W t.f3 hh.1 hh.2
    have hx := hexT_size t.f3
    clear h2 h3 h4 hh
    generalize hexT t.f3 = hx1 at *
    obtain ⟨z, hz⟩ : ∃ z, wtok t = z := ⟨_, rfl⟩
    rw [hz] at HS hzs HW
    clear hz
    go_wp2_with (first | (go_at_call 44; (with_reducible refine (CI _).mono ?_); rintro e_ w1 ⟨rfl, hB⟩; have hB2 := below_step (below_allocX wr (Obj.cells #[.int .i64 t.f0, .string t.f1, .int .i64 t.f2, .int .u64 t.f3, .int .i64 t.f4] 39)) hB; have HR1 := Lib.hid (Kd.R_below HR.out hB2); have HW1 := Lib.hid (below_step HBw.out hB2); have HN1 := Lib.hid (blk_belowU hB (blk_new wr (Obj.cells #[.int .i64 t.f0, .string t.f1, .int .i64 t.f2, .int .u64 t.f3, .int .i64 t.f4] 39))); clear hB hB2) | (at_builtin; refine Kd.R_append Kd.string (w0 := w) w.heap.size rfl (.tmp 34) (.tmp 36) 69 9 (.string ⟨#[]⟩) 16 rfl Tryd.underlying69 info9 rfl (by decide) (by omega) (.slice A3 i c3) ((l.take i).map wtok) ((⟨#[35]⟩ : ByteArray) ++ hx1) [.string ((⟨#[35]⟩ : ByteArray) ++ hx1)] (fun _ => True) (fun _ => False) rfl (by first | (go_simp; done) | (go_simp; rfl)) rfl (fun _ hk => hk.elim) (fun _ _ => trivial) HR1.out HW1.out HW1.out.size (by rw [hrl]; omega) ?_; intro v1 w5 ho hb5 hg5 hat5; clear hg5 hat5; have HR5 := Lib.hid ho; have HW5 := Lib.hid hb5; clear ho hb5))
    go_roundw
    case rel => exact ⟨i + 1, by omega, by go_num, ⟨by rw [HS.out, HW.out]; exact HR5.out⟩, ⟨HW5.out⟩⟩
    case measure => simp [intOf]; omega
   have HW := Lib.hid (wt_5 h2 h3 h4)
   have t2 : (t.f0 == 2) = false := beq_eq_false_iff_ne.2 h2
   have t3 : (t.f0 == 3) = false := beq_eq_false_iff_ne.2 h3
   have t4 : (t.f0 == 4) = false := beq_eq_false_iff_ne.2 h4
   clear h2 h3 h4
   rw [HW.out] at HS hzs
   clear HW
   have HR1 := Lib.hid (Kd.R_below HR.out (below_allocX wr (Obj.cells #[.int .i64 t.f0, .string t.f1, .int .i64 t.f2, .int .u64 t.f3, .int .i64 t.f4] 39)))
   have HW1 := Lib.hid (below_step HBw.out (below_allocX wr (Obj.cells #[.int .i64 t.f0, .string t.f1, .int .i64 t.f2, .int .u64 t.f3, .int .i64 t.f4] 39)))
   go_wp2_with ((at_builtin; refine Kd.R_append Kd.string (w0 := w) w.heap.size rfl (.tmp 34) (.tmp 36) 69 9 (.string ⟨#[]⟩) 16 rfl Tryd.underlying69 info9 rfl (by decide) (by omega) (.slice A3 i c3) ((l.take i).map wtok) t.f1 [.string t.f1] (fun _ => True) (fun _ => False) rfl (by first | (go_simp; done) | (go_simp; rfl)) rfl (fun _ hk => hk.elim) (fun _ _ => trivial) HR1.out HW1.out HW1.out.size (by rw [hrl]; omega) ?_; intro v1 w5 ho hb5 hg5 hat5; clear hg5 hat5; have HR5 := Lib.hid ho; have HW5 := Lib.hid hb5; clear ho hb5))
   go_roundw
   case rel => exact ⟨i + 1, by omega, by go_num, ⟨by rw [HS.out]; exact HR5.out⟩, ⟨HW5.out⟩⟩
   case measure => simp [intOf]; omega
  ·obtain rfl : i = l.length := by omega
   clear hlt
   obtain ⟨A5, c5, e5, hl5, hC5⟩ := Kd.R_reads HR.out
   rw [hrl] at e5 hl5 hC5
   injection e5 with ea eb ec
   subst ea
   subst ec
   rw [List.take_length] at HR hC5 hrl
   have CJ := join_call' A3 c3 (l.map wtok) (⟨#[32]⟩ : ByteArray) _ l.length hrl hl5 HF.out
   have HCJ := Lib.hid hC5
   clear hl5 hC5 HF
   obtain ⟨J, hJ⟩ : ∃ J, writeT l = J := ⟨_, rfl⟩
   have hJ2 : joinB (l.map wtok) (⟨#[32]⟩ : ByteArray) = J := hJ
   rw [hJ2] at CJ
   have HJ := Lib.hid hJ
   clear hJ hJ2
   go_wp2_with (go_at_call 45; (with_reducible refine (CJ _ HCJ.out).mono ?_); rintro e_ w7 ⟨rfl, hB⟩; have HB7 := Lib.hid (below_step HBw.out hB); clear hB)
   go_ret
   exact ⟨by rw [HJ.out]; rfl, HB7.out⟩
end
section
open Go.RowKit Go.Proofs.YtfgfoofojofnmaaDoorW.PrintWords Go.Proofs.YtfgfoofojofnmaaDoorW.PrintLast Go.Proofs.YtfgfoofojofnmaaDoorW.PrintMore
set_option linter.unusedVariables false
set_option linter.unusedSimpArgs false
open Go.Proofs.YtfgfoofojofnmaaDoor.Hand
theorem wtM_dropD (l : List S44) : ∀ j : Nat, wtM (l.drop j) ≤ wtM l := by
 induction l with
 | nil => intro j; simp
 | cons a l ih =>
  intro j
  cases j with
  | zero => simp
  | succ j => rw [List.drop_succ_cons, wtM_cons]; have := ih j; omega
theorem rd44D (l : List S44) (i : Nat) (h : i < l.length) : rd_T44 l (i : Int) = l[i] := by simp [rd_T44, List.getD_eq_getElem?_getD, List.getElem?_eq_getElem h]
mutual
/-- The tree as the document has it. -/
def nodeT : S44 → S54
 | ⟨a, b, c, d, ks, e⟩ => ⟨a, b, c, d, nodeM ks, e⟩
def nodeM : List S44 → List S54
 | [] => []
 | k :: ks => nodeT k :: nodeM ks
end
theorem nodeT_is (x : S44) : nodeT x = ⟨x.f0, x.f1, x.f2, x.f3, nodeM x.f4, x.f5⟩ := by obtain ⟨a, b, c, d, ks, e⟩ := x; rw [nodeT]
theorem nodeM_map (ks : List S44) : nodeM ks = ks.map nodeT := by
 induction ks with
 | nil => rw [nodeM]; rfl
 | cons k ks ih => rw [nodeM, ih]; rfl
/-- The conversion of the law is nodeT. -/
theorem node_f (n : Nat) : ∀ k : Nat, ∀ x : S44, wt x ≤ n → 2 * wt x ≤ k → wt x ≤ 1000000 → forebearlaw23_Node.f k x.f0 x.f1 x.f2 x.f3 x.f4 x.f5 = some (x.f0, x.f1, x.f2, x.f3, nodeM x.f4, x.f5) := by
 induction n with
 | zero => exact fun k x h => absurd (wt_pos x) (by omega)
 | succ n ih =>
  intro k x hx hk hb
  have e := wt_is x
  have eM := wtM_len x.f4
  have loop : ∀ (d : Nat) (k i : Nat), d = x.f4.length - i → i ≤ x.f4.length → 2 * wtM (x.f4.drop i) + 1 ≤ k →
    forebearlaw23_Node.l0 k (i : Int) x.f0 x.f1 x.f2 x.f3 x.f4 x.f5 x.f0 x.f1 x.f2 x.f3 ((x.f4.take i).map nodeT) x.f5 = some (x.f0, x.f1, x.f2, x.f3, nodeM x.f4, x.f5) := by
   intro d
   induction d with
   | zero =>
    intro k i hd hi2 hk2
    obtain ⟨k, rfl⟩ : ∃ k1, k = k1 + 1 := ⟨k - 1, by omega⟩
    have hi3 : i = x.f4.length := by omega
    rw [forebearlaw23_Node.l0, if_neg (by omega), hi3, List.take_length, nodeM_map]
   | succ d ihd =>
    intro k i hd hi2 hk2
    obtain ⟨k, rfl⟩ : ∃ k1, k = k1 + 1 := ⟨k - 1, by omega⟩
    have hil : i < x.f4.length := by omega
    have hdr := List.drop_eq_getElem_cons hil
    have hmem := wtM_dropD x.f4 i
    rw [hdr, wtM_cons] at hk2 hmem
    have hp := wt_pos (x.f4[i])
    have h9 := ihd k (i + 1) (by omega) (by omega) (by omega)
    have hlen : ((x.f4.take i).map nodeT).length = i := by simp; omega
    rw [forebearlaw23_Node.l0, if_pos (by omega), if_pos (by omega), rd44D _ _ hil, ih k (x.f4[i]) (by omega) (by omega) (by omega), Option.bind_some, if_pos (by omega)]
    have hw : wrap64 ((i : Int) + 1) = ((i + 1 : Nat) : Int) := by unfold wrap64; omega
    rw [hw, ← h9, List.take_succ_eq_append_getElem hil, List.map_append, List.map_cons, List.map_nil, nodeT_is x.f4[i]]
  obtain ⟨k, rfl⟩ : ∃ k1, k = k1 + 1 := ⟨k - 1, by omega⟩
  have h9 := loop x.f4.length k 0 (by omega) (by omega) (by simp only [List.drop_zero]; omega)
  rw [forebearlaw23_Node.f]
  exact h9
theorem rd54 (l : List S44) (i : Nat) (h : i < l.length) : rd_T54 (nodeM l) (i : Int) = nodeT l[i] := by
 rw [nodeM_map]
 simp [rd_T54, List.getD_eq_getElem?_getD, h]
theorem nodeM_len (ks : List S44) : (nodeM ks).length = ks.length := by rw [nodeM_map, List.length_map]
end
section
open Go.RowKit Go.Proofs.YtfgfoofojofnmaaDoorW.PrintWords Go.Proofs.YtfgfoofojofnmaaDoorW.PrintLast Go.Proofs.YtfgfoofojofnmaaDoorW.PrintMore
set_option linter.unusedVariables false
set_option linter.unusedSimpArgs false
open Go.Proofs.YtfgfoofojofnmaaDoor.Hand
mutual
/-- The same tree? Without the places, if p is false. -/
def sameT (p : Bool) : S44 → S44 → Bool
 | ⟨op, s, n, id, ks, at_⟩, y => decide (op = y.f0) && decide (s.toList = y.f1.toList) && decide (n = y.f2) && decide (id = y.f3) && (!p || decide (at_ = y.f5)) && decide (ks.length = y.f4.length) && sameM p ks y.f4
def sameM (p : Bool) : List S44 → List S44 → Bool
 | [], _ => true
 | _ :: _, [] => false
 | k :: ks, m :: ms => sameT p k m && sameM p ks ms
end
theorem sameT_is (p : Bool) (x y : S44) : sameT p x y = (decide (x.f0 = y.f0) && decide (x.f1.toList = y.f1.toList) && decide (x.f2 = y.f2) && decide (x.f3 = y.f3) && (!p || decide (x.f5 = y.f5)) && decide (x.f4.length = y.f4.length) && sameM p x.f4 y.f4) := by obtain ⟨a, b, c, d, ks, e⟩ := x; rw [sameT]
theorem sameM_cons (p : Bool) (k m : S44) (ks ms : List S44) : sameM p (k :: ks) (m :: ms) = (sameT p k m && sameM p ks ms) := by rw [sameM]
theorem sameM_nil (p : Bool) (l : List S44) : sameM p [] l = true := by rw [sameM]
set_option maxHeartbeats 1000000 in
theorem same_f (p : Bool) (n : Nat) : ∀ k : Nat, ∀ x y : S44, wt x ≤ n → 4 * wt x ≤ k → wt x ≤ 1000000 → wt y ≤ 1000000 → forebearref23_Same.f k x.f0 x.f1 x.f2 x.f3 (nodeM x.f4) x.f5 y.f0 y.f1 y.f2 y.f3 (nodeM y.f4) y.f5 p = some (sameT p x y) := by
 induction n with
 | zero => exact fun k x y h => absurd (wt_pos x) (by omega)
 | succ n ih =>
  intro k x y hx hk hb hby
  have e := wt_is x
  have eM := wtM_len x.f4
  have ey := wt_is y
  have eMy := wtM_len y.f4
  have step : ∀ (d : Nat) (k i : Nat), d = x.f4.length - i → i ≤ x.f4.length → x.f4.length = y.f4.length → 4 * wtM (x.f4.drop i) + 1 ≤ k → ∀ y0 y1 y2 y3 y5 z0 z1 z2 z3 z5, forebearref23_Same.l0 k p (i : Int) y0 y1 y2 y3 (nodeM x.f4) y5 z0 z1 z2 z3 (nodeM y.f4) z5 = some (sameM p (x.f4.drop i) (y.f4.drop i)) := by
   intro d
   induction d with
   | zero =>
    intro k i hd hi hle hk2 y0 y1 y2 y3 y5 z0 z1 z2 z3 z5
    obtain ⟨k, rfl⟩ : ∃ k1, k = k1 + 1 := ⟨k - 1, by omega⟩
    have hi2 : i = x.f4.length := by omega
    rw [forebearref23_Same.l0, if_neg (by rw [nodeM_len]; omega), hi2, List.drop_length, sameM_nil]
   | succ d ihd =>
    intro k i hd hi hle hk2 y0 y1 y2 y3 y5 z0 z1 z2 z3 z5
    obtain ⟨k, rfl⟩ : ∃ k1, k = k1 + 1 := ⟨k - 1, by omega⟩
    have hil : i < x.f4.length := by omega
    have hil2 : i < y.f4.length := by omega
    have hdr := List.drop_eq_getElem_cons hil
    have hdr2 := List.drop_eq_getElem_cons hil2
    rw [hdr, wtM_cons] at hk2
    have hp := wt_pos (x.f4[i])
    have hmem : wt (x.f4[i]) + wtM (x.f4.drop (i + 1)) ≤ wtM x.f4 := by
     have h3 := wtM_dropD x.f4 i
     rw [hdr, wtM_cons] at h3
     exact h3
    have hmem2 : wt (y.f4[i]) + wtM (y.f4.drop (i + 1)) ≤ wtM y.f4 := by
     have h3 := wtM_dropD y.f4 i
     rw [hdr2, wtM_cons] at h3
     exact h3
    have hrd := rd54 x.f4 i hil
    have hrd2 := rd54 y.f4 i hil2
    have hc := ih k (x.f4[i]) (y.f4[i]) (by omega) (by omega) (by omega) (by omega)
    rw [forebearref23_Same.l0, if_pos (by rw [nodeM_len]; omega), if_pos (by omega), if_pos (by rw [nodeM_len]; omega), hrd, hrd2, nodeT_is, nodeT_is, hc, Option.bind_some, hdr, hdr2, sameM_cons]
    have hw : wrap64 ((i : Int) + 1) = ((i + 1 : Nat) : Int) := by unfold wrap64; omega
    rw [hw]
    clear hw hc hrd hrd2
    by_cases hs : sameT p x.f4[i] y.f4[i] = true
    ·rw [if_pos hs, ihd k (i + 1) (by omega) (by omega) hle (by omega), hs, Bool.true_and]
    ·rw [if_neg hs, show sameT p x.f4[i] y.f4[i] = false by simpa using hs, Bool.false_and]
  obtain ⟨k, rfl⟩ : ∃ k1, k = k1 + 2 := ⟨k - 2, by omega⟩
  have hj0 : ∀ y0 y1 y2 y3 y5 z0 z1 z2 z3 z5, forebearref23_Same.j0 (k + 1) p true y0 y1 y2 y3 (nodeM x.f4) y5 z0 z1 z2 z3 (nodeM y.f4) z5 = some false := by
   intros
   rw [forebearref23_Same.j0, if_pos rfl]
  have hj1 : ∀ y0 y1 y2 y3 y5 z0 z1 z2 z3 z5, forebearref23_Same.j0 (k + 1) p (((nodeM x.f4).length : Int) != ((nodeM y.f4).length : Int)) y0 y1 y2 y3 (nodeM x.f4) y5 z0 z1 z2 z3 (nodeM y.f4) z5 = some (decide (x.f4.length = y.f4.length) && sameM p x.f4 y.f4) := by
   intro y0 y1 y2 y3 y5 z0 z1 z2 z3 z5
   rw [forebearref23_Same.j0, nodeM_len, nodeM_len]
   by_cases hle : x.f4.length = y.f4.length
   ·have h0 := step x.f4.length k 0 (by omega) (by omega) hle (by simp only [List.drop_zero]; omega) y0 y1 y2 y3 y5 z0 z1 z2 z3 z5
    rw [if_neg (by rw [hle]; simp), show (0 : Int) = ((0 : Nat) : Int) from rfl, h0, List.drop_zero, List.drop_zero, decide_eq_true hle, Bool.true_and]
   ·rw [if_pos (by simp; omega), decide_eq_false hle, Bool.false_and]
  rw [sameT_is, forebearref23_Same.f]
  by_cases h0 : x.f0 = y.f0
  ·rw [if_pos h0]
   by_cases h1 : x.f1.toList = y.f1.toList
   ·rw [if_pos h1]
    by_cases h2 : x.f2 = y.f2
    ·rw [if_pos h2]
     by_cases h3 : x.f3 = y.f3
     ·rw [if_pos h3]
      by_cases hp : p = true
      ·rw [if_pos hp]
       by_cases h5 : x.f5 = y.f5
       ·rw [if_pos h5, hj1]; simp [h0, h1, h2, h3, h5, hp]
       ·rw [if_neg h5, hj0]; simp [h5, hp]
      ·rw [if_neg hp, hj1]; simp [h0, h1, h2, h3, hp]
     ·rw [if_neg h3, hj0]; simp [h3]
    ·rw [if_neg h2, hj0]; simp [h2]
   ·rw [if_neg h1, hj0]; simp [h1]
  ·rw [if_neg h0, hj0]; simp [h0]
theorem node_any (x : S44) (hw : wt x ≤ 1000000) (A : Option Addr) (c : Nat) (hl : x.f4.length ≤ c) (W : World) (hC : Kd.C k44 W A x.f4.length x.f4) :
  Calls Tryd.prog 25 #[.agg #[.int .i64 x.f0, .string x.f1, .int .i64 x.f2, .int .u64 x.f3, .slice A x.f4.length c, .int .i64 x.f5]] W fun e w' => ∃ A' c', e = .returned (.agg #[.int .i64 x.f0, .string x.f1, .int .i64 x.f2, .int .u64 x.f3, .slice A' x.f4.length c', .int .i64 x.f5]) ∧ x.f4.length ≤ c' ∧ Kd.C k54 w' A' x.f4.length (nodeM x.f4) ∧ Below W.heap.size W w' := by
 refine (forebearlaw23_Node.calls (2 * wt x) x.f0 x.f1 x.f2 x.f3 A c x.f4 x.f5 _ _ _ _ _ _ W hC hl (node_f (wt x) _ x (Nat.le_refl _) (Nat.le_refl _) hw)).mono ?_
 rintro e w' ⟨v, rfl, hR, hB⟩
 obtain ⟨A', c', rfl, hl', hC'⟩ := Kd.R_reads hR
 rw [nodeM_len] at hl' hC' ⊢
 exact ⟨A', c', rfl, hl', hC', hB⟩
theorem same_any (p : Bool) (x y : S44) (hw : wt x ≤ 1000000) (hwy : wt y ≤ 1000000) (A A' : Option Addr) (c c' : Nat) (hl : x.f4.length ≤ c) (hl' : y.f4.length ≤ c') (W : World) (hC : Kd.C k54 W A x.f4.length (nodeM x.f4)) (hC' : Kd.C k54 W A' y.f4.length (nodeM y.f4)) :
  Calls Tryd.prog 28 #[.agg #[.int .i64 x.f0, .string x.f1, .int .i64 x.f2, .int .u64 x.f3, .slice A x.f4.length c, .int .i64 x.f5], .agg #[.int .i64 y.f0, .string y.f1, .int .i64 y.f2, .int .u64 y.f3, .slice A' y.f4.length c', .int .i64 y.f5], .bool p] W fun e w' => e = .returned (.bool (sameT p x y)) ∧ Below W.heap.size W w' := by
 have hn := nodeM_len x.f4
 have hn' := nodeM_len y.f4
 have h := forebearref23_Same.calls (4 * wt x) x.f0 x.f1 x.f2 x.f3 A c (nodeM x.f4) x.f5 y.f0 y.f1 y.f2 y.f3 A' c' (nodeM y.f4) y.f5 p _ W (by rw [hn]; exact hC) (by rw [hn]; exact hl) (by rw [hn']; exact hC') (by rw [hn']; exact hl') (same_f p (wt x) _ x y (Nat.le_refl _) (Nat.le_refl _) hw hwy)
 rw [hn, hn'] at h
 exact h
end
section
open Go.RowKit Go.Proofs.YtfgfoofojofnmaaDoorW.PrintWords Go.Proofs.YtfgfoofojofnmaaDoorW.PrintLast Go.Proofs.YtfgfoofojofnmaaDoorW.PrintMore
set_option linter.unusedVariables false
set_option linter.unusedSimpArgs false
open Go.Proofs.YtfgfoofojofnmaaDoor.Hand
theorem writeT_one (t : S39) : writeT [t] = wtok t := by
 apply ByteArray.ext
 apply Array.toList_inj.1
 rw [writeT_list]
 exact Lib.join_one _ _
theorem show_env : ShowEnv GW (fun n => 0 ≤ n ∧ n < 1000000000) (fun id => 0 ≤ id ∧ id < 18446744073709551616) where
 below := gw_below
 itoa := fun W n hg h => itoa_any W n hg h.1 h.2
 itoaS := fun n h => Nat.le_trans (itoa_size n h.1 h.2) (by decide)
 hash := fun W id ad hg h hC => by
  have hw := write_any [(⟨4, ⟨#[]⟩, 0, id, 0⟩ : S39)] (fun t ht => by
   rw [List.mem_singleton] at ht
   rw [ht]
   right; right; right; left
   exact ⟨rfl, rfl, rfl, h.1, h.2⟩) (by simp) (some ad) 1 W hg hC (by simp)
  rw [writeT_one] at hw
  exact hw
theorem join_sum : ∀ ks : List S44, (Lib.join (ks.map fun k => kidL k 1) [44, 32]).length ≤ (ks.map fun k => (showT k).size + 4).sum := by
 have kl : ∀ k : S44, (kidL k 1).length ≤ (showT k).size + 2 := by
  intro k
  have e : (showT k).data.toList.length = (showT k).size := by simp
  unfold kidL
  split
  ·simp only [List.length_cons, List.length_append, List.length_nil]; omega
  ·omega
 have go : ∀ ks : List S44, ∀ k, (Lib.join (kidL k 1 :: ks.map fun k => kidL k 1) [44, 32]).length ≤ ((k :: ks).map fun k => (showT k).size + 4).sum := by
  intro ks
  induction ks with
  | nil => intro k; rw [List.map_nil, Lib.join_one]; have := kl k; simp only [List.map_cons, List.map_nil, List.sum_cons, List.sum_nil]; omega
  | cons k2 ks ih =>
   intro k
   rw [List.map_cons, join_two]
   have h1 := kl k
   have h2 := ih k2
   simp only [List.map_cons, List.sum_cons] at h2 ⊢
   simp only [List.length_append, List.length_cons, List.length_nil]
   omega
 intro ks
 cases ks with
 | nil => rw [List.map_nil, Lib.join_nil]; simp
 | cons k ks => exact go ks k
theorem wtM_sum (ks : List S44) (h : ∀ k ∈ ks, (showT k).size + 100 ≤ 2000 * wt k) : (ks.map fun k => (showT k).size + 4).sum ≤ 2000 * wtM ks := by
 induction ks with
 | nil => simp
 | cons k ks ih =>
  have h1 := h k (by simp)
  have h2 := ih (fun x hx => h x (List.mem_cons_of_mem _ hx))
  simp only [List.map_cons, List.sum_cons]
  rw [wtM_cons]
  omega
theorem name_size {s : ByteArray} (h : NameOk s) : s.size ≤ 16 := by
 obtain ⟨c, r, h1, _, _, h4⟩ := h
 have : s.data.toList.length = s.size := by simp
 rw [h1] at this
 simp only [List.length_cons] at this
 omega
theorem wf_size {x : S44} (h : Wf x) : (showT x).size + 100 ≤ 2000 * wt x := by
 have kb : ∀ (ks : List S44) (i : Nat) (w : Int) (b : Nat) (k : S44), ks[i]? = some k → (showT k).size ≤ b → (kidAt (showM ks) i w).size ≤ b + 2 := by
  intro ks i w b k hk hb
  have hi := (List.getElem?_eq_some_iff.1 hk)
  obtain ⟨hi, e⟩ := hi
  rw [kidAt_in ks i hi w, e]
  split
  ·simp only [ByteArray.size_append]; show 1 + _ + 1 ≤ _; omega
  ·omega
 induction h with
 | name s p h => rw [wt_mk, wtM_nil]; have := name_size h; show s.size + 100 ≤ _; omega
 | hash id p h0 h1 => rw [wt_mk, wtM_nil]; show (hashT id).size + 100 ≤ _; rw [hash_is, ByteArray.size_append, hexT_size]; decide
 | num n p h0 h1 => rw [wt_mk, wtM_nil]; show (itoaT n).size + 100 ≤ _; have := itoa_size n h0 h1; omega
 | text s p h => rw [wt_mk, wtM_nil]; show (((⟨#[39]⟩ : ByteArray) ++ s) ++ (⟨#[39]⟩ : ByteArray)).size + 100 ≤ _; have := h.2.2; simp only [ByteArray.size_append]; show 1 + s.size + 1 + 100 ≤ _; omega
 | call s ks p hs _ ih =>
  have e : (showT ⟨5, s, 0, 0, ks, p⟩).size = (showT ⟨5, s, 0, 0, ks, p⟩).data.toList.length := by simp
  rw [e, call_list, wt_mk]
  have h1 := join_sum ks
  have h2 := wtM_sum ks ih
  have h3 := name_size hs
  have h4 : s.data.toList.length = s.size := by simp
  simp only [List.length_append, List.length_cons, List.length_nil]
  omega
 | two op a b p ho _ _ iha ihb =>
  have k0 := fun w => kb [a, b] 0 w _ a rfl (Nat.le_refl _)
  have k1 := fun w => kb [a, b] 1 w _ b rfl (Nat.le_refl _)
  have e : showT (nd op [a, b] p) = showB op ⟨#[]⟩ 0 0 (showM [a, b]) := by unfold nd; rw [showT]
  rw [e, wt_nd2]
  rcases ho with rfl | rfl | rfl | rfl | rfl
  ·show ((kidAt (showM [a, b]) 0 1 ++ (⟨#[32, 124, 32]⟩ : ByteArray)) ++ kidAt (showM [a, b]) 1 2).size + 100 ≤ _
   have := k0 1; have := k1 2; simp only [ByteArray.size_append]; show _ + 3 + _ + 100 ≤ _; omega
  ·show ((kidAt (showM [a, b]) 0 1 ++ (⟨#[32, 45, 32]⟩ : ByteArray)) ++ kidAt (showM [a, b]) 1 2).size + 100 ≤ _
   have := k0 1; have := k1 2; simp only [ByteArray.size_append]; show _ + 3 + _ + 100 ≤ _; omega
  ·show ((kidAt (showM [a, b]) 0 2 ++ (⟨#[32, 38, 32]⟩ : ByteArray)) ++ kidAt (showM [a, b]) 1 3).size + 100 ≤ _
   have := k0 2; have := k1 3; simp only [ByteArray.size_append]; show _ + 3 + _ + 100 ≤ _; omega
  ·show ((kidAt (showM [a, b]) 0 4 ++ (⟨#[46, 46]⟩ : ByteArray)) ++ kidAt (showM [a, b]) 1 4).size + 100 ≤ _
   have := k0 4; have := k1 4; simp only [ByteArray.size_append]; show _ + 2 + _ + 100 ≤ _; omega
  ·show ((kidAt (showM [a, b]) 0 4 ++ (⟨#[58, 58]⟩ : ByteArray)) ++ kidAt (showM [a, b]) 1 4).size + 100 ≤ _
   have := k0 4; have := k1 4; simp only [ByteArray.size_append]; show _ + 2 + _ + 100 ≤ _; omega
 | not a p _ ih =>
  have k0 := fun w => kb [a] 0 w _ a rfl (Nat.le_refl _)
  have e : showT (nd 11 [a] p) = (⟨#[33]⟩ : ByteArray) ++ kidAt (showM [a]) 0 4 := by unfold nd; rw [showT]; rfl
  rw [e, wt_nd1]
  have := k0 4; simp only [ByteArray.size_append]; show 1 + _ + 100 ≤ _; omega
 | up n a p h0 h9 _ ih =>
  have k0 := fun w => kb [a] 0 w _ a rfl (Nat.le_refl _)
  have h5 := k0 5
  rw [showT, wt_mk, wtM_cons, wtM_nil]
  by_cases hn : n = 0
  ·have e : showB 12 ⟨#[]⟩ n 0 (showM [a]) = kidAt (showM [a]) 0 5 ++ (⟨#[94]⟩ : ByteArray) := by
    show (if n = 0 then _ else _) = _
    rw [if_pos hn]
   rw [e]; simp only [ByteArray.size_append]; show _ + 1 + 100 ≤ _; omega
  ·have e : showB 12 ⟨#[]⟩ n 0 (showM [a]) = (kidAt (showM [a]) 0 5 ++ (⟨#[94]⟩ : ByteArray)) ++ itoaT n := by
    show (if n = 0 then _ else _) = _
    rw [if_neg hn]
   have := itoa_size n h0 h9
   rw [e]; simp only [ByteArray.size_append]; show _ + 1 + _ + 100 ≤ _; omega
theorem okM_all {okN okI : Int → Prop} {b : Nat} : ∀ {ks : List S44}, (∀ k ∈ ks, okT okN okI b k) → okM okN okI b ks
 | [], _ => by rw [okM]; trivial
 | k :: ks, h => by rw [okM]; exact ⟨h k (by simp), okM_all (fun x hx => h x (List.mem_cons_of_mem _ hx))⟩
theorem wt_mem {ks : List S44} {k : S44} (h : k ∈ ks) : wt k ≤ wtM ks := by
 induction ks with
 | nil => simp at h
 | cons a ks ih =>
  rw [wtM_cons]
  rcases List.mem_cons.1 h with rfl | h
  ·omega
  ·have := ih h; omega
theorem wf_ok {x : S44} (h : Wf x) (hw : wt x ≤ 100000) : okT (fun n => 0 ≤ n ∧ n < 1000000000) (fun id => 0 ≤ id ∧ id < 18446744073709551616) 1000000000 x := by
 have sz : ∀ {x : S44}, Wf x → wt x ≤ 100000 → (showT x).size ≤ 1000000000 := fun {x} h hw => by have := wf_size h; omega
 have z : ((⟨#[]⟩ : ByteArray)).size ≤ 1048576 := by decide
 induction h with
 | name s p h => rw [okT_is]; exact ⟨fun e => absurd e (by show ¬ (1 : Int) = 2; decide), fun e => absurd e (by show ¬ ((1 : Int) = 3 ∨ ((1 : Int) = 12 ∧ _)); simp), Nat.le_trans (name_size h) (by decide), sz (Wf.name s p h) hw, by rw [okM]; trivial⟩
 | hash id p h0 h1 => rw [okT_is]; exact ⟨fun _ => ⟨h0, h1⟩, fun e => absurd e (by show ¬ ((2 : Int) = 3 ∨ ((2 : Int) = 12 ∧ _)); simp), z, sz (Wf.hash id p h0 h1) hw, by rw [okM]; trivial⟩
 | num n p h0 h1 => rw [okT_is]; exact ⟨fun e => absurd e (by show ¬ (3 : Int) = 2; decide), fun _ => ⟨h0, h1⟩, z, sz (Wf.num n p h0 h1) hw, by rw [okM]; trivial⟩
 | text s p h => rw [okT_is]; exact ⟨fun e => absurd e (by show ¬ (4 : Int) = 2; decide), fun e => absurd e (by show ¬ ((4 : Int) = 3 ∨ ((4 : Int) = 12 ∧ _)); simp), Nat.le_trans h.2.2 (by decide), sz (Wf.text s p h) hw, by rw [okM]; trivial⟩
 | call s ks p hs hk ih =>
  have h0 := sz (Wf.call s ks p hs hk) hw
  rw [okT_is]
  rw [wt_mk] at hw
  exact ⟨fun e => absurd e (by show ¬ (5 : Int) = 2; decide), fun e => absurd e (by show ¬ ((5 : Int) = 3 ∨ ((5 : Int) = 12 ∧ _)); simp), Nat.le_trans (name_size hs) (by decide), h0, okM_all (fun k hk => ih k hk (by have : wt k ≤ wtM ks := wt_mem hk; omega))⟩
 | two op a b p ho ha hb iha ihb =>
  have h0 := sz (Wf.two op a b p ho ha hb) hw
  rw [wt_nd2] at hw
  rw [okT_is]
  refine ⟨fun e => absurd e (by show ¬ op = 2; omega), fun e => absurd e (by show ¬ (op = 3 ∨ (op = 12 ∧ _)); omega), z, h0, ?_⟩
  exact okM_all (fun k hk => by
   have hk : k = a ∨ k = b := by simpa [nd] using hk
   rcases hk with rfl | rfl
   ·exact iha (by omega)
   ·exact ihb (by omega))
 | not a p ha ih =>
  have h0 := sz (Wf.not a p ha) hw
  rw [wt_nd1] at hw
  rw [okT_is]
  refine ⟨fun e => absurd e (by show ¬ (11 : Int) = 2; decide), fun e => absurd e (by show ¬ ((11 : Int) = 3 ∨ ((11 : Int) = 12 ∧ _)); simp), z, h0, ?_⟩
  exact okM_all (fun k hk => by
   have hk : k = a := by simpa [nd] using hk
   rw [hk]; exact ih (by omega))
 | up n a p h1 h9 ha ih =>
  have h0 := sz (Wf.up n a p h1 h9 ha) hw
  rw [wt_mk, wtM_cons, wtM_nil] at hw
  rw [okT_is]
  refine ⟨fun e => absurd e (by show ¬ (12 : Int) = 2; decide), fun _ => ⟨h1, h9⟩, z, h0, ?_⟩
  exact okM_all (fun k hk => by
   have hk : k = a := by simpa using hk
   rw [hk]; exact ih (by omega))
/-- parse.Show of such a tree. -/
theorem show_any {x : S44} (h : Wf x) (hw : wt x ≤ 100000) (A : Option Addr) (c : Nat) (w : World) (hg : GW w) (hC : Kd.C k44 w A x.f4.length x.f4) (hc : x.f4.length ≤ c) :
  Calls Tryd.prog 29 #[.agg #[.int .i64 x.f0, .string x.f1, .int .i64 x.f2, .int .u64 x.f3, .slice A x.f4.length c, .int .i64 x.f5]] w fun e w' => e = .returned (.string (showT x)) ∧ Below w.heap.size w w' :=
 show_walk show_env 1000000000 (Nat.le_refl _) 100000 (by decide) x A c w hw hg (wf_ok h hw) hC hc
/-- Trees alike but for their places. -/
theorem same_eN (n : Nat) : ∀ x y : S44, wt x ≤ n → eN x = eN y → sameT false x y = true := by
 induction n with
 | zero => exact fun x y h => absurd (wt_pos x) (by omega)
 | succ n ih =>
  intro x y hx he
  obtain ⟨a, b, c, d, ks, e⟩ := x
  obtain ⟨a', b', c', d', ks', e'⟩ := y
  rw [wt_mk] at hx
  rw [eN_mk, eN_mk] at he
  injection he with h1 h2 h3 h4 h5 h6
  rw [mpM_map, mpM_map] at h5
  have hm : ∀ ks ks' : List S44, wtM ks ≤ n → ks.map (mp fun _ => 0) = ks'.map (mp fun _ => 0) → ks.length = ks'.length ∧ sameM false ks ks' = true := by
   intro ks
   induction ks with
   | nil =>
    intro ks' _ he
    have : ks' = [] := by simpa using he.symm
    rw [this, sameM_nil]; exact ⟨rfl, rfl⟩
   | cons k ks ihk =>
    intro ks' hw he
    cases ks' with
    | nil => simp at he
    | cons k' ks' =>
     rw [wtM_cons] at hw
     rw [List.map_cons, List.map_cons] at he
     injection he with e1 e2
     obtain ⟨i1, i2⟩ := ihk ks' (by omega) e2
     rw [sameM_cons, ih k k' (by omega) e1, i2]
     exact ⟨by simp [i1], rfl⟩
  obtain ⟨i1, i2⟩ := hm ks ks' (by omega) h5
  rw [sameT_is]
  simp [h1, h2, h3, h4, i1, i2]
theorem same_of {x y : S44} (h : eN x = eN y) : sameT false x y = true := same_eN (wt x) x y (Nat.le_refl _) h
end
section
open Go.RowKit Go.Proofs.YtfgfoofojofnmaaDoorW.PrintWords Go.Proofs.YtfgfoofojofnmaaDoorW.PrintLast Go.Proofs.YtfgfoofojofnmaaDoorW.PrintMore
set_option linter.unusedVariables false
set_option linter.unusedSimpArgs false
open Go.Proofs.YtfgfoofojofnmaaDoor.Hand
/-- At other places a tree comes to the same. -/
theorem check_mp (g : Int → Int) (n : Nat) : (∀ x, wt x ≤ n → (checkT (mp g x)).1 = (checkT x).1 ∧ (checkT (mp g x)).2.2 = (checkT x).2.2) := by
 induction n with
 | zero => exact fun x h => absurd (wt_pos x) (by omega)
 | succ n ih =>
  intro x hx
  have e := wt_is x
  have loop : ∀ (tk : List Int) (is : Int) (ks : List S44) (i : Nat), wtM ks ≤ n → (checkM tk is i (mpM g ks)).1 = (checkM tk is i ks).1 ∧ (checkM tk is i (mpM g ks)).2.2 = (checkM tk is i ks).2.2 := by
   intro tk is ks
   induction ks with
   | nil => intro i h; rw [mpM_nil]; exact ⟨rfl, rfl⟩
   | cons k ks ihk =>
    intro i h
    rw [wtM_cons] at h
    have hk := ih k (by omega)
    have hp := wt_pos k
    rw [mpM_cons, checkM_cons, checkM_cons, hk.1, hk.2]
    by_cases hc : (checkT k).2.2 = 0
    ·rw [if_pos hc, if_pos hc]
     by_cases ht : (checkT k).1 = atT tk i
     ·rw [if_pos ht, if_pos ht]; exact ihk _ (by omega)
     ·rw [if_neg ht, if_neg ht]; exact ⟨rfl, rfl⟩
    ·rw [if_neg hc, if_neg hc]; exact ⟨rfl, rfl⟩
  obtain ⟨a, b, c, d, ks, p⟩ := x
  have hl : (mpM g ks).length = ks.length := by
   clear hx e
   induction ks with
   | nil => rw [mpM_nil]
   | cons k ks ihk => rw [mpM_cons, List.length_cons, List.length_cons, ihk]
  have hw : wtM ks ≤ n := by rw [wt_mk] at hx; omega
  rw [mp_mk, checkT_is, checkT_is]
  simp only [hl]
  by_cases h12 : a = 1 ∨ a = 2
  ·rw [if_pos h12, if_pos h12]; exact ⟨rfl, rfl⟩
  ·rw [if_neg h12, if_neg h12]
   by_cases h3 : a = 3
   ·rw [if_pos h3, if_pos h3]; exact ⟨rfl, rfl⟩
   ·rw [if_neg h3, if_neg h3]
    by_cases h4 : a = 4
    ·rw [if_pos h4, if_pos h4]; exact ⟨rfl, rfl⟩
    ·rw [if_neg h4, if_neg h4]
     by_cases h5 : a = 5
     ·rw [if_pos h5, if_pos h5]
      by_cases hf : (faceC (nameC b.toList)).2.2.2.2 = true
      ·rw [if_pos hf, if_pos hf]
       by_cases hlo : (ks.length : Int) < (faceC (nameC b.toList)).1
       ·rw [if_pos hlo, if_pos hlo]; exact ⟨rfl, rfl⟩
       ·rw [if_neg hlo, if_neg hlo]
        by_cases hhi : (faceC (nameC b.toList)).2.1 < (ks.length : Int)
        ·rw [if_pos hhi, if_pos hhi]; exact ⟨rfl, rfl⟩
        ·rw [if_neg hhi, if_neg hhi]; exact loop _ _ _ _ hw
      ·rw [if_neg hf, if_neg hf]; exact ⟨rfl, rfl⟩
     ·rw [if_neg h5, if_neg h5]; exact loop _ _ _ _ hw
set_option maxRecDepth 100000 in
theorem awake24_true : forebearlaw24_awake.f = some true := by decide +kernel
theorem parse_any (a : ByteArray) (w : World) : Calls Tryd.prog 22 #[.string a] w fun e w' => ∃ A c, e = .returned (.tuple #[.agg #[.int .i64 (parseT a).1.f0, .string (parseT a).1.f1, .int .i64 (parseT a).1.f2, .int .u64 (parseT a).1.f3, .slice A (parseT a).1.f4.length c, .int .i64 (parseT a).1.f5], .int .i64 (parseT a).2.1, .int .i64 (parseT a).2.2]) ∧ (parseT a).1.f4.length ≤ c ∧ Kd.C k44 w' A (parseT a).1.f4.length (parseT a).1.f4 ∧ Below w.heap.size w w' := by
 refine (parse_Parse.calls a _ _ _ _ _ _ _ _ w rfl).mono ?_
 rintro e w' ⟨v, rfl, hR, hB⟩
 obtain ⟨A, c, rfl, hl, hC⟩ := Kd.R_reads hR
 exact ⟨A, c, rfl, hl, hC, hB⟩
theorem parse_few (a : ByteArray) : wt (parseT a).1 ≤ 2049 := by
 have hz : wt z44 ≤ 2049 := by rw [wt_z]; decide
 unfold parseT
 split
 ·split
  ·exact hz
  ·split
   ·exact hz
   ·exact readS_wt a
 ·exact hz
end
section
open Go.RowKit Go.Proofs.YtfgfoofojofnmaaDoorW.PrintWords Go.Proofs.YtfgfoofojofnmaaDoorW.PrintLast Go.Proofs.YtfgfoofojofnmaaDoorW.PrintMore
set_option linter.unusedVariables false
set_option linter.unusedSimpArgs false
open Go.Proofs.YtfgfoofojofnmaaDoor.Hand
theorem below_allocS (w : World) (o : Obj) : Below w.heap.size w (w.alloc o) := below_alloc (Below.refl _ _) o
theorem below_undrewP {w w' : World} (h : Below w.drew.heap.size w.drew w') : Below w.heap.size w w' := below_step (below_drew1 (Below.refl _ _)) h
theorem cell_drewP {w : World} {a : Addr} {v : Value} (h : w.cell? a = some v) : w.drew.cell? a = some v := h
theorem check_of {x y : S44} (h : eN x = eN y) : (checkT x).1 = (checkT y).1 ∧ (checkT x).2.2 = (checkT y).2.2 := by
 have h1 := check_mp (fun _ => 0) (wt x) x (Nat.le_refl _)
 have h2 := check_mp (fun _ => 0) (wt y) y (Nat.le_refl _)
 have e : mp (fun _ => 0) x = mp (fun _ => 0) y := h
 rw [e] at h1
 exact ⟨h1.1.symm.trans h2.1, h1.2.symm.trans h2.2⟩
set_option maxHeartbeats 8000000 in
set_option maxRecDepth 100000 in
theorem checkShown_walk (a0 : ByteArray) (w : World) (w0 : a0.size ≤ 140737488351232) (hg : GW w) :
  Calls Tryd.prog 12 #[.string a0] w fun e w' => e = .returned (.bool true) ∧ Below w.heap.size w w' := by
 have HG := Lib.hid hg
 clear hg
 have CAW := fun W => forebearlaw24_awake.calls true W awake24_true
 obtain ⟨⟨n, pn, en⟩, hn⟩ : ∃ N, parseT a0 = N := ⟨_, rfl⟩
 have P0 : ∀ W, Calls Tryd.prog 22 #[.string a0] W (fun e_ w_ => ∃ A c, e_ = .returned (.tuple #[.agg #[.int .i64 n.f0, .string n.f1, .int .i64 n.f2, .int .u64 n.f3, .slice A n.f4.length c, .int .i64 n.f5], .int .i64 pn, .int .i64 en]) ∧ n.f4.length ≤ c ∧ Kd.C k44 w_ A n.f4.length n.f4 ∧ Below W.heap.size W w_) := fun W => by have := parse_any a0 W; rw [hn] at this; exact this
 have W1 : Hid (wt n ≤ 2049) := Lib.hid (by have := parse_few a0; rw [hn] at this; exact this)
 have HOK : Hid (en = 0 → Wf n ∧ ((showT n).size ≤ 1024 → ∃ m, parseT (showT n) = (m, 0, 0) ∧ eN m = eN n)) := Lib.hid (fun e1 => by
  have f1 : (parseT a0).2.2 = 0 := by rw [hn]; exact e1
  have r1 := parse_wf a0 f1
  have r2 := parse_show a0 f1
  rw [hn] at r1 r2
  exact ⟨r1, r2⟩)
 clear hn
 go_enter Tryd.func12, Tryd.ntmps12
 go_upto_region 3 with (go_at_call 21; (with_reducible refine (CAW _).mono ?_); rintro e v0 ⟨rfl, hB⟩; have HB0 := Lib.hid hB; clear hB)
 clear CAW
 go_upto_region 4 with (go_at_call 22; (with_reducible refine (P0 _).mono ?_); rintro e v1 ⟨A1, c1, rfl, hl, hC, hB⟩; have HC1 := Lib.hid hC; have HL1 := Lib.hid hl; have HV1 := Lib.hid hB; clear hl hC hB)
 have HN1 := Lib.hid (blk_new v1 (Obj.cells #[.int .i64 n.f0, .string n.f1, .int .i64 n.f2, .int .u64 n.f3, .slice A1 n.f4.length c1, .int .i64 n.f5] 44))
 have HD1 := Lib.hid (Kd.C_below HC1.out (below_allocS v1 (Obj.cells #[.int .i64 n.f0, .string n.f1, .int .i64 n.f2, .int .u64 n.f3, .slice A1 n.f4.length c1, .int .i64 n.f5] 44)))
 have HZ1 : Hid (Below v0.heap.size v0 (v1.alloc (Obj.cells #[.int .i64 n.f0, .string n.f1, .int .i64 n.f2, .int .u64 n.f3, .slice A1 n.f4.length c1, .int .i64 n.f5] 44))) := Lib.hid (below_alloc HV1.out _)
 have HB1 := Lib.hid (below_step HB0.out HZ1.out)
 clear HC1 HV1 HZ1
 generalize v1.alloc (Obj.cells #[.int .i64 n.f0, .string n.f1, .int .i64 n.f2, .int .u64 n.f3, .slice A1 n.f4.length c1, .int .i64 n.f5] 44) = w4 at *
 generalize v1.heap.size = b5 at *
 clear P0
 have KB := HB1
 clear HB0 HB1
 have tc0 : w4.cell? ⟨b5, 0, none⟩ = some (.int .i64 n.f0) := (blk_cell HN1.out 0).trans rfl
 have tc1 : w4.cell? ⟨b5, 1, none⟩ = some (.string n.f1) := (blk_cell HN1.out 1).trans rfl
 have tc2 : w4.cell? ⟨b5, 2, none⟩ = some (.int .i64 n.f2) := (blk_cell HN1.out 2).trans rfl
 have tc3 : w4.cell? ⟨b5, 3, none⟩ = some (.int .u64 n.f3) := (blk_cell HN1.out 3).trans rfl
 have tc4 : w4.cell? ⟨b5, 4, none⟩ = some (.slice A1 n.f4.length c1) := (blk_cell HN1.out 4).trans rfl
 have tc5 : w4.cell? ⟨b5, 5, none⟩ = some (.int .i64 n.f5) := (blk_cell HN1.out 5).trans rfl
 have WN := Lib.hid (Nat.le_trans W1.out (by decide : 2049 ≤ 1000000))
 by_cases h1 : en = 0
 ·have q1 : (en != 0) = false := by rw [h1]; rfl
  obtain ⟨hwf, hok⟩ := HOK.out h1
  have CS : ∀ W, GW W → Kd.C k44 W A1 n.f4.length n.f4 → Calls Tryd.prog 29 #[.agg #[.int .i64 n.f0, .string n.f1, .int .i64 n.f2, .int .u64 n.f3, .slice A1 n.f4.length c1, .int .i64 n.f5]] W (fun e_ w_ => e_ = .returned (.string (showT n)) ∧ Below W.heap.size W w_) := fun W hg hC => show_any hwf (Nat.le_trans W1.out (by decide)) A1 c1 W hg hC HL1.out
  have HSZ : (showT n).size ≤ 4098000 := by have := wf_size hwf; have := W1.out; omega
  have HTN : Hid (∀ m, eN m = eN n → (checkT m).1 = (checkT n).1 ∧ (checkT m).2.2 = (checkT n).2.2 ∧ sameT false n m = true) := Lib.hid (fun m e => ⟨(check_of e).1, (check_of e).2, same_of e.symm⟩)
  have HPL : Hid (1024 < (showT n).size → parseT (showT n) = (z44, 0, 4)) := Lib.hid (parse_long _)
  have HOK2 := Lib.hid hok
  clear HOK hwf hok h1
  obtain ⟨T, hT⟩ : ∃ T, showT n = T := ⟨_, rfl⟩
  rw [hT] at CS HSZ HPL HOK2
  clear hT
  by_cases h2 : T.size ≤ 1024
  ·obtain ⟨m, hm, em⟩ := HOK2.out h2
   obtain ⟨i1, i2, i3⟩ := HTN.out m em
   have P1 : ∀ W, Calls Tryd.prog 22 #[.string T] W (fun e_ w_ => ∃ A c, e_ = .returned (.tuple #[.agg #[.int .i64 m.f0, .string m.f1, .int .i64 m.f2, .int .u64 m.f3, .slice A m.f4.length c, .int .i64 m.f5], .int .i64 0, .int .i64 0]) ∧ m.f4.length ≤ c ∧ Kd.C k44 w_ A m.f4.length m.f4 ∧ Below W.heap.size W w_) := fun W => by have := parse_any T W; rw [hm] at this; exact this
   have W2 : Hid (wt m ≤ 2049) := Lib.hid (by have := parse_few T; rw [hm] at this; exact this)
   have WM := Lib.hid (Nat.le_trans W2.out (by decide : 2049 ≤ 1000000))
   have HS : Hid (sameT false n m = true) := Lib.hid i3
   obtain ⟨⟨t, pt, hc⟩, hcn⟩ : ∃ N, checkT n = N := ⟨_, rfl⟩
   obtain ⟨⟨u, pu, ic⟩, hcm⟩ : ∃ N, checkT m = N := ⟨_, rfl⟩
   rw [hcn, hcm] at i1 i2
   obtain rfl : u = t := i1
   obtain rfl : ic = hc := i2
   have CK1 : ∀ W, Kd.C k44 W A1 n.f4.length n.f4 → Calls Tryd.prog 23 #[.agg #[.int .i64 n.f0, .string n.f1, .int .i64 n.f2, .int .u64 n.f3, .slice A1 n.f4.length c1, .int .i64 n.f5]] W fun e_ w_ => e_ = .returned (.tuple #[.int .i64 u, .int .i64 pt, .int .i64 ic]) ∧ Below W.heap.size W w_ := fun W hC => by have := check_walk _ n A1 c1 W (Nat.le_refl _) WN.out hC HL1.out; rw [hcn] at this; exact this
   have CK2 : ∀ W A2 c2, m.f4.length ≤ c2 → Kd.C k44 W A2 m.f4.length m.f4 → Calls Tryd.prog 23 #[.agg #[.int .i64 m.f0, .string m.f1, .int .i64 m.f2, .int .u64 m.f3, .slice A2 m.f4.length c2, .int .i64 m.f5]] W fun e_ w_ => e_ = .returned (.tuple #[.int .i64 u, .int .i64 pu, .int .i64 ic]) ∧ Below W.heap.size W w_ := fun W A2 c2 hl hC => by have := check_walk _ m A2 c2 W (Nat.le_refl _) WM.out hC hl; rw [hcm] at this; exact this
   clear HOK2 HTN HPL hm em h2 i3 hcn hcm
   go_upto_region 7 with (first | (go_at_call 29; (with_reducible refine (CS _ ?_ ?_).mono ?_); exact gw_below _ _ KB.out HG.out; exact HD1.out; rintro e_ k1 ⟨rfl, hB⟩; (try replace hB := below_undrewP hB); replace KB := Lib.hid (below_step KB.out hB); replace HN1 := Lib.hid (blk_belowU hB HN1.out); replace HD1 := Lib.hid (Kd.C_below HD1.out hB); replace tc0 : k1.cell? ⟨b5, 0, none⟩ = some (.int .i64 n.f0) := (blk_cell HN1.out 0).trans rfl; replace tc1 : k1.cell? ⟨b5, 1, none⟩ = some (.string n.f1) := (blk_cell HN1.out 1).trans rfl; replace tc2 : k1.cell? ⟨b5, 2, none⟩ = some (.int .i64 n.f2) := (blk_cell HN1.out 2).trans rfl; replace tc3 : k1.cell? ⟨b5, 3, none⟩ = some (.int .u64 n.f3) := (blk_cell HN1.out 3).trans rfl; replace tc4 : k1.cell? ⟨b5, 4, none⟩ = some (.slice A1 n.f4.length c1) := (blk_cell HN1.out 4).trans rfl; replace tc5 : k1.cell? ⟨b5, 5, none⟩ = some (.int .i64 n.f5) := (blk_cell HN1.out 5).trans rfl; clear hB) | (go_at_call 22; (with_reducible refine (P1 _).mono ?_); rintro e v2 ⟨A2, c2, rfl, hl, hC, hB⟩; have HC2 := Lib.hid hC; have HL2 := Lib.hid hl; have HV2 := Lib.hid hB; clear hl hC hB))
   have HB1 := KB
   have HN2 := Lib.hid (blk_new v2 (Obj.cells #[.int .i64 m.f0, .string m.f1, .int .i64 m.f2, .int .u64 m.f3, .slice A2 m.f4.length c2, .int .i64 m.f5] 44))
   have HD2 := Lib.hid (Kd.C_below HC2.out (below_allocS v2 (Obj.cells #[.int .i64 m.f0, .string m.f1, .int .i64 m.f2, .int .u64 m.f3, .slice A2 m.f4.length c2, .int .i64 m.f5] 44)))
   have HZ2 : Hid (Below k1.heap.size k1 (v2.alloc (Obj.cells #[.int .i64 m.f0, .string m.f1, .int .i64 m.f2, .int .u64 m.f3, .slice A2 m.f4.length c2, .int .i64 m.f5] 44))) := Lib.hid (below_alloc HV2.out _)
   have HB2 := Lib.hid (below_step HB1.out HZ2.out)
   have HN1 := Lib.hid (blk_belowU HZ2.out HN1.out)
   have HD1 := Lib.hid (Kd.C_below HD1.out HZ2.out)
   clear HC2 HV2 HZ2
   generalize v2.alloc (Obj.cells #[.int .i64 m.f0, .string m.f1, .int .i64 m.f2, .int .u64 m.f3, .slice A2 m.f4.length c2, .int .i64 m.f5] 44) = w5 at *
   generalize v2.heap.size = b8 at *
   replace KB := HB2
   clear HB1 HB2 P1 CS
   replace tc0 : w5.cell? ⟨b5, 0, none⟩ = some (.int .i64 n.f0) := (blk_cell HN1.out 0).trans rfl
   replace tc1 : w5.cell? ⟨b5, 1, none⟩ = some (.string n.f1) := (blk_cell HN1.out 1).trans rfl
   replace tc2 : w5.cell? ⟨b5, 2, none⟩ = some (.int .i64 n.f2) := (blk_cell HN1.out 2).trans rfl
   replace tc3 : w5.cell? ⟨b5, 3, none⟩ = some (.int .u64 n.f3) := (blk_cell HN1.out 3).trans rfl
   replace tc4 : w5.cell? ⟨b5, 4, none⟩ = some (.slice A1 n.f4.length c1) := (blk_cell HN1.out 4).trans rfl
   replace tc5 : w5.cell? ⟨b5, 5, none⟩ = some (.int .i64 n.f5) := (blk_cell HN1.out 5).trans rfl
   have uc0 : w5.cell? ⟨b8, 0, none⟩ = some (.int .i64 m.f0) := (blk_cell HN2.out 0).trans rfl
   have uc1 : w5.cell? ⟨b8, 1, none⟩ = some (.string m.f1) := (blk_cell HN2.out 1).trans rfl
   have uc2 : w5.cell? ⟨b8, 2, none⟩ = some (.int .i64 m.f2) := (blk_cell HN2.out 2).trans rfl
   have uc3 : w5.cell? ⟨b8, 3, none⟩ = some (.int .u64 m.f3) := (blk_cell HN2.out 3).trans rfl
   have uc4 : w5.cell? ⟨b8, 4, none⟩ = some (.slice A2 m.f4.length c2) := (blk_cell HN2.out 4).trans rfl
   have uc5 : w5.cell? ⟨b8, 5, none⟩ = some (.int .i64 m.f5) := (blk_cell HN2.out 5).trans rfl
   go_region_held3 (fun w' => w'.cell? ⟨b5, 0, none⟩ = some (.int .i64 n.f0) ∧ w'.cell? ⟨b5, 1, none⟩ = some (.string n.f1) ∧ w'.cell? ⟨b5, 2, none⟩ = some (.int .i64 n.f2) ∧ w'.cell? ⟨b5, 3, none⟩ = some (.int .u64 n.f3) ∧ w'.cell? ⟨b5, 4, none⟩ = some (.slice A1 n.f4.length c1) ∧ w'.cell? ⟨b5, 5, none⟩ = some (.int .i64 n.f5) ∧ w'.cell? ⟨b8, 0, none⟩ = some (.int .i64 m.f0) ∧ w'.cell? ⟨b8, 1, none⟩ = some (.string m.f1) ∧ w'.cell? ⟨b8, 2, none⟩ = some (.int .i64 m.f2) ∧ w'.cell? ⟨b8, 3, none⟩ = some (.int .u64 m.f3) ∧ w'.cell? ⟨b8, 4, none⟩ = some (.slice A2 m.f4.length c2) ∧ w'.cell? ⟨b8, 5, none⟩ = some (.int .i64 m.f5)) ((repeat' apply And.intro) <;> (first | assumption | exact cell_drewP (by assumption))) (first | (go_at_call 25; (with_reducible refine (node_any n WN.out A1 c1 HL1.out _ ?_).mono ?_); (first | exact HD1.out | exact Kd.C_below HD1.out (below_drew1 (Below.refl _ _))); rintro e_ k3 ⟨A7, c7, rfl, hl, hC, hB⟩; (try replace hB := below_undrewP hB); replace KB := Lib.hid (below_step KB.out hB); replace HN1 := Lib.hid (blk_belowU hB HN1.out); replace HN2 := Lib.hid (blk_belowU hB HN2.out); replace HD1 := Lib.hid (Kd.C_below HD1.out hB); replace HD2 := Lib.hid (Kd.C_below HD2.out hB); replace tc0 : k3.cell? ⟨b5, 0, none⟩ = some (.int .i64 n.f0) := (blk_cell HN1.out 0).trans rfl; replace tc1 : k3.cell? ⟨b5, 1, none⟩ = some (.string n.f1) := (blk_cell HN1.out 1).trans rfl; replace tc2 : k3.cell? ⟨b5, 2, none⟩ = some (.int .i64 n.f2) := (blk_cell HN1.out 2).trans rfl; replace tc3 : k3.cell? ⟨b5, 3, none⟩ = some (.int .u64 n.f3) := (blk_cell HN1.out 3).trans rfl; replace tc4 : k3.cell? ⟨b5, 4, none⟩ = some (.slice A1 n.f4.length c1) := (blk_cell HN1.out 4).trans rfl; replace tc5 : k3.cell? ⟨b5, 5, none⟩ = some (.int .i64 n.f5) := (blk_cell HN1.out 5).trans rfl; replace uc0 : k3.cell? ⟨b8, 0, none⟩ = some (.int .i64 m.f0) := (blk_cell HN2.out 0).trans rfl; replace uc1 : k3.cell? ⟨b8, 1, none⟩ = some (.string m.f1) := (blk_cell HN2.out 1).trans rfl; replace uc2 : k3.cell? ⟨b8, 2, none⟩ = some (.int .i64 m.f2) := (blk_cell HN2.out 2).trans rfl; replace uc3 : k3.cell? ⟨b8, 3, none⟩ = some (.int .u64 m.f3) := (blk_cell HN2.out 3).trans rfl; replace uc4 : k3.cell? ⟨b8, 4, none⟩ = some (.slice A2 m.f4.length c2) := (blk_cell HN2.out 4).trans rfl; replace uc5 : k3.cell? ⟨b8, 5, none⟩ = some (.int .i64 m.f5) := (blk_cell HN2.out 5).trans rfl; have HE1 := Lib.hid hC; have HL7 := Lib.hid hl; clear hl hC hB) | (go_at_call 25; (with_reducible refine (node_any m WM.out A2 c2 HL2.out _ ?_).mono ?_); (first | exact HD2.out | exact Kd.C_below HD2.out (below_drew1 (Below.refl _ _))); rintro e_ k4 ⟨A8, c8, rfl, hl, hC, hB⟩; (try replace hB := below_undrewP hB); replace KB := Lib.hid (below_step KB.out hB); replace HN1 := Lib.hid (blk_belowU hB HN1.out); replace HN2 := Lib.hid (blk_belowU hB HN2.out); replace HD1 := Lib.hid (Kd.C_below HD1.out hB); replace HD2 := Lib.hid (Kd.C_below HD2.out hB); replace HE1 := Lib.hid (Kd.C_below HE1.out hB); replace tc0 : k4.cell? ⟨b5, 0, none⟩ = some (.int .i64 n.f0) := (blk_cell HN1.out 0).trans rfl; replace tc1 : k4.cell? ⟨b5, 1, none⟩ = some (.string n.f1) := (blk_cell HN1.out 1).trans rfl; replace tc2 : k4.cell? ⟨b5, 2, none⟩ = some (.int .i64 n.f2) := (blk_cell HN1.out 2).trans rfl; replace tc3 : k4.cell? ⟨b5, 3, none⟩ = some (.int .u64 n.f3) := (blk_cell HN1.out 3).trans rfl; replace tc4 : k4.cell? ⟨b5, 4, none⟩ = some (.slice A1 n.f4.length c1) := (blk_cell HN1.out 4).trans rfl; replace tc5 : k4.cell? ⟨b5, 5, none⟩ = some (.int .i64 n.f5) := (blk_cell HN1.out 5).trans rfl; replace uc0 : k4.cell? ⟨b8, 0, none⟩ = some (.int .i64 m.f0) := (blk_cell HN2.out 0).trans rfl; replace uc1 : k4.cell? ⟨b8, 1, none⟩ = some (.string m.f1) := (blk_cell HN2.out 1).trans rfl; replace uc2 : k4.cell? ⟨b8, 2, none⟩ = some (.int .i64 m.f2) := (blk_cell HN2.out 2).trans rfl; replace uc3 : k4.cell? ⟨b8, 3, none⟩ = some (.int .u64 m.f3) := (blk_cell HN2.out 3).trans rfl; replace uc4 : k4.cell? ⟨b8, 4, none⟩ = some (.slice A2 m.f4.length c2) := (blk_cell HN2.out 4).trans rfl; replace uc5 : k4.cell? ⟨b8, 5, none⟩ = some (.int .i64 m.f5) := (blk_cell HN2.out 5).trans rfl; have HE2 := Lib.hid hC; have HL8 := Lib.hid hl; clear hl hC hB) | (go_at_call 28; (with_reducible refine (same_any false n m WN.out WM.out A7 A8 c7 c8 HL7.out HL8.out _ HE1.out HE2.out).mono ?_); rintro e_ k5 ⟨he, hB⟩; rw [HS.out] at he; subst he; (try replace hB := below_undrewP hB); replace KB := Lib.hid (below_step KB.out hB); replace HN1 := Lib.hid (blk_belowU hB HN1.out); replace HN2 := Lib.hid (blk_belowU hB HN2.out); replace HD1 := Lib.hid (Kd.C_below HD1.out hB); replace HD2 := Lib.hid (Kd.C_below HD2.out hB); replace tc0 : k5.cell? ⟨b5, 0, none⟩ = some (.int .i64 n.f0) := (blk_cell HN1.out 0).trans rfl; replace tc1 : k5.cell? ⟨b5, 1, none⟩ = some (.string n.f1) := (blk_cell HN1.out 1).trans rfl; replace tc2 : k5.cell? ⟨b5, 2, none⟩ = some (.int .i64 n.f2) := (blk_cell HN1.out 2).trans rfl; replace tc3 : k5.cell? ⟨b5, 3, none⟩ = some (.int .u64 n.f3) := (blk_cell HN1.out 3).trans rfl; replace tc4 : k5.cell? ⟨b5, 4, none⟩ = some (.slice A1 n.f4.length c1) := (blk_cell HN1.out 4).trans rfl; replace tc5 : k5.cell? ⟨b5, 5, none⟩ = some (.int .i64 n.f5) := (blk_cell HN1.out 5).trans rfl; replace uc0 : k5.cell? ⟨b8, 0, none⟩ = some (.int .i64 m.f0) := (blk_cell HN2.out 0).trans rfl; replace uc1 : k5.cell? ⟨b8, 1, none⟩ = some (.string m.f1) := (blk_cell HN2.out 1).trans rfl; replace uc2 : k5.cell? ⟨b8, 2, none⟩ = some (.int .i64 m.f2) := (blk_cell HN2.out 2).trans rfl; replace uc3 : k5.cell? ⟨b8, 3, none⟩ = some (.int .u64 m.f3) := (blk_cell HN2.out 3).trans rfl; replace uc4 : k5.cell? ⟨b8, 4, none⟩ = some (.slice A2 m.f4.length c2) := (blk_cell HN2.out 4).trans rfl; replace uc5 : k5.cell? ⟨b8, 5, none⟩ = some (.int .i64 m.f5) := (blk_cell HN2.out 5).trans rfl; clear hB))
   all_goals go_wp2_with (first | (go_at_call 23; (with_reducible refine (CK1 _ ?_).mono ?_); exact HD1.out; rintro e_ k6 ⟨rfl, hB⟩; (try replace hB := below_undrewP hB); replace KB := Lib.hid (below_step KB.out hB); replace HN1 := Lib.hid (blk_belowU hB HN1.out); replace HN2 := Lib.hid (blk_belowU hB HN2.out); replace HD1 := Lib.hid (Kd.C_below HD1.out hB); replace HD2 := Lib.hid (Kd.C_below HD2.out hB); replace tc0 : k6.cell? ⟨b5, 0, none⟩ = some (.int .i64 n.f0) := (blk_cell HN1.out 0).trans rfl; replace tc1 : k6.cell? ⟨b5, 1, none⟩ = some (.string n.f1) := (blk_cell HN1.out 1).trans rfl; replace tc2 : k6.cell? ⟨b5, 2, none⟩ = some (.int .i64 n.f2) := (blk_cell HN1.out 2).trans rfl; replace tc3 : k6.cell? ⟨b5, 3, none⟩ = some (.int .u64 n.f3) := (blk_cell HN1.out 3).trans rfl; replace tc4 : k6.cell? ⟨b5, 4, none⟩ = some (.slice A1 n.f4.length c1) := (blk_cell HN1.out 4).trans rfl; replace tc5 : k6.cell? ⟨b5, 5, none⟩ = some (.int .i64 n.f5) := (blk_cell HN1.out 5).trans rfl; replace uc0 : k6.cell? ⟨b8, 0, none⟩ = some (.int .i64 m.f0) := (blk_cell HN2.out 0).trans rfl; replace uc1 : k6.cell? ⟨b8, 1, none⟩ = some (.string m.f1) := (blk_cell HN2.out 1).trans rfl; replace uc2 : k6.cell? ⟨b8, 2, none⟩ = some (.int .i64 m.f2) := (blk_cell HN2.out 2).trans rfl; replace uc3 : k6.cell? ⟨b8, 3, none⟩ = some (.int .u64 m.f3) := (blk_cell HN2.out 3).trans rfl; replace uc4 : k6.cell? ⟨b8, 4, none⟩ = some (.slice A2 m.f4.length c2) := (blk_cell HN2.out 4).trans rfl; replace uc5 : k6.cell? ⟨b8, 5, none⟩ = some (.int .i64 m.f5) := (blk_cell HN2.out 5).trans rfl; clear hB) | (go_at_call 23; (with_reducible refine (CK2 _ _ _ HL2.out ?_).mono ?_); exact HD2.out; rintro e_ k7 ⟨rfl, hB⟩; (try replace hB := below_undrewP hB); replace KB := Lib.hid (below_step KB.out hB); replace HN1 := Lib.hid (blk_belowU hB HN1.out); replace HN2 := Lib.hid (blk_belowU hB HN2.out); replace HD1 := Lib.hid (Kd.C_below HD1.out hB); replace HD2 := Lib.hid (Kd.C_below HD2.out hB); replace tc0 : k7.cell? ⟨b5, 0, none⟩ = some (.int .i64 n.f0) := (blk_cell HN1.out 0).trans rfl; replace tc1 : k7.cell? ⟨b5, 1, none⟩ = some (.string n.f1) := (blk_cell HN1.out 1).trans rfl; replace tc2 : k7.cell? ⟨b5, 2, none⟩ = some (.int .i64 n.f2) := (blk_cell HN1.out 2).trans rfl; replace tc3 : k7.cell? ⟨b5, 3, none⟩ = some (.int .u64 n.f3) := (blk_cell HN1.out 3).trans rfl; replace tc4 : k7.cell? ⟨b5, 4, none⟩ = some (.slice A1 n.f4.length c1) := (blk_cell HN1.out 4).trans rfl; replace tc5 : k7.cell? ⟨b5, 5, none⟩ = some (.int .i64 n.f5) := (blk_cell HN1.out 5).trans rfl; replace uc0 : k7.cell? ⟨b8, 0, none⟩ = some (.int .i64 m.f0) := (blk_cell HN2.out 0).trans rfl; replace uc1 : k7.cell? ⟨b8, 1, none⟩ = some (.string m.f1) := (blk_cell HN2.out 1).trans rfl; replace uc2 : k7.cell? ⟨b8, 2, none⟩ = some (.int .i64 m.f2) := (blk_cell HN2.out 2).trans rfl; replace uc3 : k7.cell? ⟨b8, 3, none⟩ = some (.int .u64 m.f3) := (blk_cell HN2.out 3).trans rfl; replace uc4 : k7.cell? ⟨b8, 4, none⟩ = some (.slice A2 m.f4.length c2) := (blk_cell HN2.out 4).trans rfl; replace uc5 : k7.cell? ⟨b8, 5, none⟩ = some (.int .i64 m.f5) := (blk_cell HN2.out 5).trans rfl; clear hB))
   all_goals go_ret
   all_goals exact ⟨rfl, KB.out⟩
  ·have P1 : ∀ W, Calls Tryd.prog 22 #[.string T] W (fun e_ w_ => ∃ A c, e_ = .returned (.tuple #[.agg #[.int .i64 0, .string (⟨#[]⟩ : ByteArray), .int .i64 0, .int .u64 0, .slice A 0 c, .int .i64 0], .int .i64 0, .int .i64 4]) ∧ 0 ≤ c ∧ Kd.C k44 w_ A 0 [] ∧ Below W.heap.size W w_) := fun W => by have := parse_any T W; rw [HPL.out (by omega)] at this; exact this
   clear HOK2 HTN HPL h2
   go_wp2_with (first | (go_at_call 29; (with_reducible refine (CS _ ?_ ?_).mono ?_); exact gw_below _ _ KB.out HG.out; exact HD1.out; rintro e_ k1 ⟨rfl, hB⟩; (try replace hB := below_undrewP hB); replace KB := Lib.hid (below_step KB.out hB); replace HN1 := Lib.hid (blk_belowU hB HN1.out); replace HD1 := Lib.hid (Kd.C_below HD1.out hB); replace tc0 : k1.cell? ⟨b5, 0, none⟩ = some (.int .i64 n.f0) := (blk_cell HN1.out 0).trans rfl; replace tc1 : k1.cell? ⟨b5, 1, none⟩ = some (.string n.f1) := (blk_cell HN1.out 1).trans rfl; replace tc2 : k1.cell? ⟨b5, 2, none⟩ = some (.int .i64 n.f2) := (blk_cell HN1.out 2).trans rfl; replace tc3 : k1.cell? ⟨b5, 3, none⟩ = some (.int .u64 n.f3) := (blk_cell HN1.out 3).trans rfl; replace tc4 : k1.cell? ⟨b5, 4, none⟩ = some (.slice A1 n.f4.length c1) := (blk_cell HN1.out 4).trans rfl; replace tc5 : k1.cell? ⟨b5, 5, none⟩ = some (.int .i64 n.f5) := (blk_cell HN1.out 5).trans rfl; clear hB) | (go_at_call 22; (with_reducible refine (P1 _).mono ?_); rintro e v2 ⟨A2, c2, rfl, hl, hC, hB⟩; replace KB := Lib.hid (below_step KB.out hB); clear hl hC hB))
   go_quiet ((fail))
   all_goals go_wp2
   all_goals go_ret
   all_goals exact ⟨rfl, by repeat (first | exact below_alloc KB.out _ | apply pw_below_drewN | apply below_drew1)⟩
 ·have q1 : (en != 0) = true := bne_iff_ne.2 h1
  clear HOK h1
  go_wp2
  go_ret
  exact ⟨rfl, KB.out⟩
end
section
open Go.RowKit
theorem table_at {W : World} {x1 x2 : String × DataW Unit} {rest : List (String × DataW Unit)} (h : laidMet Tryd.prog (x1 :: x2 :: ("internal/strconv.uint64pow10", Lib.tabData .u64 Lib.pow10Tab) :: rest) W) : GW W := by
 obtain ⟨_, hv, _⟩ := h
 obtain ⟨_, _, _, _, _, _, _, _, _, _, hv, _⟩ := hv
 obtain ⟨_, _, _, _, _, _, _, _, _, _, hv, _⟩ := hv
 obtain ⟨g, t, cs, fuel, p, q, h1, h2, h3, h4, _, _⟩ := hv
 obtain rfl : g = 3 := Option.some.inj (h1.symm.trans (by kernel_rfl))
 obtain rfl : t = 178 := Option.some.inj (h2.symm.trans (by kernel_rfl))
 have e := Lib.cells_of_tab (P := Tryd.prog) (t := 178) (e := 36) (n := 20) (by kernel_rfl) (by kernel_rfl) (by kernel_rfl) (by kernel_rfl) h4
 unfold GW Lib.TabIs
 rw [h3, ← e]
end
end Go.Proofs.YtfgfoofojofnmaaDoor.Q
