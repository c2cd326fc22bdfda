/- Trees but for their places: what they come to, how they are shown; what trees the reader makes. -/
import Derived.Laws.BitsLemmas
import Derived.Test.YtfgfoofojofnmaaDoorG5
import Derived.Test.YtfgfoofojofnmaaDoorGP8
import Derived.Test.YtfgfoofojofnmaaDoorGL1
set_option linter.unusedVariables false
set_option linter.unusedSimpArgs false
namespace Go.Proofs.YtfgfoofojofnmaaDoor.Q
open Go.RowKit Go.Proofs.YtfgfoofojofnmaaDoorW.PrintWords Go.Proofs.YtfgfoofojofnmaaDoorW.PrintLast Go.Proofs.YtfgfoofojofnmaaDoorW.PrintMore
set_option linter.unusedVariables false
set_option linter.unusedSimpArgs false
open Go.Proofs.YtfgfoofojofnmaaDoor.Hand
/-! ### what tokens there are -/
def NameOk (s : ByteArray) : Prop := ∃ c r, s.data.toList = c :: r ∧ smallB c = true ∧ (∀ x ∈ r, nameB x = true) ∧ r.length + 1 ≤ 16
def TextOk (s : ByteArray) : Prop := (39 : UInt8) ∉ s.data.toList ∧ (10 : UInt8) ∉ s.data.toList ∧ s.size ≤ 1024
def TokOk (t : S39) : Prop :=
  (t.f0 = 1 ∧ NameOk t.f1 ∧ t.f2 = 0 ∧ t.f3 = 0) ∨ (t.f0 = 2 ∧ t.f1 = ⟨#[]⟩ ∧ 0 ≤ t.f2 ∧ t.f2 < 1000000000 ∧ t.f3 = 0) ∨
  (t.f0 = 3 ∧ TextOk t.f1 ∧ t.f2 = 0 ∧ t.f3 = 0) ∨ (t.f0 = 4 ∧ t.f1 = ⟨#[]⟩ ∧ t.f2 = 0 ∧ 0 ≤ t.f3 ∧ t.f3 < 18446744073709551616) ∨
  (t.f0 = 5 ∧ t.f2 = 0 ∧ t.f3 = 0 ∧ ((∃ c, t.f1.data.toList = [c] ∧ signB c = true) ∨ t.f1.data.toList = [46, 46] ∨ t.f1.data.toList = [58, 58]))
/-! ### what trees there are -/
inductive Wf : S44 → Prop
  | name (s : ByteArray) (p : Int) : NameOk s → Wf ⟨1, s, 0, 0, [], p⟩
  | hash (id p : Int) : 0 ≤ id → id < 18446744073709551616 → Wf ⟨2, ⟨#[]⟩, 0, id, [], p⟩
  | num (n p : Int) : 0 ≤ n → n < 1000000000 → Wf ⟨3, ⟨#[]⟩, n, 0, [], p⟩
  | text (s : ByteArray) (p : Int) : TextOk s → Wf ⟨4, s, 0, 0, [], p⟩
  | call (s : ByteArray) (ks : List S44) (p : Int) : NameOk s → (∀ k ∈ ks, Wf k) → Wf ⟨5, s, 0, 0, ks, p⟩
  | two (op : Int) (a b : S44) (p : Int) : op = 6 ∨ op = 7 ∨ op = 8 ∨ op = 9 ∨ op = 10 → Wf a → Wf b → Wf (nd op [a, b] p)
  | not (a : S44) (p : Int) : Wf a → Wf (nd 11 [a] p)
  | up (n : Int) (a : S44) (p : Int) : 0 ≤ n → n < 1000000000 → Wf a → Wf ⟨12, ⟨#[]⟩, n, 0, [a], p⟩
theorem wf_leaf {t : S39} (h : TokOk t) (h5 : t.f0 ≠ 5) : Wf (leafN t) := by
  obtain ⟨a, b, c, d, e⟩ := t
  rcases h with ⟨h0, h1, h2, h3⟩ | ⟨h0, h1, h2, h3, h4⟩ | ⟨h0, h1, h2, h3⟩ | ⟨h0, h1, h2, h3, h4⟩ | ⟨h0, _⟩
  · simp only at h0 h1 h2 h3; subst h0; subst h2; subst h3; exact Wf.name b e h1
  · simp only at h0 h1 h2 h3 h4; subst h0; subst h1; subst h4; exact Wf.num c e h2 h3
  · simp only at h0 h1 h2 h3; subst h0; subst h2; subst h3; exact Wf.text b e h1
  · simp only at h0 h1 h2 h3 h4; subst h0; subst h1; subst h2; exact Wf.hash d e h3 h4
  · exact absurd h0 h5
def AllOk (st : St) : Prop := ∀ t ∈ st.ts, TokOk t
theorem sign_ok {s : ByteArray} {st s1 : St} {p : Int} (h : signAt s st = some (p, s1)) (ha : AllOk st) : AllOk s1 := by
  obtain ⟨ts, bad, pos⟩ := st
  cases ts with
  | nil => exact absurd h (by simp [signAt])
  | cons t r =>
    simp only [signAt] at h
    split at h
    · injection h with h; injection h with h1 h2
      subst h2
      exact fun x hx => ha x (List.mem_cons_of_mem _ hx)
    · exact absurd h (by simp)
theorem fail_ok (ev : Int) (st : St) : AllOk (failS ev st) := fun t ht => by rw [failS_ts] at ht; exact absurd ht (by simp)
/-- What a function of the reader answers, where it didn't fail. -/
def Ans (r : S44 × St) : Prop := AllOk r.2 ∧ (r.2.bad = false → Wf r.1)
theorem ans_fail (ev : Int) (st : St) : Ans (z44, failS ev st) := ⟨fail_ok ev st, fun h => fail_absurd (x := z44) h⟩
/-- The reader makes such trees alone (where there are rounds enough). -/
theorem wf_all (ev : Int) : ∀ n : Nat,
    (∀ st, 6 * st.ts.length + 6 ≤ n → AllOk st → Ans (exprF ev n st)) ∧
    (∀ a st, 6 * st.ts.length ≤ n → AllOk st → (st.bad = false → Wf a) → Ans (exprL ev n a st)) ∧
    (∀ st, 6 * st.ts.length + 5 ≤ n → AllOk st → Ans (interF ev n st)) ∧
    (∀ a st, 6 * st.ts.length ≤ n + 1 → AllOk st → (st.bad = false → Wf a) → Ans (interL ev n a st)) ∧
    (∀ st, 6 * st.ts.length + 4 ≤ n → AllOk st → Ans (rangedF ev n st)) ∧
    (∀ st, 6 * st.ts.length + 3 ≤ n → AllOk st → Ans (unaryF ev n st)) ∧
    (∀ a st, st.ts.length ≤ n → AllOk st → (st.bad = false → Wf a) → Ans (upL ev n a st)) ∧
    (∀ st, 6 * st.ts.length + 2 ≤ n → AllOk st → Ans (atomF ev n st)) ∧
    (∀ t ks st, 6 * st.ts.length + 7 ≤ n → AllOk st → NameOk t.f1 → t.f2 = 0 → t.f3 = 0 → (st.bad = false → ∀ k ∈ ks, Wf k) → Ans (callL ev n t ks st))
  | 0 => by
    refine ⟨fun st h => absurd h (by omega), fun a st h ha hw => ⟨ha, hw⟩, fun st h => absurd h (by omega), fun a st h ha hw => ⟨ha, hw⟩, fun st h => absurd h (by omega), fun st h => absurd h (by omega), fun a st h ha hw => ⟨ha, hw⟩, fun st h => absurd h (by omega), fun t ks st h => absurd h (by omega)⟩
  | n + 1 => by
    obtain ⟨hE, hEL, hI, hIL, hR, hU, hUL, hA, hC⟩ := wf_all ev n
    obtain ⟨tE, tI, tR, tU, tA⟩ := ts_le ev n
    obtain ⟨bE, bEL, bI, bIL, bR, bU, bUL, bA, bC⟩ := bad_all ev n
    have two : ∀ {op p : Int} {a b : S44} {s1 s2 : St}, (op = 6 ∨ op = 7 ∨ op = 8 ∨ op = 9 ∨ op = 10) → (s1.bad = false → Wf a) → (s1.bad = true → s2.bad = true) → (s2.bad = false → Wf b) → (s2.bad = false → Wf (nd op [a, b] p)) :=
      fun ho h1 hb h2 h => Wf.two _ _ _ _ ho (h1 (ok_of hb h)) (h2 h)
    refine ⟨fun st h ha => ?_, fun a st h ha hw => ?_, fun st h ha => ?_, fun a st h ha hw => ?_, fun st h ha => ?_, fun st h ha => ?_, fun a st h ha hw => ?_, fun st h ha => ?_, fun t ks st h ha hn h2 h3 hw => ?_⟩
    · have h1 := hI st (by omega) ha
      have := tI st
      exact hEL _ _ (by omega) h1.1 h1.2
    · rcases h1 : signAt (str1 124) st with _ | ⟨p, s1⟩
      · rcases h2 : signAt (str1 45) st with _ | ⟨p, s1⟩
        · rw [exprL_none h1 h2]; exact ⟨ha, hw⟩
        · have h3 := signAt_len h2; have := tI s1; have h4 := hI s1 (by omega) (sign_ok h2 ha)
          rw [exprL_minus h1 h2]
          exact hEL _ _ (by omega) h4.1 (two (by simp) (fun e => hw ((signAt_bad h2).symm.trans e)) (bI s1) h4.2)
      · have h3 := signAt_len h1; have := tI s1; have h4 := hI s1 (by omega) (sign_ok h1 ha)
        rw [exprL_or h1]
        exact hEL _ _ (by omega) h4.1 (two (by simp) (fun e => hw ((signAt_bad h1).symm.trans e)) (bI s1) h4.2)
    · have h1 := hR st (by omega) ha
      have := tR st
      exact hIL _ _ (by omega) h1.1 h1.2
    · rcases h1 : signAt (str1 38) st with _ | ⟨p, s1⟩
      · rw [interL_none h1]; exact ⟨ha, hw⟩
      · have h3 := signAt_len h1; have := tR s1; have h4 := hR s1 (by omega) (sign_ok h1 ha)
        rw [interL_some h1]
        exact hIL _ _ (by omega) h4.1 (two (by simp) (fun e => hw ((signAt_bad h1).symm.trans e)) (bR s1) h4.2)
    · have hu := hU st (by omega) ha
      have := tU st
      rcases h1 : signAt (str2 46 46) (unaryF ev n st).2 with _ | ⟨p, s1⟩
      · rcases h2 : signAt (str2 58 58) (unaryF ev n st).2 with _ | ⟨p, s1⟩
        · rw [rangedF_none h1 h2]; exact hu
        · have h3 := signAt_len h2; have h4 := hU s1 (by omega) (sign_ok h2 hu.1)
          rw [rangedF_colons h1 h2]
          exact ⟨h4.1, two (by simp) (fun e => hu.2 ((signAt_bad h2).symm.trans e)) (bU s1) h4.2⟩
      · have h3 := signAt_len h1; have h4 := hU s1 (by omega) (sign_ok h1 hu.1)
        rw [rangedF_dots h1]
        exact ⟨h4.1, two (by simp) (fun e => hu.2 ((signAt_bad h1).symm.trans e)) (bU s1) h4.2⟩
    · rcases h1 : signAt (str1 33) st with _ | ⟨p, s1⟩
      · have := tA st; have h4 := hA st (by omega) ha
        rw [unaryF_atom h1]
        exact hUL _ _ (by omega) h4.1 h4.2
      · have h3 := signAt_len h1; have h4 := hU s1 (by omega) (sign_ok h1 ha)
        rw [unaryF_not h1]
        exact ⟨h4.1, fun e => Wf.not _ _ (h4.2 e)⟩
    · rcases h1 : signAt (str1 94) st with _ | ⟨p, ts, bad, pos⟩
      · rw [upL_none h1]; exact ⟨ha, hw⟩
      · have h3 := signAt_len h1
        have hb := signAt_bad h1
        have ha1 := sign_ok h1 ha
        simp only at hb
        cases ts with
        | nil => rw [upL_nil h1]; exact hUL _ _ (by simp) ha1 (fun e => Wf.up 0 _ _ (by decide) (by decide) (hw (hb.symm.trans e)))
        | cons t r =>
          simp only [List.length_cons] at h3
          have hr : AllOk ⟨r, bad, pos⟩ := fun x hx => ha1 x (List.mem_cons_of_mem _ hx)
          by_cases h2 : t.f0 = 2
          · by_cases h4 : t.f2 = 0
            · rw [upL_zero h1 h2 h4]; exact ans_fail _ _
            · rw [upL_num h1 h2 h4]
              refine hUL _ _ (by show r.length ≤ n; omega) hr (fun e => Wf.up _ _ _ ?_ ?_ (hw (hb.symm.trans e)))
              all_goals
                rcases ha1 t List.mem_cons_self with ⟨h0, _⟩ | ⟨h0, _, h6, h7, _⟩ | ⟨h0, _⟩ | ⟨h0, _⟩ | ⟨h0, _⟩
                all_goals first | exact h6 | exact h7 | (rw [h2] at h0; exact absurd h0 (by decide))
          · rw [upL_other h1 h2]; exact hUL _ _ (by show (t :: r).length ≤ n; simp only [List.length_cons]; omega) ha1 (fun e => Wf.up 0 _ _ (by decide) (by decide) (hw (hb.symm.trans e)))
    · rcases h1 : signAt (str1 40) st with _ | ⟨p, s1⟩
      · obtain ⟨ts, bad, pos⟩ := st
        cases ts with
        | nil => rw [atomF_nil h1]; exact ans_fail _ _
        | cons t r =>
          simp only [List.length_cons] at h
          have hr : AllOk ⟨r, bad, pos⟩ := fun x hx => ha x (List.mem_cons_of_mem _ hx)
          have ht := ha t List.mem_cons_self
          by_cases h2 : t.f0 = 5
          · rw [atomF_sign h1 h2]; exact ans_fail _ _
          · by_cases h3 : t.f0 = 4 ∨ t.f0 = 2 ∨ t.f0 = 3
            · rw [atomF_leaf h1 h2 h3]; exact ⟨hr, fun _ => wf_leaf ht h2⟩
            · rcases h4 : signAt (str1 40) ⟨r, bad, pos⟩ with _ | ⟨p, s1⟩
              · rw [atomF_name h1 h2 h3 h4]; exact ⟨hr, fun _ => wf_leaf ht h2⟩
              · have h5 := signAt_len h4
                simp only at h5
                have hnm : NameOk t.f1 ∧ t.f2 = 0 ∧ t.f3 = 0 := by
                  rcases ht with ⟨h0, h6⟩ | ⟨h0, _⟩ | ⟨h0, _⟩ | ⟨h0, _⟩ | ⟨h0, _⟩
                  · exact h6
                  all_goals exact absurd h0 (by first | exact h2 | (intro e; exact h3 (by simp [e])))
                have ha1 := sign_ok h4 hr
                rw [atomF_call h1 h2 h3 h4]
                rcases h6 : signAt (str1 41) s1 with _ | ⟨p, s2⟩
                · rw [callS_none h6]; exact hC _ _ _ (by omega) ha1 hnm.1 hnm.2.1 hnm.2.2 (fun _ k hk => absurd hk (by simp))
                · rw [callS_some h6]
                  refine ⟨sign_ok h6 ha1, fun _ => ?_⟩
                  simp only [hnm.2.1, hnm.2.2]
                  exact Wf.call _ _ _ hnm.1 (fun k hk => absurd hk (by simp))
      · have h3 := signAt_len h1
        have he := hE s1 (by omega) (sign_ok h1 ha)
        rcases h5 : signAt (str1 41) (exprF ev n s1).2 with _ | ⟨p2, s2⟩
        · rw [atomF_br_no h1 h5]; exact ans_fail _ _
        · rw [atomF_br h1 h5]; exact ⟨sign_ok h5 he.1, fun e => he.2 ((signAt_bad h5).symm.trans e)⟩
    · have he := hE st (by omega) ha
      have := tE st
      have hks : (exprF ev n st).2.bad = false → ∀ k ∈ ks ++ [(exprF ev n st).1], Wf k := by
        intro e k hk
        rcases List.mem_append.1 hk with hk | hk
        · exact hw (ok_of (bE st) e) k hk
        · rw [List.mem_singleton] at hk; rw [hk]; exact he.2 e
      rcases h1 : signAt (str1 44) (exprF ev n st).2 with _ | ⟨p, s2⟩
      · rcases h6 : signAt (str1 41) (exprF ev n st).2 with _ | ⟨p, s2⟩
        · rw [callL_bad h1 h6]; exact ans_fail _ _
        · rw [callL_end h1 h6]
          refine ⟨sign_ok h6 he.1, fun e => ?_⟩
          simp only [h2, h3]
          exact Wf.call _ _ _ hn (hks ((signAt_bad h6).symm.trans e))
      · have h6 := signAt_len h1
        rw [callL_comma h1]
        exact hC _ _ _ (by omega) (sign_ok h1 he.1) hn h2 h3 (fun e => hks ((signAt_bad h1).symm.trans e))
end Go.Proofs.YtfgfoofojofnmaaDoor.Q
namespace Go.Proofs.YtfgfoofojofnmaaDoor.Q
open Go.RowKit Go.Proofs.YtfgfoofojofnmaaDoorW.PrintWords Go.Proofs.YtfgfoofojofnmaaDoorW.PrintLast Go.Proofs.YtfgfoofojofnmaaDoorW.PrintMore
open Go.Proofs.YtfgfoofojofnmaaDoor.Hand
set_option linter.unusedVariables false
set_option linter.unusedSimpArgs false
theorem head_lt {p : UInt8 → Bool} : ∀ {l : List UInt8} {k : Nat} (h : k < headN p l), p (l[k]'(Nat.lt_of_lt_of_le h (headN_le p l))) = true
  | c :: l, 0, h => by
    by_cases hc : p c = true
    · simpa using hc
    · simp [headN, hc] at h
  | c :: l, k + 1, h => by
    by_cases hc : p c = true
    · have e : headN p (c :: l) = headN p l + 1 := by simp [headN, hc]
      have := head_lt (p := p) (l := l) (k := k) (by omega)
      simpa using this
    · simp [headN, hc] at h
theorem head_at {p : UInt8 → Bool} : ∀ {l : List UInt8} (h : headN p l < l.length), p (l[headN p l]) = false
  | c :: l, h => by
    by_cases hc : p c = true
    · have e : headN p (c :: l) = headN p l + 1 := by simp [headN, hc]
      have := head_at (p := p) (l := l) (by simp only [e, List.length_cons] at h; omega)
      simp only [e, List.getElem_cons_succ]
      exact this
    · have e : headN p (c :: l) = 0 := by simp [headN, hc]
      simp only [e, List.getElem_cons_zero]
      simpa using hc
theorem drop_get (s : ByteArray) (i : Nat) (l : List UInt8) (h : s.data.toList.drop i = l) (k : Nat) (hk : k < l.length) (hlt : i + k < s.size) : s[i + k] = l[k] := by
  subst h
  rw [← get_data s (i + k) hlt]
  simp
/-! ### the quote -/
def quoB (c : UInt8) : Bool := !(c == 39) && !(c == 10)
theorem idx_none (x : UInt8) : ∀ l : List UInt8, (∀ c ∈ l, c ≠ x) → Lib.indexByte l x = -1
  | [], _ => rfl
  | c :: l, h => by
    have hc : (c == x) = false := beq_eq_false_iff_ne.2 (h c (by simp))
    have ih := idx_none x l (fun d hd => h d (by simp [hd]))
    simp [Lib.indexByte, hc, ih]
theorem idx_at (x : UInt8) : ∀ (l : List UInt8) (q : Nat) (hq : q < l.length), (∀ c ∈ l.take q, c ≠ x) → l[q] = x → Lib.indexByte l x = q
  | c :: l, 0, _, _, h => by
    have : c = x := by simpa using h
    simp [Lib.indexByte, this]
  | c :: l, q + 1, hq, ha, h => by
    have hc : (c == x) = false := beq_eq_false_iff_ne.2 (ha c (by simp))
    have ih := idx_at x l q (by simpa using hq) (fun d hd => ha d (by simp [hd])) (by simpa using h)
    have h1 : ((q : Int) == -1) = false := beq_eq_false_iff_ne.2 (by omega)
    simp [Lib.indexByte, hc, ih, h1]
theorem idx_mem (x : UInt8) : ∀ (l : List UInt8), x ∈ l → 0 ≤ Lib.indexByte l x
  | c :: l, h => by
    by_cases hc : c = x
    · simp [Lib.indexByte, hc]
    · have hb : (c == x) = false := beq_eq_false_iff_ne.2 hc
      have hm : x ∈ l := by
        rcases List.mem_cons.mp h with e | e
        · exact absurd e.symm hc
        · exact e
      have ih := idx_mem x l hm
      have h1 : (Lib.indexByte l x == -1) = false := beq_eq_false_iff_ne.2 (by omega)
      simp only [Lib.indexByte, hb, h1, Bool.false_eq_true, if_false]
      omega
theorem idx_is : ∀ (l : List UInt8) (x : UInt8) (h : 0 ≤ Lib.indexByte l x) (hlt : (Lib.indexByte l x).toNat < l.length), l[(Lib.indexByte l x).toNat] = x
  | [], x, h, _ => absurd h (by simp [Lib.indexByte])
  | c :: l, x, h, hlt => by
    by_cases hc : c = x
    · have e : (Lib.indexByte (c :: l) x).toNat = 0 := by simp [Lib.indexByte, hc]
      simp only [e, List.getElem_cons_zero]
      exact hc
    · have hb : (c == x) = false := beq_eq_false_iff_ne.2 hc
      by_cases h1 : (Lib.indexByte l x == -1) = true
      · have e : Lib.indexByte (c :: l) x = -1 := by simp [Lib.indexByte, hb, h1]
        omega
      · have e : Lib.indexByte (c :: l) x = Lib.indexByte l x + 1 := by simp [Lib.indexByte, hb, h1]
        have h2 : Lib.indexByte l x ≠ -1 := by simpa using h1
        have h3 := Lib.indexByte_ge l x
        have h0 : 0 ≤ Lib.indexByte l x := by omega
        have hl2 := idx_lt l x h0
        have ih := idx_is l x h0 hl2
        have e2 : (Lib.indexByte (c :: l) x).toNat = (Lib.indexByte l x).toNat + 1 := by omega
        simp only [e2, List.getElem_cons_succ]
        exact ih
theorem quo_all (r : List UInt8) : ∀ c ∈ r.take (headN quoB r), c ≠ 39 ∧ c ≠ 10 := by
  intro c hc
  have := head_all quoB r c hc
  simpa [quoB] using this
theorem quote_yes (r : List UInt8) (h : headN quoB r < r.length) (h39 : r[headN quoB r] = 39) : oneT 39 r = (3, bs (r.take (headN quoB r)), 0, 0, 0, (headN quoB r : Int) + 2) := by
  have e := idx_at 39 r _ h (fun c hc => (quo_all r c hc).1) h39
  have e10 := idx_none 10 (r.take (headN quoB r)) (fun c hc => (quo_all r c hc).2)
  have : oneL 39 r = some (3, bs (r.take (headN quoB r)), 0, 0, 0, (headN quoB r : Int) + 2) := by
    unfold oneL
    rw [if_neg (by decide), if_neg (by decide), if_pos rfl, e, if_pos (by omega), Int.toNat_natCast, e10, if_neg (by decide)]
    simp only [List.length_take]
    rw [Nat.min_eq_left (by omega)]
  rw [oneT, this]; rfl
theorem quote_no (r : List UInt8) (h : ∀ hq : headN quoB r < r.length, r[headN quoB r] ≠ 39) : oneT 39 r = zeroT := by
  have : oneL 39 r = some zeroT := by
    unfold oneL
    rw [if_neg (by decide), if_neg (by decide), if_pos rfl]
    by_cases hi : 0 ≤ Lib.indexByte r 39
    · rw [if_pos hi]
      by_cases hq : headN quoB r < r.length
      · have h10 : r[headN quoB r] = 10 := by
          have h1 := head_at hq
          have h2 := h hq
          simpa [quoB, h2] using h1
        have hmem : (10 : UInt8) ∈ r.take (Lib.indexByte r 39).toNat := by
          have hlt : headN quoB r < (Lib.indexByte r 39).toNat := by
            rcases Nat.lt_or_ge (headN quoB r) (Lib.indexByte r 39).toNat with hl | hg
            · exact hl
            · exfalso
              have hlt := idx_lt r 39 hi
              have hx : r[(Lib.indexByte r 39).toNat] = 39 := idx_is r 39 hi hlt
              rcases Nat.lt_or_ge (Lib.indexByte r 39).toNat (headN quoB r) with h3 | h3
              · have := head_lt h3
                rw [hx] at this
                exact absurd this (by decide)
              · have e : (Lib.indexByte r 39).toNat = headN quoB r := by omega
                simp only [e] at hx
                exact h hq hx
          rw [← h10]
          exact List.mem_take_iff_getElem.mpr ⟨headN quoB r, by omega, rfl⟩
        rw [if_pos (idx_mem 10 _ hmem)]
      · exfalso
        have hl : headN quoB r = r.length := by have := headN_le quoB r; omega
        have : Lib.indexByte r 39 = -1 := idx_none 39 r (fun c hc => (quo_all r c (by rw [hl, List.take_length]; exact hc)).1)
        omega
    · rw [if_neg hi]
  rw [oneT, this]; rfl
/-! ### sixteen digits -/
theorem wu64 (x : Int) : IntKind.u64.wrap x = x % 18446744073709551616 := by simp [IntKind.wrap, IntKind.bits, IntKind.signed]
theorem or_add (a b : Int) (ha : 0 ≤ a) (ha2 : a < 18446744073709551616) (hm : a % 16 = 0) (h0 : 0 ≤ b) (h1 : b < 16) : Go.bits .or .u64 a b = a + b := by
  have h64 : (2 : Int) ^ 64 = 18446744073709551616 := by decide
  have h4 : (2 : Int) ^ 4 = 16 := by decide
  exact bits_join .u64 64 (by decide) (fun n h h2 => by rw [h64] at h2; rw [wu64]; omega) 4 a b ha (by rw [h4]; exact hm) (by rw [h64]; exact ha2) h0 (by rw [h4]; exact h1) (by rw [h64]; omega)
/-- The number that a byte stands for among sixteen digits. -/
def hexD (c : Nat) : Option Nat := if 48 ≤ c ∧ c ≤ 57 then some (c - 48) else if 97 ≤ c ∧ c ≤ 102 then some (c - 87) else none
def hexF : List UInt8 → Nat → Option Nat
  | [], v => some v
  | c :: l, v => (hexD c.toNat).bind fun d => hexF l ((v * 16 + d) % 18446744073709551616)
def hexR (l : List UInt8) : Int × Int := match hexF l 0 with
  | some v => ((v : Int), 0)
  | none => (0, 9)
theorem bt_at' (l : List UInt8) (i : Nat) (h : i < l.length) : bt (bs l) (i : Int) = (l[i].toNat : Int) := by
  have e := bt_drop (bs l) i l[i] (l.drop (i + 1)) (by rw [bs_list]; exact List.drop_eq_getElem_cons h)
  exact e
theorem sum_parse_loop (l : List UInt8) (hl : l.length = 16) (d : Nat) : ∀ (k i v : Nat), i ≤ 16 → 16 - i = d → 2 * d + 1 ≤ k → v < 18446744073709551616 →
    sum_Parse.l0 k (bs l) (v : Int) 16 (i : Int) = some (match hexF (l.drop i) v with | some v => ((v : Int), 0) | none => (0, 9)) := by
  induction d with
  | zero =>
    intro k i v hi hd hk hv
    obtain ⟨k, rfl⟩ : ∃ m, k = m + 1 := ⟨k - 1, by omega⟩
    simp only [sum_Parse.l0]
    rw [if_neg (by omega), List.drop_eq_nil_of_le (by omega)]
    rfl
  | succ d ih =>
    intro k i v hi hd hk hv
    obtain ⟨k, rfl⟩ : ∃ m, k = m + 2 := ⟨k - 2, by omega⟩
    have hlt : i < l.length := by omega
    have hb : l[i].toNat < 256 := l[i].toNat_lt
    have e1 : Hid (wrap64 ((i : Int) + 1) = ((i + 1 : Nat) : Int)) := Lib.hid (by rw [w64 (by omega) (by omega)]; omega)
    have step : ∀ x : Nat, x < 16 → Go.bits .or .u64 (IntKind.u64.wrap ((v : Int) * 16)) (x : Int) = (((v * 16 + x) % 18446744073709551616 : Nat) : Int) := by
      intro x hx
      rw [wu64, or_add _ _ (by omega) (by omega) (by omega) (by omega) (by omega)]
      omega
    have hdr : l.drop i = l[i] :: l.drop (i + 1) := List.drop_eq_getElem_cons hlt
    simp only [sum_Parse.l0]
    rw [if_pos (by omega), if_pos (by omega), if_pos (by rw [bs_size]; omega), bt_at' l i hlt, hdr]
    simp only [hexF]
    generalize l[i].toNat = c at *
    by_cases h48 : (48 : Int) ≤ (c : Int)
    · rw [if_pos h48]
      simp only [sum_Parse.j1]
      by_cases h57 : (c : Int) ≤ 57
      · rw [if_pos (decide_eq_true h57), e1.out]
        have ed : hexD c = some (c - 48) := by unfold hexD; rw [if_pos ⟨by omega, by omega⟩]
        have ex : ((c : Int) - 48) % 256 = ((c - 48 : Nat) : Int) := by omega
        rw [ed, Option.bind_some, ex, step _ (by omega)]
        exact ih k (i + 1) _ (by omega) (by omega) (by omega) (by omega)
      · rw [if_neg (by simpa using h57)]
        by_cases h97 : (c : Int) ≥ 97
        · rw [if_pos h97]
          by_cases h102 : (c : Int) ≤ 102
          · rw [if_pos h102, e1.out]
            have ed : hexD c = some (c - 87) := by unfold hexD; rw [if_neg (by omega), if_pos ⟨by omega, by omega⟩]
            have ex : ((((c : Int) - 97) % 256) + 10) % 256 = ((c - 87 : Nat) : Int) := by omega
            rw [ed, Option.bind_some, ex, step _ (by omega)]
            exact ih k (i + 1) _ (by omega) (by omega) (by omega) (by omega)
          · rw [if_neg h102]
            have ed : hexD c = none := by unfold hexD; rw [if_neg (by omega), if_neg (by omega)]
            rw [ed, Option.bind_none]
        · rw [if_neg h97]
          have ed : hexD c = none := by unfold hexD; rw [if_neg (by omega), if_neg (by omega)]
          rw [ed, Option.bind_none]
    · rw [if_neg h48]
      simp only [sum_Parse.j1]
      rw [if_neg (by decide), if_neg (by omega)]
      have ed : hexD c = none := by unfold hexD; rw [if_neg (by omega), if_neg (by omega)]
      rw [ed, Option.bind_none]
theorem sum_parse_eq (l : List UInt8) (hl : l.length = 16) : sum_Parse.f 60 (bs l) = some (hexR l) := by
  unfold sum_Parse.f
  rw [if_pos (by rw [bs_size]; omega), bs_size, hl]
  exact sum_parse_loop l hl 16 60 0 0 (by omega) (by omega) (by omega) (by omega)

theorem extract_take (s : ByteArray) (i n : Nat) (l : List UInt8) (h : s.data.toList.drop i = l) : s.extract i (i + n) = bs (l.take n) := by
  have h1 := bs_extract s.data.toList i (i + n)
  rw [bs_of, List.drop_take, h] at h1
  rw [h1]
  congr 2
  omega
theorem oneT_of {c : UInt8} {r : List UInt8} {t : Tk} (h : oneL c r = some t) : oneT c r = t := by rw [oneT, h]; rfl
theorem one_name (c : UInt8) (r : List UInt8) (h : smallB c = true) (hn : headN nameB (c :: r) ≤ 16) : oneT c r = (1, bs ((c :: r).take (headN nameB (c :: r))), 0, 0, 0, (headN nameB (c :: r) : Int)) := by
  apply oneT_of; unfold oneL; rw [if_pos h, if_pos hn]
theorem one_name_no (c : UInt8) (r : List UInt8) (h : smallB c = true) (hn : ¬ headN nameB (c :: r) ≤ 16) : oneT c r = zeroT := by
  apply oneT_of; unfold oneL; rw [if_pos h, if_neg hn]
/-- The number that digits spell. -/
def dg (l : List UInt8) : Nat := l.foldl (fun a c => a * 10 + (c.toNat - 48)) 0
theorem dg_snoc (l : List UInt8) (c : UInt8) : dg (l ++ [c]) = dg l * 10 + (c.toNat - 48) := by simp [dg]
theorem dg_lt : ∀ (n : Nat) (l : List UInt8), l.length ≤ n → (∀ c ∈ l, digitB c = true) → dg l < 10 ^ n
  | n, [], _, _ => by simp [dg]; exact Nat.pow_pos (by decide)
  | 0, c :: l, h, _ => by simp at h
  | n + 1, c :: l, h, hd => by
    rcases List.eq_nil_or_concat (c :: l) with e | ⟨m, x, e⟩
    · simp at e
    · rw [List.concat_eq_append] at e
      rw [e, dg_snoc]
      rw [e] at h hd
      have := dg_lt n m (by simp at h; omega) (fun y hy => hd y (by simp [hy]))
      have hx := hd x (by simp)
      simp only [digitB, Bool.and_eq_true, decide_eq_true_eq] at hx
      rw [Nat.pow_succ]
      omega
theorem one_num (c : UInt8) (r : List UInt8) (h : smallB c = false) (h2 : digitB c = true) (hn : headN digitB (c :: r) = 1 ∨ (headN digitB (c :: r) ≤ 9 ∧ c ≠ 48)) : oneT c r = (2, ⟨#[]⟩, (dg ((c :: r).take (headN digitB (c :: r))) : Int), 0, 0, (headN digitB (c :: r) : Int)) := by
  apply oneT_of; unfold oneL; rw [if_neg (by rw [h]; decide), if_pos h2, if_pos hn, atoi_digits c r h2]; rfl
theorem one_num_no (c : UInt8) (r : List UInt8) (h : smallB c = false) (h2 : digitB c = true) (hn : ¬ (headN digitB (c :: r) = 1 ∨ (headN digitB (c :: r) ≤ 9 ∧ c ≠ 48))) : oneT c r = zeroT := by
  apply oneT_of; unfold oneL; rw [if_neg (by rw [h]; decide), if_pos h2, if_neg hn]
theorem one_hash_yes (r : List UInt8) (v : Int) (hl : 16 < r.length + 1) (h : hexR (r.take 16) = (v, 0)) : oneT 35 r = (4, ⟨#[]⟩, 0, v, 0, 17) := by
  apply oneT_of; unfold oneL
  rw [if_neg (by decide), if_neg (by decide), if_neg (by decide), if_pos ⟨rfl, hl⟩, sum_parse_eq _ (by simp; omega), h]; rfl
theorem one_hash_bad (r : List UInt8) (v e : Int) (hl : 16 < r.length + 1) (h : hexR (r.take 16) = (v, e)) (he : e ≠ 0) : oneT 35 r = zeroT := by
  apply oneT_of; unfold oneL
  rw [if_neg (by decide), if_neg (by decide), if_neg (by decide), if_pos ⟨rfl, hl⟩, sum_parse_eq _ (by simp; omega), h, Option.bind_some, if_neg he]
theorem one_hash_short (r : List UInt8) (hl : ¬ 16 < r.length + 1) : oneT 35 r = zeroT := by
  apply oneT_of; unfold oneL
  rw [if_neg (by decide), if_neg (by decide), if_neg (by decide), if_neg (fun e => hl e.2), if_neg (by simp), if_neg (by decide)]
end Go.Proofs.YtfgfoofojofnmaaDoor.Q
namespace Go.Proofs.YtfgfoofojofnmaaDoor.Q
open Go.RowKit Go.Proofs.YtfgfoofojofnmaaDoorW.PrintWords Go.Proofs.YtfgfoofojofnmaaDoorW.PrintLast Go.Proofs.YtfgfoofojofnmaaDoorW.PrintMore
set_option linter.unusedVariables false
set_option linter.unusedSimpArgs false
open Go.Proofs.YtfgfoofojofnmaaDoor.Hand
/-! ### digits -/
theorem nDigits_le : ∀ (k u : Nat), 1 ≤ k → u < 10 ^ k → Lib.nDigits u ≤ k
  | 0, _, h, _ => absurd h (by omega)
  | 1, u, _, h => by rw [Lib.nDigits_small (by simpa using h)]; exact Nat.le_refl _
  | k + 2, u, _, h => by
    by_cases hu : u < 10
    · rw [Lib.nDigits_small hu]; omega
    · rw [Lib.nDigits_big hu]
      have := nDigits_le (k + 1) (u / 10) (by omega) (by rw [Nat.pow_succ] at h; omega)
      omega
/-! ### sixteen digits -/
def digs (k v : Nat) : List UInt8 := (List.range k).map fun i => hexDig (v / 16 ^ (k - 1 - i) % 16)
theorem digs_len (k v : Nat) : (digs k v).length = k := by simp [digs]
theorem hexF_lt (l : List UInt8) : ∀ (v u : Nat), v < 18446744073709551616 → hexF l v = some u → u < 18446744073709551616 := by
  induction l with
  | nil => intro v u hv h; simp only [hexF, Option.some.injEq] at h; omega
  | cons c l ih =>
    intro v u hv h
    simp only [hexF] at h
    cases hd : hexD c.toNat with
    | none => rw [hd] at h; simp at h
    | some d => rw [hd, Option.bind_some] at h; exact ih _ _ (by omega) h
/-! ### one token's own text -/
/-- A token as text. -/
def wtok (t : S39) : ByteArray := if t.f0 = 2 then itoaT t.f2 else if t.f0 = 3 then ((⟨#[39]⟩ : ByteArray) ++ t.f1) ++ (⟨#[39]⟩ : ByteArray) else if t.f0 = 4 then hashT t.f3 else t.f1
/-! ### how scans go together -/
/-! ### what tokens a scan finds -/
theorem tok_ok (c : UInt8) (r : List UInt8) (i : Nat) (hr : r.length ≤ 1024) (hn : nOf (oneT c r) ≠ 0) : TokOk (tokOf (oneT c r) i) := by
  have hz : ∀ {P : Prop}, oneT c r = zeroT → P := fun e => absurd (by rw [e]; rfl) hn
  have he := oneT_eq c r
  unfold oneL at he
  by_cases h1 : smallB c = true
  · rw [if_pos h1] at he
    by_cases h2 : headN nameB (c :: r) ≤ 16
    · rw [if_pos h2] at he
      rw [← Option.some.inj he]
      left
      refine ⟨rfl, ?_, rfl, rfl⟩
      have hp := head_pos nameB c r (by simp [nameB, h1])
      have ha := head_all nameB (c :: r)
      obtain ⟨k, hk⟩ : ∃ k, headN nameB (c :: r) = k + 1 := ⟨headN nameB (c :: r) - 1, by omega⟩
      refine ⟨c, r.take k, ?_, h1, fun x hx => ha x ?_, by rw [List.length_take]; omega⟩
      · show (bs _).data.toList = _
        rw [bs_list, hk, List.take_succ_cons]
      · rw [hk, List.take_succ_cons]; exact List.mem_cons_of_mem _ hx
    · rw [if_neg h2] at he; exact hz (Option.some.inj he).symm
  · rw [if_neg h1] at he
    by_cases h2 : digitB c = true
    · rw [if_pos h2] at he
      by_cases h3 : headN digitB (c :: r) = 1 ∨ (headN digitB (c :: r) ≤ 9 ∧ c ≠ 48)
      · rw [one_num c r (by simpa using h1) h2 h3]
        right; left
        have hd := dg_lt 9 ((c :: r).take (headN digitB (c :: r))) (by rw [List.length_take]; omega) (head_all digitB (c :: r))
        have h9 : (10 : Nat) ^ 9 = 1000000000 := by decide
        rw [h9] at hd
        exact ⟨rfl, rfl, Int.natCast_nonneg _, by show ((dg ((c :: r).take (headN digitB (c :: r))) : Nat) : Int) < _; omega, rfl⟩
      · rw [if_neg h3] at he; exact hz (Option.some.inj he).symm
    · rw [if_neg h2] at he
      by_cases h3 : c = 39
      · rw [if_pos h3] at he
        by_cases h4 : 0 ≤ Lib.indexByte r 39
        · rw [if_pos h4] at he
          by_cases h5 : 0 ≤ Lib.indexByte (r.take (Lib.indexByte r 39).toNat) 10
          · rw [if_pos h5] at he; exact hz (Option.some.inj he).symm
          · rw [if_neg h5] at he
            rw [← Option.some.inj he]
            right; right; left
            refine ⟨rfl, ⟨fun hm => ?_, fun hm => ?_, ?_⟩, rfl, rfl⟩
            · have hm : (39 : UInt8) ∈ r.take (Lib.indexByte r 39).toNat := by simpa [tokOf, bs_list] using hm
              obtain ⟨k, hk, e⟩ := List.mem_take_iff_getElem.1 hm
              have hs := (Lib.indexByte_some (l := r) (c := 39) (o := (Lib.indexByte r 39).toNat) (by omega)).2 k (by omega)
              exact hs (by rw [List.getElem?_eq_getElem (by omega), e])
            · have hm : (10 : UInt8) ∈ r.take (Lib.indexByte r 39).toNat := by simpa [tokOf, bs_list] using hm
              exact h5 (idx_mem 10 _ hm)
            · show (bs _).size ≤ 1024
              rw [bs_size, List.length_take]; omega
        · rw [if_neg h4] at he; exact hz (Option.some.inj he).symm
      · rw [if_neg h3] at he
        by_cases h4 : c = 35 ∧ 16 < r.length + 1
        · rw [if_pos h4, sum_parse_eq _ (by rw [List.length_take]; omega), Option.bind_some] at he
          unfold hexR at he
          cases hx : hexF (r.take 16) 0 with
          | none => rw [hx] at he; exact hz (Option.some.inj he).symm
          | some v =>
            rw [hx] at he
            have hlt := hexF_lt _ 0 v (by decide) hx
            rw [← Option.some.inj he]
            right; right; right; left
            exact ⟨rfl, rfl, rfl, Int.natCast_nonneg _, by show ((v : Nat) : Int) < _; omega⟩
        · rw [if_neg h4] at he
          by_cases h5 : (c :: r).take 2 = [46, 46] ∨ (c :: r).take 2 = [58, 58]
          · rw [if_pos h5] at he
            rw [← Option.some.inj he]
            right; right; right; right
            refine ⟨rfl, rfl, rfl, .inr ?_⟩
            rcases h5 with h5 | h5
            · left; show (bs _).data.toList = _; rw [bs_list, h5]
            · right; show (bs _).data.toList = _; rw [bs_list, h5]
          · rw [if_neg h5] at he
            by_cases h6 : signB c = true
            · rw [if_pos h6] at he
              rw [← Option.some.inj he]
              right; right; right; right
              exact ⟨rfl, rfl, rfl, .inl ⟨c, bs_list [c], h6⟩⟩
            · rw [if_neg h6] at he; exact hz (Option.some.inj he).symm
theorem scan_ok (n : Nat) : ∀ (l : List UInt8) (i : Nat) (out : List S39), l.length ≤ n → l.length ≤ 1024 → (∀ t ∈ out, TokOk t) → ∀ t ∈ (scanT l i out).1, TokOk t := by
  induction n with
  | zero =>
    intro l i out hl _ ho
    have : l = [] := List.length_eq_zero_iff.mp (by omega)
    subst this
    rw [scanT_nil]; exact ho
  | succ n ih =>
    intro l i out hl hm ho
    cases l with
    | nil => rw [scanT_nil]; exact ho
    | cons c r =>
      simp only [List.length_cons] at hl hm
      by_cases hb : c = 32 ∨ c = 9
      · rw [scanT_blank hb]; exact ih r _ _ (by omega) (by omega) ho
      · by_cases h0 : nOf (oneT c r) = 0
        · rw [scanT_bad hb h0]; intro t ht; exact absurd ht (by simp)
        · rw [scanT_tok hb h0]
          refine ih _ _ _ (by simp only [List.length_drop, List.length_cons]; omega) (by simp only [List.length_drop, List.length_cons]; omega) (fun t ht => ?_)
          rcases List.mem_append.1 ht with ht | ht
          · exact ho t ht
          · rw [List.mem_singleton] at ht; rw [ht]; exact tok_ok c r i (by omega) h0
theorem scanS_ok (a : ByteArray) : ∀ t ∈ (scanS a).1, TokOk t := by
  unfold scanS
  by_cases h : a.size ≤ 1024
  · rw [if_pos h]
    have e : a.data.toList.length = a.size := by simp
    exact scan_ok a.data.toList.length _ 0 [] (Nat.le_refl _) (by omega) (fun t ht => absurd ht (by simp))
  · rw [if_neg h]; intro t ht; exact absurd ht (by simp)
/-- What the parser answers without an error is such a tree. -/
theorem parse_wf (a : ByteArray) (h : (parseT a).2.2 = 0) : Wf (parseT a).1 := by
  have h1 := (wf_all (a.size : Int) (6 * (scanS a).1.length + 6)).1 ⟨(scanS a).1, false, 0⟩ (Nat.le_refl _) (scanS_ok a)
  have hr : readS a = exprF (a.size : Int) (6 * (scanS a).1.length + 6) ⟨(scanS a).1, false, 0⟩ := rfl
  rw [← hr] at h1
  unfold parseT at h ⊢
  by_cases hc : (scanS a).2.2 = 0
  · rw [if_pos hc] at h ⊢
    by_cases hb : (endS (a.size : Int) (readS a).2).bad = true
    · rw [if_pos hb] at h; exact absurd (show (31 : Int) = 0 from h) (by decide)
    · rw [if_neg hb] at h ⊢
      by_cases hd : 24 < depthT (readS a).1
      · rw [if_pos hd] at h; exact absurd (show (32 : Int) = 0 from h) (by decide)
      · rw [if_neg hd]
        refine h1.2 ?_
        unfold endS at hb
        by_cases hz : (readS a).2.ts.length = 0
        · rw [if_pos hz] at hb; simpa using hb
        · rw [if_neg hz, failS_bad] at hb; exact absurd rfl hb
  · rw [if_neg hc] at h; exact absurd h hc
theorem join_two (x y : List UInt8) (r : List (List UInt8)) (sep : List UInt8) : Lib.join (x :: y :: r) sep = x ++ (sep ++ Lib.join (y :: r) sep) := by
  simp [Lib.join_cons, Lib.joinTail]
end Go.Proofs.YtfgfoofojofnmaaDoor.Q
