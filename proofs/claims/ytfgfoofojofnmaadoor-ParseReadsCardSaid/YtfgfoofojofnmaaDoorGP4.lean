/- Plain laws for what the parser answers: how large its trees are; how deep; and the parser as one function of the text. -/
import Derived.Test.YtfgfoofojofnmaaDoorGP2
import Derived.Test.YtfgfoofojofnmaaDoorGL1
import Derived.Test.YtfgfoofojofnmaaDoorGQF15
import Derived.Test.YtfgfoofojofnmaaDoorGQF51
set_option linter.unusedVariables false
set_option linter.unusedSimpArgs false
namespace Go.Proofs.YtfgfoofojofnmaaDoor.Q
open Go.RowKit Go.Proofs.YtfgfoofojofnmaaDoorW.PrintWords Go.Proofs.YtfgfoofojofnmaaDoorW.PrintLast Go.Proofs.YtfgfoofojofnmaaDoorW.PrintMore
set_option linter.unusedVariables false
set_option linter.unusedSimpArgs false
open Go.Proofs.YtfgfoofojofnmaaDoor.Hand
mutual
/-- How many nodes a tree has. -/
def wt : S44 → Nat
  | ⟨_, _, _, _, ks, _⟩ => 1 + wtM ks
def wtM : List S44 → Nat
  | [] => 0
  | k :: ks => wt k + wtM ks
end
theorem wt_mk (a : Int) (b : ByteArray) (c d : Int) (ks : List S44) (e : Int) : wt ⟨a, b, c, d, ks, e⟩ = 1 + wtM ks := by rw [wt]
theorem wtM_nil : wtM [] = 0 := by rw [wtM]
theorem wtM_cons (k : S44) (ks : List S44) : wtM (k :: ks) = wt k + wtM ks := by rw [wtM]
theorem wt_is (x : S44) : wt x = 1 + wtM x.f4 := by obtain ⟨a, b, c, d, ks, e⟩ := x; exact wt_mk ..
theorem wt_pos (x : S44) : 1 ≤ wt x := by rw [wt_is]; omega
theorem wtM_app (ks : List S44) (k : S44) : wtM (ks ++ [k]) = wtM ks + wt k := by
  induction ks with
  | nil => simp [wtM_nil, wtM_cons]
  | cons a ks ih => rw [List.cons_append, wtM_cons, wtM_cons, ih]; omega
theorem wtM_len (ks : List S44) : ks.length ≤ wtM ks := by
  induction ks with
  | nil => simp
  | cons a ks ih => rw [wtM_cons, List.length_cons]; have := wt_pos a; omega
theorem wt_z : wt z44 = 1 := by rw [wt_is]; simp [z44, wtM_nil]
theorem wt_leaf (t : S39) : wt (leafN t) = 1 := by rw [wt_is]; simp [leafN, wtM_nil]
theorem wt_nd1 (op p : Int) (a : S44) : wt (nd op [a] p) = 1 + wt a := by rw [wt_is]; simp [nd, wtM_nil, wtM_cons]
theorem wt_nd2 (op p : Int) (a b : S44) : wt (nd op [a, b] p) = 1 + (wt a + wt b) := by rw [wt_is]; simp [nd, wtM_nil, wtM_cons]
/-- A tree has no more than two nodes for each token that is gone, and one. -/
theorem wt_all (ev : Int) : ∀ n : Nat, (∀ st, wt (exprF ev n st).1 + 2 * (exprF ev n st).2.ts.length ≤ 2 * st.ts.length + 1) ∧ (∀ a st, wt (exprL ev n a st).1 + 2 * (exprL ev n a st).2.ts.length ≤ wt a + 2 * st.ts.length) ∧ (∀ st, wt (interF ev n st).1 + 2 * (interF ev n st).2.ts.length ≤ 2 * st.ts.length + 1) ∧ (∀ a st, wt (interL ev n a st).1 + 2 * (interL ev n a st).2.ts.length ≤ wt a + 2 * st.ts.length) ∧ (∀ st, wt (rangedF ev n st).1 + 2 * (rangedF ev n st).2.ts.length ≤ 2 * st.ts.length + 1) ∧ (∀ st, wt (unaryF ev n st).1 + 2 * (unaryF ev n st).2.ts.length ≤ 2 * st.ts.length + 1) ∧ (∀ a st, wt (upL ev n a st).1 + 2 * (upL ev n a st).2.ts.length ≤ wt a + 2 * st.ts.length) ∧ (∀ st, wt (atomF ev n st).1 + 2 * (atomF ev n st).2.ts.length ≤ 2 * st.ts.length + 1) ∧ (∀ t ks st, wt (callL ev n t ks st).1 + 2 * (callL ev n t ks st).2.ts.length ≤ wtM ks + 2 * st.ts.length + 2)
  | 0 => by
    refine ⟨fun st => ?_, fun a st => ?_, fun st => ?_, fun a st => ?_, fun st => ?_, fun st => ?_, fun a st => ?_, fun st => ?_, fun t ks st => ?_⟩
    all_goals first | (show wt z44 + 2 * st.ts.length ≤ _; rw [wt_z]; omega) | exact Nat.le_refl _
  | n + 1 => by
    obtain ⟨hE, hEL, hI, hIL, hR, hU, hUL, hA, hC⟩ := wt_all ev n
    have hcS : ∀ t st, wt (callS ev n t st).1 + 2 * (callS ev n t st).2.ts.length ≤ 2 * st.ts.length + 2 := by
      intro t st
      rcases h : signAt (str1 41) st with _ | ⟨p, s1⟩
      · rw [callS_none h]; have := hC t [] st; rw [wtM_nil] at this; omega
      · rw [callS_some h]; have := signAt_len h; show wt _ + 2 * s1.ts.length ≤ _; rw [wt_mk, wtM_nil]; omega
    have hf : ∀ st : St, wt z44 + 2 * (failS ev st).ts.length ≤ 1 := by intro st; rw [failS_ts, wt_z]; simp
    refine ⟨fun st => ?_, fun a st => ?_, fun st => ?_, fun a st => ?_, fun st => ?_, fun st => ?_, fun a st => ?_, fun st => ?_, fun t ks st => ?_⟩
    · exact Nat.le_trans (hEL _ _) (hI st)
    · have hp := wt_pos a
      rcases h : signAt (str1 124) st with _ | ⟨p, s1⟩
      · rcases h2 : signAt (str1 45) st with _ | ⟨p, s1⟩
        · rw [exprL_none h h2]; exact Nat.le_refl _
        · rw [exprL_minus h h2]; have h3 := signAt_len h2; have h4 := hI s1; refine Nat.le_trans (hEL _ _) ?_; rw [wt_nd2]; omega
      · rw [exprL_or h]; have h3 := signAt_len h; have h4 := hI s1; refine Nat.le_trans (hEL _ _) ?_; rw [wt_nd2]; omega
    · exact Nat.le_trans (hIL _ _) (hR st)
    · have hp := wt_pos a
      rcases h : signAt (str1 38) st with _ | ⟨p, s1⟩
      · rw [interL_none h]; exact Nat.le_refl _
      · rw [interL_some h]; have h3 := signAt_len h; have h4 := hR s1; refine Nat.le_trans (hIL _ _) ?_; rw [wt_nd2]; omega
    · have h5 := hU st
      rcases h : signAt (str2 46 46) (unaryF ev n st).2 with _ | ⟨p, s1⟩
      · rcases h2 : signAt (str2 58 58) (unaryF ev n st).2 with _ | ⟨p, s1⟩
        · rw [rangedF_none h h2]; exact h5
        · rw [rangedF_colons h h2]; have h3 := signAt_len h2; have h4 := hU s1; show wt (nd _ _ _) + 2 * (unaryF ev n s1).2.ts.length ≤ _; rw [wt_nd2]; omega
      · rw [rangedF_dots h]; have h3 := signAt_len h; have h4 := hU s1; show wt (nd _ _ _) + 2 * (unaryF ev n s1).2.ts.length ≤ _; rw [wt_nd2]; omega
    · rcases h : signAt (str1 33) st with _ | ⟨p, s1⟩
      · rw [unaryF_atom h]; exact Nat.le_trans (hUL _ _) (hA st)
      · rw [unaryF_not h]; have h3 := signAt_len h; have h4 := hU s1; show wt (nd _ _ _) + 2 * (unaryF ev n s1).2.ts.length ≤ _; rw [wt_nd1]; omega
    · have hp := wt_pos a
      rcases h : signAt (str1 94) st with _ | ⟨p, ts, bad, pos⟩
      · rw [upL_none h]; exact Nat.le_refl _
      · have h3 := signAt_len h
        cases ts with
        | nil => rw [upL_nil h]; refine Nat.le_trans (hUL _ _) ?_; rw [wt_nd1]; simp only [List.length_nil] at *; omega
        | cons t r =>
          simp only [List.length_cons] at h3
          by_cases h2 : t.f0 = 2
          · by_cases h4 : t.f2 = 0
            · rw [upL_zero h h2 h4]; have := hf ⟨t :: r, bad, pos⟩; exact Nat.le_trans this (by omega)
            · rw [upL_num h h2 h4]; refine Nat.le_trans (hUL _ _) ?_; rw [wt_mk, wtM_cons, wtM_nil]; show _ + 2 * r.length ≤ _; omega
          · rw [upL_other h h2]; refine Nat.le_trans (hUL _ _) ?_; rw [wt_nd1]; show _ + 2 * (t :: r).length ≤ _; simp only [List.length_cons]; omega
    · rcases h : signAt (str1 40) st with _ | ⟨p, s1⟩
      · obtain ⟨ts, bad, pos⟩ := st
        cases ts with
        | nil => rw [atomF_nil h]; exact hf _
        | cons t r =>
          by_cases h2 : t.f0 = 5
          · rw [atomF_sign h h2]; exact Nat.le_trans (hf _) (by omega)
          · by_cases h3 : t.f0 = 4 ∨ t.f0 = 2 ∨ t.f0 = 3
            · rw [atomF_leaf h h2 h3]; show wt (leafN t) + 2 * r.length ≤ 2 * (t :: r).length + 1; rw [wt_leaf]; simp only [List.length_cons]; omega
            · rcases h4 : signAt (str1 40) ⟨r, bad, pos⟩ with _ | ⟨p, s1⟩
              · rw [atomF_name h h2 h3 h4]; show wt (leafN t) + 2 * r.length ≤ 2 * (t :: r).length + 1; rw [wt_leaf]; simp only [List.length_cons]; omega
              · rw [atomF_call h h2 h3 h4]; have h5 := signAt_len h4; have h6 := hcS t s1; show _ ≤ 2 * (t :: r).length + 1; simp only [List.length_cons] at *; omega
      · have h3 := signAt_len h
        have h4 := hE s1
        rcases h5 : signAt (str1 41) (exprF ev n s1).2 with _ | ⟨p2, s2⟩
        · rw [atomF_br_no h h5]; exact Nat.le_trans (hf _) (by omega)
        · rw [atomF_br h h5]; have h6 := signAt_len h5; show wt (exprF ev n s1).1 + 2 * s2.ts.length ≤ _; omega
    · have h4 := hE st
      rcases h : signAt (str1 44) (exprF ev n st).2 with _ | ⟨p, s2⟩
      · rcases h2 : signAt (str1 41) (exprF ev n st).2 with _ | ⟨p, s2⟩
        · rw [callL_bad h h2]; exact Nat.le_trans (hf _) (by omega)
        · rw [callL_end h h2]; have h6 := signAt_len h2; show wt _ + 2 * s2.ts.length ≤ _; rw [wt_mk, wtM_app]; omega
      · rw [callL_comma h]; have h6 := signAt_len h; refine Nat.le_trans (hC _ _ _) ?_; rw [wtM_app]; omega
theorem scan_few (n : Nat) : ∀ (l : List UInt8) (i : Nat) (out : List S39), l.length ≤ n → out.length ≤ i → (scanT l i out).1.length ≤ i + l.length := by
  induction n with
  | zero =>
    intro l i out hl ho
    have : l = [] := List.length_eq_zero_iff.mp (by omega)
    subst this
    rw [scanT_nil]
    simpa using ho
  | succ n ih =>
    intro l i out hl ho
    cases l with
    | nil => rw [scanT_nil]; simpa using ho
    | cons c r =>
      simp only [List.length_cons] at hl ⊢
      by_cases hb : c = 32 ∨ c = 9
      · rw [scanT_blank hb]
        have := ih r (i + 1) out (by omega) (by omega)
        omega
      · by_cases h0 : nOf (oneT c r) = 0
        · rw [scanT_bad hb h0]; simp
        · have hq := nOf_le c r
          rw [scanT_tok hb h0]
          have := ih ((c :: r).drop (nOf (oneT c r))) (i + nOf (oneT c r)) (out ++ [tokOf (oneT c r) i]) (by simp only [List.length_drop, List.length_cons]; omega) (by simp; omega)
          simp only [List.length_drop, List.length_cons] at this
          omega
/-- The tokens of a text, the place, the code. -/
def scanS (a : ByteArray) : List S39 × Int × Int := if a.size ≤ 1024 then scanT a.data.toList 0 [] else ([], 0, 4)
theorem scanS_f (a : ByteArray) : lex_Scan.f a = some (scanS a) := by
  unfold lex_Scan.f scanS
  by_cases h : a.size ≤ 1024
  · rw [if_pos h, if_pos h]
  · rw [if_neg h, if_neg h]
theorem scanS_few (a : ByteArray) : (scanS a).1.length ≤ 1024 := by
  unfold scanS
  by_cases h : a.size ≤ 1024
  · rw [if_pos h]
    have := scan_few a.size a.data.toList 0 [] (by simp) (by simp)
    have e : a.data.toList.length = a.size := by simp
    omega
  · rw [if_neg h]; simp
/-- Where the tokens are all read: the reader fails if any is left. -/
def endS (ev : Int) (st : St) : St := if st.ts.length = 0 then st else failS ev st
def readS (a : ByteArray) : S44 × St := exprF (a.size : Int) (6 * (scanS a).1.length + 6) ⟨(scanS a).1, false, 0⟩
/-- The parser: the tree, the place, the code. -/
def parseT (a : ByteArray) : S44 × Int × Int :=
  if (scanS a).2.2 = 0 then
    if (endS (a.size : Int) (readS a).2).bad = true then (z44, (endS (a.size : Int) (readS a).2).pos, 31)
    else if 24 < depthT (readS a).1 then (z44, 0, 32) else ((readS a).1, 0, 0)
  else (z44, (scanS a).2.1, (scanS a).2.2)
theorem readS_wt (a : ByteArray) : wt (readS a).1 ≤ 2049 := by
  have h1 := (wt_all (a.size : Int) (6 * (scanS a).1.length + 6)).1 ⟨(scanS a).1, false, 0⟩
  have h2 := scanS_few a
  unfold readS
  generalize 6 * (scanS a).1.length + 6 = m at *
  simp only at h1
  omega
theorem depthT_mk (a : Int) (b : ByteArray) (c d : Int) (ks : List S44) (e : Int) : depthT ⟨a, b, c, d, ks, e⟩ = depthM ks + 1 := by rw [depthT]
theorem depthT_is (x : S44) : depthT x = depthM x.f4 + 1 := by obtain ⟨a, b, c, d, ks, e⟩ := x; exact depthT_mk ..
theorem depthM_nil : depthM [] = 0 := by rw [depthM]
theorem depthM_cons (k : S44) (ks : List S44) : depthM (k :: ks) = max (depthT k) (depthM ks) := by rw [depthM]
theorem depth_wt (n : Nat) : (∀ x, wt x ≤ n → depthT x ≤ wt x) ∧ (∀ ks, wtM ks ≤ n → depthM ks ≤ wtM ks) := by
  induction n with
  | zero =>
    refine ⟨fun x h => absurd (wt_pos x) (by omega), fun ks h => ?_⟩
    cases ks with
    | nil => rw [depthM_nil]; omega
    | cons k ks => rw [wtM_cons] at h; have := wt_pos k; omega
  | succ n ih =>
    have hM : ∀ ks, wtM ks ≤ n → depthM ks ≤ wtM ks := ih.2
    refine ⟨fun x h => ?_, fun ks h => ?_⟩
    · rw [wt_is] at h; rw [depthT_is, wt_is]; have := hM x.f4 (by omega); omega
    · induction ks with
      | nil => rw [depthM_nil]; omega
      | cons k ks ih2 =>
        rw [wtM_cons] at h
        rw [depthM_cons, wtM_cons]
        have h1 := ih2 (by omega)
        have h2 : depthT k ≤ wt k := by
          rw [depthT_is]
          have e := wt_is k
          have := hM k.f4 (by omega)
          omega
        omega
theorem mx_nat (a b : Nat) : mx (a : Int) (b : Int) = ((max a b : Nat) : Int) := by
  unfold mx
  split <;> omega
/-- The program's depth is the tree's. -/
theorem depth_f (n : Nat) : ∀ k : Nat, (∀ x : S44, wt x ≤ n → 2 * wt x ≤ k → wt x < 4611686018427387904 → parse_depth.f k x.f0 x.f1 x.f2 x.f3 x.f4 x.f5 = some (depthT x : Int)) := by
  induction n with
  | zero => exact fun k x h => absurd (wt_pos x) (by omega)
  | succ n ih =>
    intro k x hx hk hb
    have e := wt_is x
    have eM := wtM_len x.f4
    have step : ∀ (d : Nat) (k i m : Nat), d = x.f4.length - i → i ≤ x.f4.length → 2 * wtM (x.f4.drop i) + 1 ≤ k → m ≤ 4611686018427387904 → parse_depth.l0 k (m : Int) x.f4 (x.f4.length : Int) (i : Int) = some ((max m (depthM (x.f4.drop i)) : Nat) + 1 : Int) := by
      intro d
      induction d with
      | zero =>
        intro k i m hd hi hk2 hm
        obtain ⟨k, rfl⟩ : ∃ k1, k = k1 + 1 := ⟨k - 1, by omega⟩
        have hi2 : i = x.f4.length := by omega
        rw [parse_depth.l0, if_neg (by omega), hi2, List.drop_length, depthM_nil]
        have : wrap64 ((m : Int) + 1) = (m : Int) + 1 := by unfold wrap64; omega
        rw [this]
        simp
      | succ d ihd =>
        intro k i m hd hi hk2 hm
        obtain ⟨k, rfl⟩ : ∃ k1, k = k1 + 1 := ⟨k - 1, by omega⟩
        have hil : i < x.f4.length := by omega
        have hdr := List.drop_eq_getElem_cons hil
        have hrd : rd_T44 x.f4 (i : Int) = x.f4[i] := by simp [rd_T44, List.getD_eq_getElem?_getD, List.getElem?_eq_getElem hil]
        rw [hdr, wtM_cons] at hk2
        have hp := wt_pos (x.f4[i])
        have hmem : wt (x.f4[i]) + wtM (x.f4.drop (i + 1)) ≤ wtM x.f4 := by
          have : ∀ (l : List S44) (j : Nat), wtM (l.drop j) ≤ wtM l := by
            intro l
            induction l with
            | nil => intro j; simp
            | cons a l ihl =>
              intro j
              cases j with
              | zero => simp
              | succ j => rw [List.drop_succ_cons, wtM_cons]; have := ihl j; omega
          have h3 := this x.f4 i
          rw [hdr, wtM_cons] at h3
          exact h3
        have hdep := (depth_wt (wt (x.f4[i]))).1 (x.f4[i]) (Nat.le_refl _)
        rw [parse_depth.l0, if_pos (by omega), if_pos (by omega), if_pos (by omega), hrd, ih k (x.f4[i]) (by omega) (by omega) (by omega), Option.bind_some, mx_nat]
        have h9 := ihd k (i + 1) (max m (depthT (x.f4[i]))) (by omega) (by omega) (by omega) (by omega)
        have hw : wrap64 ((i : Int) + 1) = ((i + 1 : Nat) : Int) := by unfold wrap64; omega
        rw [hw, h9, hdr, depthM_cons]
        clear hw h9
        rw [Nat.max_assoc]
    obtain ⟨k, rfl⟩ : ∃ k1, k = k1 + 1 := ⟨k - 1, by omega⟩
    rw [parse_depth.f, show (0 : Int) = ((0 : Nat) : Int) from rfl, step x.f4.length k 0 0 (by omega) (by omega) (by simp only [List.drop_zero]; omega) (by omega), depthT_is]
    simp
end Go.Proofs.YtfgfoofojofnmaaDoor.Q
