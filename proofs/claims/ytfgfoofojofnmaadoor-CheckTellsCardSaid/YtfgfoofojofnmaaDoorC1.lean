/- Plain laws for what a tree comes to: the program's check and the document's are one function of the tree. -/
import Derived.Test.YtfgfoofojofnmaaDoorP4
import Derived.Test.YtfgfoofojofnmaaDoorP7
import Derived.Test.YtfgfoofojofnmaaDoorQF24
import Derived.Test.YtfgfoofojofnmaaDoorQF25
namespace Go.Proofs.YtfgfoofojofnmaaDoor.Q
open Go.RowKit Go.Proofs.YtfgfoofojofnmaaDoorW.PrintWords Go.Proofs.YtfgfoofojofnmaaDoorW.PrintLast Go.Proofs.YtfgfoofojofnmaaDoorW.PrintMore
set_option linter.unusedVariables false
set_option linter.unusedSimpArgs false
open Go.Proofs.YtfgfoofojofnmaaDoor.Hand
mutual
/-- The tree as the document has it. -/
def nodeT : S44 → S54
  | ⟨a, b, c, d, ks, e⟩ => ⟨a, b, c, d, nodeM ks, e⟩
def nodeM : List S44 → List S54
  | [] => []
  | k :: ks => nodeT k :: nodeM ks
end
theorem nodeT_is (x : S44) : nodeT x = ⟨x.f0, x.f1, x.f2, x.f3, nodeM x.f4, x.f5⟩ := by obtain ⟨a, b, c, d, ks, e⟩ := x; rw [nodeT]
theorem nodeM_map (ks : List S44) : nodeM ks = ks.map nodeT := by
  induction ks with
  | nil => rw [nodeM]; rfl
  | cons k ks ih => rw [nodeM, ih]; rfl
/-- The conversion of the law is nodeT. -/
theorem node_f (n : Nat) : ∀ k : Nat, ∀ x : S44, wt x ≤ n → 2 * wt x ≤ k → wt x ≤ 1000000 → forebearlaw23_Node.f k x.f0 x.f1 x.f2 x.f3 x.f4 x.f5 = some (x.f0, x.f1, x.f2, x.f3, nodeM x.f4, x.f5) := by
  induction n with
  | zero => exact fun k x h => absurd (wt_pos x) (by omega)
  | succ n ih =>
    intro k x hx hk hb
    have e := wt_is x
    have eM := wtM_len x.f4
    have loop : ∀ (d : Nat) (k i : Nat), d = x.f4.length - i → i ≤ x.f4.length → 2 * wtM (x.f4.drop i) + 1 ≤ k →
        forebearlaw23_Node.l0 k (i : Int) x.f0 x.f1 x.f2 x.f3 x.f4 x.f5 x.f0 x.f1 x.f2 x.f3 ((x.f4.take i).map nodeT) x.f5 = some (x.f0, x.f1, x.f2, x.f3, nodeM x.f4, x.f5) := by
      intro d
      induction d with
      | zero =>
        intro k i hd hi2 hk2
        obtain ⟨k, rfl⟩ : ∃ k1, k = k1 + 1 := ⟨k - 1, by omega⟩
        have hi3 : i = x.f4.length := by omega
        rw [forebearlaw23_Node.l0, if_neg (by omega), hi3, List.take_length, nodeM_map]
      | succ d ihd =>
        intro k i hd hi2 hk2
        obtain ⟨k, rfl⟩ : ∃ k1, k = k1 + 1 := ⟨k - 1, by omega⟩
        have hil : i < x.f4.length := by omega
        have hdr := List.drop_eq_getElem_cons hil
        have hmem := wtM_drop x.f4 i
        rw [hdr, wtM_cons] at hk2 hmem
        have hp := wt_pos (x.f4[i])
        have h9 := ihd k (i + 1) (by omega) (by omega) (by omega)
        have hlen : ((x.f4.take i).map nodeT).length = i := by simp; omega
        rw [forebearlaw23_Node.l0, if_pos (by omega), if_pos (by omega), rd44 _ _ hil, ih k (x.f4[i]) (by omega) (by omega) (by omega), Option.bind_some, if_pos (by omega)]
        have hw : wrap64 ((i : Int) + 1) = ((i + 1 : Nat) : Int) := by unfold wrap64; omega
        rw [hw, ← h9, List.take_succ_eq_append_getElem hil, List.map_append, List.map_cons, List.map_nil, nodeT_is x.f4[i]]
    obtain ⟨k, rfl⟩ : ∃ k1, k = k1 + 1 := ⟨k - 1, by omega⟩
    have h9 := loop x.f4.length k 0 (by omega) (by omega) (by simp only [List.drop_zero]; omega)
    rw [forebearlaw23_Node.f]
    exact h9
theorem among_f (a : ByteArray) (l : List ByteArray) (hl : l.length ≤ 1000000) (k : Nat) (hk : l.length < k) : forebearref24_among.f k a l = some (l.any (fun b => b.data.toList == a.toList)) := by
  have loop : ∀ (d : Nat) (k i : Nat), d = l.length - i → i ≤ l.length → d < k → forebearref24_among.l0 k a l (i : Int) = some ((l.drop i).any (fun b => b.data.toList == a.toList)) := by
    intro d
    induction d with
    | zero =>
      intro k i hd hi2 hk2
      obtain ⟨k, rfl⟩ : ∃ k1, k = k1 + 1 := ⟨k - 1, by omega⟩
      rw [forebearref24_among.l0, if_neg (by omega), List.drop_eq_nil_of_le (by omega)]
      rfl
    | succ d ihd =>
      intro k i hd hi2 hk2
      obtain ⟨k, rfl⟩ : ∃ k1, k = k1 + 1 := ⟨k - 1, by omega⟩
      have hil : i < l.length := by omega
      have h9 := ihd k (i + 1) (by omega) (by omega) (by omega)
      have hrd : (rdOf ByteArray.empty l (i : Int)) = l[i] := by simp [rdOf, List.getD_eq_getElem?_getD, List.getElem?_eq_getElem hil]
      rw [forebearref24_among.l0, if_pos (by omega), if_pos (by omega), hrd, List.drop_eq_getElem_cons hil, List.any_cons, ByteArray.toList_eq (l[i])]
      by_cases he : l[i].data.toList = a.toList
      · rw [if_pos he, beq_iff_eq.2 he]; rfl
      · have hw : wrap64 ((i : Int) + 1) = ((i + 1 : Nat) : Int) := by unfold wrap64; omega
        rw [if_neg he, beq_eq_false_iff_ne.2 he, hw, h9]; rfl
  rw [forebearref24_among.f]
  exact loop l.length k 0 (by omega) (by omega) hk
def takesT (c n : Nat) : List Int × Bool :=
  if c = 1 then ([], n == 0) else if c = 2 then ([3], n == 1) else if c = 3 then ([1, 2], n == 1 || n == 2) else if c = 5 then ([1, 3], n == 2) else if c = 6 then ([1, 2], n == 2)
  else if c = 7 then (List.replicate n 1, decide (1 ≤ n)) else ([1], n == 1)
theorem takes_loop (n : Nat) (hn : n ≤ 1000000) : ∀ (d k i : Nat), d = n - i → i ≤ n → d < k → forebearref24_takes.l0 k (n : Int) (List.replicate i 1) (i : Int) = some (List.replicate n 1, decide ((n : Int) ≥ 1)) := by
  intro d
  induction d with
  | zero =>
    intro k i hd hi2 hk2
    obtain ⟨k, rfl⟩ : ∃ k1, k = k1 + 1 := ⟨k - 1, by omega⟩
    obtain rfl : i = n := by omega
    rw [forebearref24_takes.l0, if_neg (by omega)]
  | succ d ihd =>
    intro k i hd hi2 hk2
    obtain ⟨k, rfl⟩ : ∃ k1, k = k1 + 1 := ⟨k - 1, by omega⟩
    have h9 := ihd k (i + 1) (by omega) (by omega) (by omega)
    rw [forebearref24_takes.l0, if_pos (by omega), if_pos (by rw [List.length_replicate]; omega)]
    have hw : wrap64 ((i : Int) + 1) = ((i + 1 : Nat) : Int) := by unfold wrap64; omega
    rw [hw, ← h9, List.replicate_succ']
theorem ieq (n : Nat) (m : Nat) : ((n : Int) == (m : Int)) = (n == m) := by
  rw [Bool.eq_iff_iff, beq_iff_eq, beq_iff_eq]; omega
theorem takes_f (a : ByteArray) (n : Nat) (hn : n ≤ 1000000) (k : Nat) (hk : n + 10 ≤ k) : forebearref24_takes.f k a (n : Int) = some (takesT (nameC a.toList) n) := by
  obtain ⟨k, rfl⟩ : ∃ k1, k = k1 + 3 := ⟨k - 3, by omega⟩
  have hl := takes_loop n hn n (k + 1) 0 (by omega) (by omega) (by omega)
  have hl' : forebearref24_takes.l0 (k + 1) (n : Int) [] 0 = some (List.replicate n 1, decide ((n : Int) ≥ 1)) := hl
  have t1 : (if (n : Int) = 1 then some ([1, 2], true) else some (([1, 2] : List Int), (n == 2))) = some ([1, 2], n == 1 || n == 2) := by
    by_cases h : n = 1
    · subst h; rfl
    · rw [if_neg (by omega), show (n == 1) = false from beq_eq_false_iff_ne.2 h]; rfl
  have e0 : ((n : Int) == 0) = (n == 0) := ieq n 0
  have e1 : ((n : Int) == 1) = (n == 1) := ieq n 1
  have e2 : ((n : Int) == 2) = (n == 2) := ieq n 2
  have e3 : decide ((n : Int) ≥ 1) = decide (1 ≤ n) := by rw [decide_eq_decide]; omega
  rw [forebearref24_takes.f, among_f _ _ (by decide) _ (by simp; omega), Option.bind_some]
  simp only [forebearref24_takes.j0, forebearref24_takes.j1, hl', Option.bind_some, e0, e1, e2, e3]
  simp only [t1]
  rw [among_f _ _ (by decide) _ (by simp; omega), Option.bind_some]
  generalize a.toList = s
  clear hl hl' t1 e0 e1 e2 e3
  induction s using names_cases
  case h0 hh =>
    obtain ⟨g1, g2, g3, g4, g5, g6, g7, g8, g9, g10, g11, g12, g13, g14, g15, g16, g17, g18, g19, g20, g21⟩ := hh
    simp [nameC, takesT, *]
    simp [Ne.symm g1, Ne.symm g2, Ne.symm g3, Ne.symm g4, Ne.symm g16, Ne.symm g17, Ne.symm g18]
  all_goals rfl
mutual
/-- A sign's node has two kids at most. -/
def fitT : S44 → Prop
  | ⟨op, _, _, _, ks, _⟩ => (op = 5 ∨ ks.length ≤ 2) ∧ fitM ks
def fitM : List S44 → Prop
  | [] => True
  | k :: ks => fitT k ∧ fitM ks
end
theorem fitT_is (x : S44) : fitT x = ((x.f0 = 5 ∨ x.f4.length ≤ 2) ∧ fitM x.f4) := by obtain ⟨a, b, c, d, ks, e⟩ := x; rw [fitT]
theorem fitM_at : ∀ (l : List S44), fitM l → ∀ (i : Nat) (h : i < l.length), fitT l[i]
  | k :: ks, hf, 0, _ => by rw [fitM] at hf; exact hf.1
  | k :: ks, hf, i + 1, h => by rw [fitM] at hf; exact fitM_at ks hf.2 i (by simpa using h)
theorem face_takes (s : List UInt8) (n : Nat) (hn : n ≤ 1000000) (h : (faceC (nameC s)).2.2.2.2 = true) :
    (((n : Int) < (faceC (nameC s)).1 ∨ (faceC (nameC s)).2.1 < (n : Int)) ↔ (takesT (nameC s) n).2 = false) ∧
    ((takesT (nameC s) n).2 = true → ∀ i, i < n → i < (takesT (nameC s) n).1.length ∧ (takesT (nameC s) n).1.getD i 0 = atT (faceC (nameC s)).2.2.1 i) := by
  generalize nameC s = c at *
  by_cases h1 : c = 1
  · subst h1
    rw [show faceC 1 = (0, 0, [], 1, true) from rfl, show takesT 1 n = ([], n == 0) from rfl]
    refine ⟨by simp; omega, fun e i hi => ?_⟩
    have hn1 : n = 0 := by simpa using e
    omega
  by_cases h2 : c = 2
  · subst h2
    rw [show faceC 2 = (1, 1, [3], 1, true) from rfl, show takesT 2 n = ([3], n == 1) from rfl]
    refine ⟨by simp; omega, fun e i hi => ?_⟩
    have hn1 : n = 1 := by simpa using e
    obtain rfl : i = 0 := by omega
    exact ⟨by show 0 < 1; decide, rfl⟩
  by_cases h3 : c = 3
  · subst h3
    rw [show faceC 3 = (1, 2, [1, 2], 1, true) from rfl, show takesT 3 n = ([1, 2], n == 1 || n == 2) from rfl]
    refine ⟨by simp; omega, fun e i hi => ?_⟩
    have hn1 : n = 1 ∨ n = 2 := by simpa using e
    have hi1 : i = 0 ∨ i = 1 := by omega
    rcases hi1 with rfl | rfl
    · exact ⟨by show 0 < 2; decide, rfl⟩
    · exact ⟨by show 1 < 2; decide, rfl⟩
  by_cases h4 : c = 4
  · subst h4
    rw [show faceC 4 = (1, 1, [1], 1, true) from rfl, show takesT 4 n = ([1], n == 1) from rfl]
    refine ⟨by simp; omega, fun e i hi => ?_⟩
    have hn1 : n = 1 := by simpa using e
    obtain rfl : i = 0 := by omega
    exact ⟨by show 0 < 1; decide, rfl⟩
  by_cases h5 : c = 5
  · subst h5
    rw [show faceC 5 = (2, 2, [1, 3], 1, true) from rfl, show takesT 5 n = ([1, 3], n == 2) from rfl]
    refine ⟨by simp; omega, fun e i hi => ?_⟩
    have hn1 : n = 2 := by simpa using e
    have hi1 : i = 0 ∨ i = 1 := by omega
    rcases hi1 with rfl | rfl
    · exact ⟨by show 0 < 2; decide, rfl⟩
    · exact ⟨by show 1 < 2; decide, rfl⟩
  by_cases h6 : c = 6
  · subst h6
    rw [show faceC 6 = (2, 2, [1, 2], 1, true) from rfl, show takesT 6 n = ([1, 2], n == 2) from rfl]
    refine ⟨by simp; omega, fun e i hi => ?_⟩
    have hn1 : n = 2 := by simpa using e
    have hi1 : i = 0 ∨ i = 1 := by omega
    rcases hi1 with rfl | rfl
    · exact ⟨by show 0 < 2; decide, rfl⟩
    · exact ⟨by show 1 < 2; decide, rfl⟩
  by_cases h7 : c = 7
  · subst h7
    rw [show faceC 7 = (1, 1073741824, [1], 1, true) from rfl, show takesT 7 n = (List.replicate n 1, decide (1 ≤ n)) from rfl]
    refine ⟨by simp; omega, fun e i hi => ⟨by simpa using hi, ?_⟩⟩
    have e1 : (List.replicate n (1 : Int)).getD i 0 = 1 := by simp [List.getD_eq_getElem?_getD, hi]
    show (List.replicate n (1 : Int)).getD i 0 = atT [1] i
    rw [e1]
    simp [atT]
  by_cases h8 : c = 8
  · subst h8
    rw [show faceC 8 = (1, 1, [1], 2, true) from rfl, show takesT 8 n = ([1], n == 1) from rfl]
    refine ⟨by simp; omega, fun e i hi => ?_⟩
    have hn1 : n = 1 := by simpa using e
    obtain rfl : i = 0 := by omega
    exact ⟨by show 0 < 1; decide, rfl⟩
  exfalso
  unfold faceC at h
  rw [if_neg h1, if_neg h2, if_neg h3, if_neg h4, if_neg h5, if_neg h6, if_neg h7, if_neg h8] at h
  exact absurd h (by decide)
theorem count_is (s : List UInt8) (h : (faceC (nameC s)).2.2.2.2 = true) : (faceC (nameC s)).2.2.2.1 = if s = [99, 111, 117, 110, 116] then 2 else 1 := by
  revert h
  induction s using names_cases
  case h0 hh =>
    obtain ⟨g1, g2, g3, g4, g5, g6, g7, g8, g9, g10, g11, g12, g13, g14, g15, g16, g17, g18, g19, g20, g21⟩ := hh
    simp [nameC, faceC, *]
  all_goals exact fun _ => rfl
theorem names_any (s : List UInt8) : (forebearref24_Names.f.getD []).any (fun b => b.data.toList == s) = (faceC (nameC s)).2.2.2.2 := by
  induction s using names_cases
  case h0 hh =>
    obtain ⟨g1, g2, g3, g4, g5, g6, g7, g8, g9, g10, g11, g12, g13, g14, g15, g16, g17, g18, g19, g20, g21⟩ := hh
    simp [nameC, faceC, forebearref24_Names.f, *]
    simp [Ne.symm g1, Ne.symm g2, Ne.symm g3, Ne.symm g4, Ne.symm g5, Ne.symm g6, Ne.symm g7, Ne.symm g8, Ne.symm g9, Ne.symm g10, Ne.symm g11, Ne.symm g12, Ne.symm g13, Ne.symm g14, Ne.symm g15, Ne.symm g16, Ne.symm g17, Ne.symm g18, Ne.symm g19, Ne.symm g20, Ne.symm g21]
  all_goals rfl
theorem rd54 (l : List S44) (i : Nat) (h : i < l.length) : rd_T54 (nodeM l) (i : Int) = nodeT l[i] := by
  rw [nodeM_map]
  simp [rd_T54, List.getD_eq_getElem?_getD, h]
/-- The document's check is checkT. -/
theorem ref_f (n : Nat) : ∀ k : Nat, ∀ x : S44, wt x ≤ n → fitT x → 4 * wt x + 40 ≤ k → wt x ≤ 1000000 → forebearref24_Check.f k x.f0 x.f1 x.f2 x.f3 (nodeM x.f4) x.f5 = some (checkT x) := by
  induction n with
  | zero => exact fun k x h => absurd (wt_pos x) (by omega)
  | succ n ih =>
    intro k x hx hfit hk hb
    have e := wt_is x
    have eM := wtM_len x.f4
    have hlen : (nodeM x.f4).length = x.f4.length := by rw [nodeM_map]; simp
    rw [fitT_is] at hfit
    have loop : ∀ (W tk : List Int) (is : Int), (∀ i, i < x.f4.length → i < W.length ∧ W.getD i 0 = atT tk i) → ∀ (d : Nat) (k i : Nat), d = x.f4.length - i → i ≤ x.f4.length → 4 * wtM (x.f4.drop i) + 41 ≤ k →
        forebearref24_Check.l0 k W is (i : Int) x.f0 x.f1 x.f2 x.f3 (nodeM x.f4) x.f5 = some (checkM tk is i (x.f4.drop i)) := by
      intro W tk is hW d
      induction d with
      | zero =>
        intro k i hd hi2 hk2
        obtain ⟨k, rfl⟩ : ∃ k1, k = k1 + 1 := ⟨k - 1, by omega⟩
        have hi3 : i = x.f4.length := by omega
        rw [forebearref24_Check.l0, hlen, if_neg (by omega), hi3, List.drop_length, checkM_nil]
      | succ d ihd =>
        intro k i hd hi2 hk2
        obtain ⟨k, rfl⟩ : ∃ k1, k = k1 + 1 := ⟨k - 1, by omega⟩
        have hil : i < x.f4.length := by omega
        have hdr := List.drop_eq_getElem_cons hil
        have hmem := wtM_drop x.f4 i
        rw [hdr, wtM_cons] at hk2 hmem
        have hp := wt_pos (x.f4[i])
        have h9 := ihd k (i + 1) (by omega) (by omega) (by omega)
        have hw1 := hW i hil
        have hkid := ih k (x.f4[i]) (by omega) (fitM_at _ hfit.2 i hil) (by omega) (by omega)
        rw [forebearref24_Check.l0, hlen, if_pos (by omega), if_pos (by omega), rd54 _ _ hil, nodeT_is]
        simp only
        rw [hkid, Option.bind_some, hdr, checkM_cons]
        by_cases hc : (checkT x.f4[i]).2.2 = 0
        · rw [if_pos hc, if_pos hc, if_pos (by omega), show rd W (i : Int) = atT tk i from by unfold rd; exact hw1.2]
          by_cases ht : (checkT x.f4[i]).1 = atT tk i
          · have hw : wrap64 ((i : Int) + 1) = ((i + 1 : Nat) : Int) := by unfold wrap64; omega
            rw [if_pos ht, if_pos ht, hw, h9]
          · rw [if_neg ht, if_neg ht]
        · rw [if_neg hc, if_neg hc]
    obtain ⟨k, rfl⟩ : ∃ k1, k = k1 + 30 := ⟨k - 30, by omega⟩
    have l2 : ∀ (W tk : List Int) (is : Int), (∀ i, i < x.f4.length → i < W.length ∧ W.getD i 0 = atT tk i) → forebearref24_Check.l0 (k + 27) W is ((0 : Nat) : Int) x.f0 x.f1 x.f2 x.f3 (nodeM x.f4) x.f5 = some (checkM tk is 0 x.f4) := fun W tk is h1 => loop W tk is h1 x.f4.length (k + 27) 0 (by omega) (by omega) (by simp only [List.drop_zero]; omega)
    have hj : ∀ b : Bool, (b = true ↔ (x.f0 = 1 ∨ x.f0 = 2)) → forebearref24_Check.j0 (k + 29) x.f0 b x.f0 x.f1 x.f2 x.f3 (nodeM x.f4) x.f5 = some (checkT x) := by
      intro b hb2
      rw [forebearref24_Check.j0, checkT_is]
      by_cases h12 : x.f0 = 1 ∨ x.f0 = 2
      · rw [if_pos (hb2.2 h12), if_pos h12]
      · rw [if_neg (fun e => h12 (hb2.1 e)), if_neg h12]
        by_cases h3 : x.f0 = 3
        · rw [if_pos h3, if_pos h3]
        · rw [if_neg h3, if_neg h3]
          by_cases h4 : x.f0 = 4
          · rw [if_pos h4, if_pos h4]
          · rw [if_neg h4, if_neg h4]
            by_cases h5 : x.f0 = 5
            · have hna := names_any x.f1.toList
              rw [forebearref24_Names.f, Option.getD_some] at hna
              rw [if_pos h5, if_pos h5, forebearref24_Names.f, Option.bind_some, among_f _ _ (by decide) _ (by simp), Option.bind_some, hna]
              by_cases hf : (faceC (nameC x.f1.toList)).2.2.2.2 = true
              · have hft := face_takes x.f1.toList x.f4.length (by omega) hf
                have hct := count_is x.f1.toList hf
                rw [if_pos hf, if_pos hf, hlen, takes_f _ _ (by omega) _ (by omega), Option.bind_some]
                by_cases hok : (takesT (nameC x.f1.toList) x.f4.length).2 = true
                · have hno : ¬ ((x.f4.length : Int) < (faceC (nameC x.f1.toList)).1 ∨ (faceC (nameC x.f1.toList)).2.1 < (x.f4.length : Int)) := fun e => by rw [hft.1.1 e] at hok; exact absurd hok (by decide)
                  have h9 := fun is => l2 _ (faceC (nameC x.f1.toList)).2.2.1 is (hft.2 hok)
                  rw [if_pos hok, if_neg (fun e => hno (.inl e)), if_neg (fun e => hno (.inr e))]
                  by_cases hcn : x.f1.toList = [99, 111, 117, 110, 116]
                  · rw [if_pos hcn, forebearref24_Check.j1]
                    rw [if_pos hcn] at hct
                    rw [hct]
                    exact h9 2
                  · rw [if_neg hcn, forebearref24_Check.j1]
                    rw [if_neg hcn] at hct
                    rw [hct]
                    exact h9 1
                · have hno := hft.1.2 (by simpa using hok)
                  rw [if_neg hok]
                  by_cases hlo : (x.f4.length : Int) < (faceC (nameC x.f1.toList)).1
                  · rw [if_pos hlo]
                  · rw [if_neg hlo, if_pos (hno.resolve_left hlo)]
              · rw [if_neg hf, if_neg hf]
            · rw [if_neg h5, if_neg h5, forebearref24_Check.j1]
              have h2 : x.f4.length ≤ 2 := hfit.1.resolve_left h5
              refine l2 [1, 1] [1] 1 (fun i hi => ?_)
              have : i = 0 ∨ i = 1 := by omega
              rcases this with rfl | rfl <;> exact ⟨by decide, rfl⟩
    rw [forebearref24_Check.f]
    by_cases h1 : x.f0 = 1
    · rw [if_pos h1]; exact hj _ (by simp [h1])
    · rw [if_neg h1]; exact hj _ (by simp [h1])
theorem fit_nd1 (op p : Int) {a : S44} (h : fitT a) : fitT (nd op [a] p) := by rw [fitT_is]; exact ⟨.inr (by simp [nd]), by show fitM [a]; rw [fitM, fitM]; exact ⟨h, trivial⟩⟩
theorem fit_nd2 (op p : Int) {a b : S44} (h : fitT a) (h2 : fitT b) : fitT (nd op [a, b] p) := by rw [fitT_is]; exact ⟨.inr (by simp [nd]), by show fitM [a, b]; rw [fitM, fitM, fitM]; exact ⟨h, h2, trivial⟩⟩
theorem fit_z : fitT z44 := by rw [fitT_is]; exact ⟨.inr (by simp [z44]), by show fitM []; rw [fitM]; trivial⟩
theorem fit_leaf (t : S39) : fitT (leafN t) := by rw [fitT_is]; exact ⟨.inr (by simp [leafN]), by show fitM []; rw [fitM]; trivial⟩
theorem fitM_app {ks : List S44} {k : S44} (h : fitM ks) (hk : fitT k) : fitM (ks ++ [k]) := by
  induction ks with
  | nil => rw [List.nil_append, fitM, fitM]; exact ⟨hk, trivial⟩
  | cons a ks ih => rw [fitM] at h; rw [List.cons_append, fitM]; exact ⟨h.1, ih h.2⟩
theorem fitM_nil : fitM [] := by rw [fitM]; trivial
/-- What the parser makes has two kids at most at each sign. -/
theorem fit_all (ev : Int) : ∀ n : Nat, (∀ st, fitT (exprF ev n st).1) ∧ (∀ a st, fitT a → fitT (exprL ev n a st).1) ∧ (∀ st, fitT (interF ev n st).1) ∧ (∀ a st, fitT a → fitT (interL ev n a st).1) ∧ (∀ st, fitT (rangedF ev n st).1) ∧ (∀ st, fitT (unaryF ev n st).1) ∧ (∀ a st, fitT a → fitT (upL ev n a st).1) ∧ (∀ st, fitT (atomF ev n st).1) ∧ (∀ t ks st, fitM ks → fitT (callL ev n t ks st).1)
  | 0 => ⟨fun _ => fit_z, fun _ _ h => h, fun _ => fit_z, fun _ _ h => h, fun _ => fit_z, fun _ => fit_z, fun _ _ h => h, fun _ => fit_z, fun _ _ _ _ => fit_z⟩
  | n + 1 => by
    obtain ⟨hE, hEL, hI, hIL, hR, hU, hUL, hA, hC⟩ := fit_all ev n
    have h5 : ∀ (t : S39) (ks : List S44), fitM ks → fitT ⟨5, t.f1, t.f2, t.f3, ks, t.f4⟩ := fun t ks h => by rw [fitT_is]; exact ⟨.inl rfl, h⟩
    have hcS : ∀ t st, fitT (callS ev n t st).1 := by
      intro t st
      rcases h : signAt (str1 41) st with _ | ⟨p, s1⟩
      · rw [callS_none h]; exact hC _ _ _ fitM_nil
      · rw [callS_some h]; exact h5 t [] fitM_nil
    refine ⟨fun st => hEL _ _ (hI st), fun a st ha => ?_, fun st => hIL _ _ (hR st), fun a st ha => ?_, fun st => ?_, fun st => ?_, fun a st ha => ?_, fun st => ?_, fun t ks st hks => ?_⟩
    · rcases h : signAt (str1 124) st with _ | ⟨p, s1⟩
      · rcases h2 : signAt (str1 45) st with _ | ⟨p, s1⟩
        · rw [exprL_none h h2]; exact ha
        · rw [exprL_minus h h2]; exact hEL _ _ (fit_nd2 _ _ ha (hI s1))
      · rw [exprL_or h]; exact hEL _ _ (fit_nd2 _ _ ha (hI s1))
    · rcases h : signAt (str1 38) st with _ | ⟨p, s1⟩
      · rw [interL_none h]; exact ha
      · rw [interL_some h]; exact hIL _ _ (fit_nd2 _ _ ha (hR s1))
    · rcases h : signAt (str2 46 46) (unaryF ev n st).2 with _ | ⟨p, s1⟩
      · rcases h2 : signAt (str2 58 58) (unaryF ev n st).2 with _ | ⟨p, s1⟩
        · rw [rangedF_none h h2]; exact hU st
        · rw [rangedF_colons h h2]; exact fit_nd2 _ _ (hU st) (hU s1)
      · rw [rangedF_dots h]; exact fit_nd2 _ _ (hU st) (hU s1)
    · rcases h : signAt (str1 33) st with _ | ⟨p, s1⟩
      · rw [unaryF_atom h]; exact hUL _ _ (hA st)
      · rw [unaryF_not h]; exact fit_nd1 _ _ (hU s1)
    · rcases h : signAt (str1 94) st with _ | ⟨p, ts, bad, pos⟩
      · rw [upL_none h]; exact ha
      · cases ts with
        | nil => rw [upL_nil h]; exact hUL _ _ (fit_nd1 _ _ ha)
        | cons t r =>
          by_cases h2 : t.f0 = 2
          · by_cases h4 : t.f2 = 0
            · rw [upL_zero h h2 h4]; exact fit_z
            · rw [upL_num h h2 h4]; refine hUL _ _ ?_; rw [fitT_is]; exact ⟨.inr (by simp), by show fitM [a]; rw [fitM, fitM]; exact ⟨ha, trivial⟩⟩
          · rw [upL_other h h2]; exact hUL _ _ (fit_nd1 _ _ ha)
    · rcases h : signAt (str1 40) st with _ | ⟨p, s1⟩
      · obtain ⟨ts, bad, pos⟩ := st
        cases ts with
        | nil => rw [atomF_nil h]; exact fit_z
        | cons t r =>
          by_cases h2 : t.f0 = 5
          · rw [atomF_sign h h2]; exact fit_z
          · by_cases h3 : t.f0 = 4 ∨ t.f0 = 2 ∨ t.f0 = 3
            · rw [atomF_leaf h h2 h3]; exact fit_leaf t
            · rcases h4 : signAt (str1 40) ⟨r, bad, pos⟩ with _ | ⟨p, s1⟩
              · rw [atomF_name h h2 h3 h4]; exact fit_leaf t
              · rw [atomF_call h h2 h3 h4]; exact hcS t s1
      · rcases h5 : signAt (str1 41) (exprF ev n s1).2 with _ | ⟨p2, s2⟩
        · rw [atomF_br_no h h5]; exact fit_z
        · rw [atomF_br h h5]; exact hE s1
    · rcases h : signAt (str1 44) (exprF ev n st).2 with _ | ⟨p, s2⟩
      · rcases h2 : signAt (str1 41) (exprF ev n st).2 with _ | ⟨p, s2⟩
        · rw [callL_bad h h2]; exact fit_z
        · rw [callL_end h h2]; exact h5 t _ (fitM_app hks (hE st))
      · rw [callL_comma h]; exact hC _ _ _ (fitM_app hks (hE st))
theorem parse_fit (a : ByteArray) : fitT (parseT a).1 := by
  unfold parseT
  split
  · split
    · exact fit_z
    · split
      · exact fit_z
      · exact (fit_all _ _).1 _
  · exact fit_z
theorem parse_wt (a : ByteArray) : wt (parseT a).1 ≤ 2049 := by
  have hz : wt z44 ≤ 2049 := by rw [wt_z]; decide
  unfold parseT
  split
  · split
    · exact hz
    · split
      · exact hz
      · exact readS_wt a
  · exact hz
end Go.Proofs.YtfgfoofojofnmaaDoor.Q
