/- forebearlaw23.ParseDeep in plain words; the document's depth. -/
import Derived.Test.YtfgfoofojofnmaaDoorT4
import Derived.Test.YtfgfoofojofnmaaDoorP4
import Derived.Test.YtfgfoofojofnmaaDoorQF25
import Derived.Test.YtfgfoofojofnmaaDoorQF31
namespace Go.Proofs.YtfgfoofojofnmaaDoor.Q
open Go.RowKit Go.Proofs.YtfgfoofojofnmaaDoorW.PrintWords Go.Proofs.YtfgfoofojofnmaaDoorW.PrintLast Go.Proofs.YtfgfoofojofnmaaDoorW.PrintMore
set_option linter.unusedVariables false
set_option linter.unusedSimpArgs false
open Go.Proofs.YtfgfoofojofnmaaDoor.Hand
theorem wtM_dropD (l : List S44) : ∀ j : Nat, wtM (l.drop j) ≤ wtM l := by
  induction l with
  | nil => intro j; simp
  | cons a l ih =>
    intro j
    cases j with
    | zero => simp
    | succ j => rw [List.drop_succ_cons, wtM_cons]; have := ih j; omega
theorem rd44D (l : List S44) (i : Nat) (h : i < l.length) : rd_T44 l (i : Int) = l[i] := by simp [rd_T44, List.getD_eq_getElem?_getD, List.getElem?_eq_getElem h]
mutual
/-- The tree as the document has it. -/
def nodeT : S44 → S54
  | ⟨a, b, c, d, ks, e⟩ => ⟨a, b, c, d, nodeM ks, e⟩
def nodeM : List S44 → List S54
  | [] => []
  | k :: ks => nodeT k :: nodeM ks
end
theorem nodeT_is (x : S44) : nodeT x = ⟨x.f0, x.f1, x.f2, x.f3, nodeM x.f4, x.f5⟩ := by obtain ⟨a, b, c, d, ks, e⟩ := x; rw [nodeT]
theorem nodeM_map (ks : List S44) : nodeM ks = ks.map nodeT := by
  induction ks with
  | nil => rw [nodeM]; rfl
  | cons k ks ih => rw [nodeM, ih]; rfl
/-- The conversion of the law is nodeT. -/
theorem node_f (n : Nat) : ∀ k : Nat, ∀ x : S44, wt x ≤ n → 2 * wt x ≤ k → wt x ≤ 1000000 → forebearlaw23_Node.f k x.f0 x.f1 x.f2 x.f3 x.f4 x.f5 = some (x.f0, x.f1, x.f2, x.f3, nodeM x.f4, x.f5) := by
  induction n with
  | zero => exact fun k x h => absurd (wt_pos x) (by omega)
  | succ n ih =>
    intro k x hx hk hb
    have e := wt_is x
    have eM := wtM_len x.f4
    have loop : ∀ (d : Nat) (k i : Nat), d = x.f4.length - i → i ≤ x.f4.length → 2 * wtM (x.f4.drop i) + 1 ≤ k →
        forebearlaw23_Node.l0 k (i : Int) x.f0 x.f1 x.f2 x.f3 x.f4 x.f5 x.f0 x.f1 x.f2 x.f3 ((x.f4.take i).map nodeT) x.f5 = some (x.f0, x.f1, x.f2, x.f3, nodeM x.f4, x.f5) := by
      intro d
      induction d with
      | zero =>
        intro k i hd hi2 hk2
        obtain ⟨k, rfl⟩ : ∃ k1, k = k1 + 1 := ⟨k - 1, by omega⟩
        have hi3 : i = x.f4.length := by omega
        rw [forebearlaw23_Node.l0, if_neg (by omega), hi3, List.take_length, nodeM_map]
      | succ d ihd =>
        intro k i hd hi2 hk2
        obtain ⟨k, rfl⟩ : ∃ k1, k = k1 + 1 := ⟨k - 1, by omega⟩
        have hil : i < x.f4.length := by omega
        have hdr := List.drop_eq_getElem_cons hil
        have hmem := wtM_dropD x.f4 i
        rw [hdr, wtM_cons] at hk2 hmem
        have hp := wt_pos (x.f4[i])
        have h9 := ihd k (i + 1) (by omega) (by omega) (by omega)
        have hlen : ((x.f4.take i).map nodeT).length = i := by simp; omega
        rw [forebearlaw23_Node.l0, if_pos (by omega), if_pos (by omega), rd44D _ _ hil, ih k (x.f4[i]) (by omega) (by omega) (by omega), Option.bind_some, if_pos (by omega)]
        have hw : wrap64 ((i : Int) + 1) = ((i + 1 : Nat) : Int) := by unfold wrap64; omega
        rw [hw, ← h9, List.take_succ_eq_append_getElem hil, List.map_append, List.map_cons, List.map_nil, nodeT_is x.f4[i]]
    obtain ⟨k, rfl⟩ : ∃ k1, k = k1 + 1 := ⟨k - 1, by omega⟩
    have h9 := loop x.f4.length k 0 (by omega) (by omega) (by simp only [List.drop_zero]; omega)
    rw [forebearlaw23_Node.f]
    exact h9
theorem rd54 (l : List S44) (i : Nat) (h : i < l.length) : rd_T54 (nodeM l) (i : Int) = nodeT l[i] := by
  rw [nodeM_map]
  simp [rd_T54, List.getD_eq_getElem?_getD, h]
theorem nodeM_len (ks : List S44) : (nodeM ks).length = ks.length := by rw [nodeM_map, List.length_map]
set_option maxHeartbeats 1000000 in
theorem rdepth_f (n : Nat) : ∀ k : Nat, (∀ x : S44, wt x ≤ n → 2 * wt x ≤ k → wt x < 4611686018427387904 → forebearref23_Depth.f k x.f0 x.f1 x.f2 x.f3 (nodeM x.f4) x.f5 = some (depthT x : Int)) := by
  induction n with
  | zero => exact fun k x h => absurd (wt_pos x) (by omega)
  | succ n ih =>
    intro k x hx hk hb
    have e := wt_is x
    have eM := wtM_len x.f4
    have step : ∀ (d : Nat) (k i m : Nat), d = x.f4.length - i → i ≤ x.f4.length → 2 * wtM (x.f4.drop i) + 1 ≤ k → m ≤ 4611686018427387904 → ∀ y0 y1 y2 y3 y5, forebearref23_Depth.l0 k (m : Int) (i : Int) y0 y1 y2 y3 (nodeM x.f4) y5 = some ((max m (depthM (x.f4.drop i)) : Nat) + 1 : Int) := by
      intro d
      induction d with
      | zero =>
        intro k i m hd hi hk2 hm y0 y1 y2 y3 y5
        obtain ⟨k, rfl⟩ : ∃ k1, k = k1 + 1 := ⟨k - 1, by omega⟩
        have hi2 : i = x.f4.length := by omega
        rw [forebearref23_Depth.l0, if_neg (by rw [nodeM_len]; omega), hi2, List.drop_length, depthM_nil]
        have : wrap64 ((m : Int) + 1) = (m : Int) + 1 := by unfold wrap64; omega
        rw [this]
        simp
      | succ d ihd =>
        intro k i m hd hi hk2 hm y0 y1 y2 y3 y5
        obtain ⟨k, rfl⟩ : ∃ k1, k = k1 + 1 := ⟨k - 1, by omega⟩
        have hil : i < x.f4.length := by omega
        have hdr := List.drop_eq_getElem_cons hil
        rw [hdr, wtM_cons] at hk2
        have hp := wt_pos (x.f4[i])
        have hmem : wt (x.f4[i]) + wtM (x.f4.drop (i + 1)) ≤ wtM x.f4 := by
          have : ∀ (l : List S44) (j : Nat), wtM (l.drop j) ≤ wtM l := by
            intro l
            induction l with
            | nil => intro j; simp
            | cons a l ihl =>
              intro j
              cases j with
              | zero => simp
              | succ j => rw [List.drop_succ_cons, wtM_cons]; have := ihl j; omega
          have h3 := this x.f4 i
          rw [hdr, wtM_cons] at h3
          exact h3
        have hdep := (depth_wt (wt (x.f4[i]))).1 (x.f4[i]) (Nat.le_refl _)
        have hrd := rd54 x.f4 i hil
        have hc := ih k (x.f4[i]) (by omega) (by omega) (by omega)
        rw [forebearref23_Depth.l0, if_pos (by rw [nodeM_len]; omega), if_pos (by omega), hrd, nodeT_is, hc, Option.bind_some]
        have hw : wrap64 ((i : Int) + 1) = ((i + 1 : Nat) : Int) := by unfold wrap64; omega
        rw [hw]
        clear hw hc hrd
        by_cases hgt : (depthT x.f4[i] : Int) > (m : Int)
        · rw [if_pos hgt, ihd k (i + 1) (depthT x.f4[i]) (by omega) (by omega) (by omega) (by omega), hdr, depthM_cons]
          have : max (depthT x.f4[i]) (depthM (List.drop (i + 1) x.f4)) = max m (max (depthT x.f4[i]) (depthM (List.drop (i + 1) x.f4))) := by omega
          rw [← this]
        · rw [if_neg hgt, ihd k (i + 1) m (by omega) (by omega) (by omega) (by omega), hdr, depthM_cons]
          have : max m (depthM (List.drop (i + 1) x.f4)) = max m (max (depthT x.f4[i]) (depthM (List.drop (i + 1) x.f4))) := by omega
          rw [← this]
    obtain ⟨k, rfl⟩ : ∃ k1, k = k1 + 1 := ⟨k - 1, by omega⟩
    rw [forebearref23_Depth.f]
    have h0 := step x.f4.length k 0 0 (by omega) (by omega) (by simp only [List.drop_zero]; omega) (by omega) x.f0 x.f1 x.f2 x.f3 x.f5
    rw [show ((0 : Nat) : Int) = 0 from rfl] at h0
    rw [h0, depthT_is]
    simp
end Go.Proofs.YtfgfoofojofnmaaDoor.Q
