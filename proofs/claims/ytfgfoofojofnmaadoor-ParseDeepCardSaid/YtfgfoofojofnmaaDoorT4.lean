/- Plain laws: nots ahead of brackets about a name (ParseDeep), and a text in brackets alone. -/
import Derived.Test.YtfgfoofojofnmaaDoorT3
namespace Go.Proofs.YtfgfoofojofnmaaDoor.Q
open Go.RowKit Go.Proofs.YtfgfoofojofnmaaDoorW.PrintWords Go.Proofs.YtfgfoofojofnmaaDoorW.PrintLast Go.Proofs.YtfgfoofojofnmaaDoorW.PrintMore
set_option linter.unusedVariables false
set_option linter.unusedSimpArgs false
open Go.Proofs.YtfgfoofojofnmaaDoor.Hand
theorem depthT_mp (g : Int → Int) : (∀ n x, wt x ≤ n → depthT (mp g x) = depthT x) := by
  intro n
  induction n with
  | zero => exact fun x h => absurd (wt_pos x) (by omega)
  | succ n ih =>
    intro x hx
    obtain ⟨a, b, c, d, ks, e⟩ := x
    rw [wt_mk] at hx
    rw [mp_mk, depthT_mk, depthT_mk]
    have : ∀ ks : List S44, wtM ks ≤ n → depthM (mpM g ks) = depthM ks := by
      intro ks
      induction ks with
      | nil => intro _; rw [mpM_nil]
      | cons k ks ihk =>
        intro h
        rw [wtM_cons] at h
        rw [mpM_cons, depthM_cons, depthM_cons, ih k (by omega), ihk (by omega)]
    rw [this ks (by omega)]
theorem depth_mp (g : Int → Int) (x : S44) : depthT (mp g x) = depthT x := depthT_mp g (wt x) x (Nat.le_refl _)
theorem scan_br {l : List UInt8} {A : List S39} (h : scanT l 0 [] = (A, 0, 0)) (i : Nat) (out : List S39) : scanT (40 :: (l ++ 41 :: [])) i out = (out ++ (sT [40] i :: (A.map (tkG (fun x => x + ((i + 1 : Nat) : Int))) ++ sT [41] (i + 1 + l.length) :: [])), 0, 0) := by
  rw [scan_open, scan_part h (by decide), scan_close, scanT_nil]
  simp
theorem read_br {A : List S39} {n : S44} (h : Reads A n) (ev : Int) (g : Int → Int) (q : Int) (p0 p : Nat) (k : Nat) (hk : 6 * A.length + 12 ≤ k) : exprF ev k ⟨sT [40] p0 :: (A.map (tkG g) ++ sT [41] p :: []), false, q⟩ = (mp g n, ⟨[], false, q⟩) := by
  obtain ⟨k, rfl⟩ : ∃ k1, k = k1 + 5 := ⟨k - 5, by omega⟩
  show exprL ev (k + 4) (interF ev (k + 4) _).1 (interF ev (k + 4) _).2 = _
  rw [br_inter h ev g q p0 p [] k (by omega) (fun _ _ => rfl) (fun _ _ => rfl) (fun _ _ => rfl) (fun _ _ => rfl), exprL_none rfl rfl]
theorem reads_br {A : List S39} {n : S44} (h : Reads A n) (g : Int → Int) (p0 p : Nat) : Reads (sT [40] p0 :: (A.map (tkG g) ++ sT [41] p :: [])) (mp g n) :=
  ⟨0, 0, read_br h 0 g 0 p0 p _ (by simp only [List.length_cons, List.length_append, List.length_map, List.length_nil]; omega)⟩
/-- Brackets about a name. -/
def deepL (k : Nat) : List UInt8 := List.replicate k 40 ++ 97 :: List.replicate k 41
theorem deepL_succ (k : Nat) : deepL (k + 1) = 40 :: (deepL k ++ 41 :: []) := by
  unfold deepL
  rw [List.replicate_succ, List.replicate_succ' (a := (41 : UInt8))]
  simp
def tkA (i : Nat) : S39 := ⟨1, bs [97], 0, 0, (i : Int)⟩
theorem scanA : scanT [97] 0 [] = ([tkA 0], 0, 0) := by
  have h : oneT 97 [] = (1, bs [97], 0, 0, 0, 1) := by decide +kernel
  have hn : nOf (oneT 97 []) = 1 := by rw [h]; rfl
  rw [scanT_tok (by decide) (by rw [hn]; decide), hn, h]
  show scanT [] _ _ = _
  rw [scanT_nil]
  rfl
theorem atomA (ev : Int) (k i : Nat) (q : Int) : atomF ev (k + 1) ⟨[tkA i], false, q⟩ = (leafN (tkA i), ⟨[], false, q⟩) :=
  atomF_name rfl (by show (1 : Int) ≠ 5; decide) (by show ¬ ((1 : Int) = 4 ∨ (1 : Int) = 2 ∨ (1 : Int) = 3); decide) rfl
theorem unaryA (ev : Int) (k i : Nat) (q : Int) : unaryF ev (k + 2) ⟨[tkA i], false, q⟩ = (leafN (tkA i), ⟨[], false, q⟩) := by
  rw [unaryF_atom rfl, atomA, upL_none rfl]
theorem unary_reads {ev : Int} {k : Nat} {B : List S39} {y : S44} {q : Int} (h : unaryF ev k ⟨B, false, q⟩ = (y, ⟨[], false, q⟩)) : exprF ev (k + 3) ⟨B, false, q⟩ = (y, ⟨[], false, q⟩) := by
  have hr : rangedF ev (k + 1) ⟨B, false, q⟩ = (y, ⟨[], false, q⟩) := by rw [rangedF_none (by rw [h]; rfl) (by rw [h]; rfl), h]
  have hi : interF ev (k + 2) ⟨B, false, q⟩ = (y, ⟨[], false, q⟩) := by
    show interL ev (k + 1) (rangedF ev (k + 1) _).1 (rangedF ev (k + 1) _).2 = _
    rw [hr, interL_none rfl]
  show exprL ev (k + 2) (interF ev (k + 2) _).1 (interF ev (k + 2) _).2 = _
  rw [hi, exprL_none rfl rfl]
theorem deep_reads (k : Nat) : ∃ A x, scanT (deepL k) 0 [] = (A, 0, 0) ∧ A.length = 2 * k + 1 ∧ Reads A x ∧ depthT x = 1 := by
  induction k with
  | zero =>
    refine ⟨[tkA 0], leafN (tkA 0), scanA, rfl, ⟨0, 0, ?_⟩, ?_⟩
    · exact unary_reads (unaryA 0 7 0 0)
    · rw [depthT_is]; show depthM [] + 1 = 1; rw [depthM_nil]
  | succ k ih =>
    obtain ⟨A, x, h1, h2, h3, h4⟩ := ih
    rw [deepL_succ]
    refine ⟨_, _, by rw [scan_br h1 0 [], List.nil_append], ?_, reads_br h3 _ _ _, by rw [depth_mp, h4]⟩
    simp only [List.length_cons, List.length_append, List.length_map, List.length_nil]
    omega
/-- At any place: read as an operand. -/
theorem deep_unary (k i : Nat) (out : List S39) : ∃ B y, scanT (deepL k) i out = (out ++ B, 0, 0) ∧ B.length = 2 * k + 1 ∧ depthT y = 1 ∧ ∀ ev q K, 12 * k + 20 ≤ K → unaryF ev K ⟨B, false, q⟩ = (y, ⟨[], false, q⟩) := by
  cases k with
  | zero =>
    refine ⟨[tkA i], leafN (tkA i), ?_, rfl, ?_, ?_⟩
    · have h := scanT_mv i out 1 [97] 0 [] (by decide) (by rw [scanA])
      rw [scanA] at h
      simp only [Nat.zero_add, List.map_nil, List.append_nil] at h
      refine Eq.trans h ?_
      show (out ++ [shT i (tkA 0)], _, _) = _
      unfold shT tkA
      simp
    · rw [depthT_is]; show depthM [] + 1 = 1; rw [depthM_nil]
    · intro ev q K hK
      obtain ⟨K, rfl⟩ : ∃ k1, K = k1 + 2 := ⟨K - 2, by omega⟩
      exact unaryA ev K i q
  | succ k =>
    obtain ⟨A, x, h1, h2, h3, h4⟩ := deep_reads k
    rw [deepL_succ]
    refine ⟨_, mp (fun x => x + ((i + 1 : Nat) : Int)) x, scan_br h1 i out, ?_, by rw [depth_mp, h4], ?_⟩
    · simp only [List.length_cons, List.length_append, List.length_map, List.length_nil]; omega
    · intro ev q K hK
      obtain ⟨K, rfl⟩ : ∃ k1, K = k1 + 2 := ⟨K - 2, by omega⟩
      exact br_unary h3 ev _ q i _ [] K (by omega) (fun _ _ => rfl)
def notsT : Nat → Nat → List S39
  | 0, _ => []
  | n + 1, i => sT [33] i :: notsT n (i + 1)
def notN : Nat → Nat → S44 → S44
  | 0, _, y => y
  | n + 1, i, y => nd 11 [notN n (i + 1) y] i
theorem notsT_len (n : Nat) : ∀ i, (notsT n i).length = n := by
  induction n with
  | zero => intro i; rfl
  | succ n ih => intro i; show (notsT n (i + 1)).length + 1 = _; rw [ih]
theorem notN_depth (n : Nat) (y : S44) : ∀ i, depthT (notN n i y) = n + depthT y := by
  induction n with
  | zero => intro i; show depthT y = _; omega
  | succ n ih =>
    intro i
    rw [depthT_is]
    show depthM [notN n (i + 1) y] + 1 = _
    rw [depthM_cons, depthM_nil, ih]
    omega
theorem scan_nots (n : Nat) (r : List UInt8) : ∀ (i : Nat) (out : List S39), scanT (List.replicate n 33 ++ r) i out = scanT r (i + n) (out ++ notsT n i) := by
  induction n with
  | zero => intro i out; simp [notsT]
  | succ n ih =>
    intro i out
    rw [List.replicate_succ, List.cons_append, scan_sign 33 _ i out (by decide) (oneT_sign _ _ (by decide) (by decide) (by decide) (by decide) (by decide) (by decide) (by decide)), ih]
    simp [notsT, Nat.add_assoc, Nat.add_comm 1 n]
theorem unary_nots (ev : Int) (q : Int) (B : List S39) (y : S44) (m : Nat) (h : ∀ K, m ≤ K → unaryF ev K ⟨B, false, q⟩ = (y, ⟨[], false, q⟩)) (n : Nat) : ∀ i K, m + n ≤ K → unaryF ev K ⟨notsT n i ++ B, false, q⟩ = (notN n i y, ⟨[], false, q⟩) := by
  induction n with
  | zero => intro i K hK; exact h K (by omega)
  | succ n ih =>
    intro i K hK
    obtain ⟨K, rfl⟩ : ∃ k1, K = k1 + 1 := ⟨K - 1, by omega⟩
    have h1 := ih (i + 1) K (by omega)
    show unaryF ev (K + 1) ⟨sT [33] i :: (notsT n (i + 1) ++ B), false, q⟩ = _
    rw [unaryF_not (sign_hit (str1 33) [33] i _ false q (by rw [bs_toList, str1_list])), h1]
    rfl
theorem deepN (n k : Nat) (hn : n < 40) (hk : k < 300) (a : ByteArray) (ha : a.data.toList = List.replicate n 33 ++ deepL k) : ∃ y, depthT y = n + 1 ∧ parseT a = (if 24 ≤ n then (z44, 0, 32) else (y, 0, 0)) := by
  have hl : (deepL k).length = 2 * k + 1 := by unfold deepL; simp; omega
  have hs : a.size ≤ 1024 := by
    have h1 : a.size = a.data.toList.length := by rw [Array.length_toList]; rfl
    rw [h1, ha, List.length_append, List.length_replicate, hl]
    omega
  obtain ⟨B, y, h1, h2, h3, h4⟩ := deep_unary k (0 + n) ([] ++ notsT n 0)
  have hsc : scanS a = (notsT n 0 ++ B, 0, 0) := by
    unfold scanS
    rw [if_pos hs, ha, scan_nots, h1, List.nil_append]
  have hr : readS a = (notN n 0 y, ⟨[], false, 0⟩) := by
    unfold readS
    rw [hsc]
    simp only [List.length_append, notsT_len, h2]
    have h5 := unary_nots (a.size : Int) 0 B y (12 * k + 20) (fun K hK => h4 _ 0 K hK) n 0 (12 * k + 20 + n) (Nat.le_refl _)
    have h6 := unary_reads h5
    by_cases hnk : 12 * k + 20 + n + 3 ≤ 6 * (n + (2 * k + 1)) + 6
    · obtain ⟨d, hd⟩ : ∃ d, 6 * (n + (2 * k + 1)) + 6 = 12 * k + 20 + n + 3 + d := ⟨_, (Nat.add_sub_cancel' hnk).symm⟩
      have h7 := unary_reads (unary_nots (a.size : Int) 0 B y (12 * k + 20) (fun K hK => h4 _ 0 K hK) n 0 (12 * k + 20 + n + d) (by omega))
      rw [hd, show 12 * k + 20 + n + 3 + d = 12 * k + 20 + n + d + 3 by omega]
      exact h7
    · have hlen : (notsT n 0 ++ B).length = n + (2 * k + 1) := by rw [List.length_append, notsT_len, h2]
      obtain ⟨d, hd⟩ : ∃ d, 12 * k + 20 + n + 3 = 6 * (n + (2 * k + 1)) + 6 + d := ⟨_, (Nat.add_sub_cancel' (by omega)).symm⟩
      rw [hd, expr_more (a.size : Int) ⟨notsT n 0 ++ B, false, 0⟩ (6 * (n + (2 * k + 1)) + 6) (by show 6 * (notsT n 0 ++ B).length + 6 ≤ _; rw [hlen]; exact Nat.le_refl _)] at h6
      exact h6
  refine ⟨notN n 0 y, by rw [notN_depth, h3], ?_⟩
  unfold parseT
  rw [if_pos (by rw [hsc]), hr]
  have hb : ¬ (endS (a.size : Int) ⟨[], false, 0⟩).bad = true := by simp [endS]
  rw [if_neg hb]
  simp only [notN_depth, h3]
  by_cases h : 24 ≤ n
  · rw [if_pos (by omega), if_pos h]
  · rw [if_neg (by omega), if_neg h]
end Go.Proofs.YtfgfoofojofnmaaDoor.Q
