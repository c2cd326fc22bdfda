/- Plain laws for texts in brackets: what the parser makes of '(' a ')' and of two such with a sign between. -/
import Derived.Test.YtfgfoofojofnmaaDoorT1
import Derived.Test.YtfgfoofojofnmaaDoorT2
import Derived.Test.YtfgfoofojofnmaaDoorP4
namespace Go.Proofs.YtfgfoofojofnmaaDoor.Q
open Go.RowKit Go.Proofs.YtfgfoofojofnmaaDoorW.PrintWords Go.Proofs.YtfgfoofojofnmaaDoorW.PrintLast Go.Proofs.YtfgfoofojofnmaaDoorW.PrintMore
set_option linter.unusedVariables false
set_option linter.unusedSimpArgs false
open Go.Proofs.YtfgfoofojofnmaaDoor.Hand
/-- A sign's token. -/
def sT (l : List UInt8) (p : Nat) : S39 := ⟨5, bs l, 0, 0, (p : Int)⟩
theorem sign_hit (s : ByteArray) (l : List UInt8) (p : Nat) (r : List S39) (b : Bool) (q : Int) (h : (bs l).toList = s.toList) : signAt s ⟨sT l p :: r, b, q⟩ = some ((p : Int), ⟨r, b, q⟩) := by
  simp only [signAt]
  exact if_pos (show ((5 : Int) == 5 && (bs l).toList == s.toList) = true by rw [h]; simp)
theorem sign_miss (s : ByteArray) (l : List UInt8) (p : Nat) (r : List S39) (b : Bool) (q : Int) (h : (bs l).toList ≠ s.toList) : signAt s ⟨sT l p :: r, b, q⟩ = none := by
  simp only [signAt]
  exact if_neg (show ¬ ((5 : Int) == 5 && (bs l).toList == s.toList) = true by simp [h])
theorem sign_nil (s : ByteArray) (b : Bool) (q : Int) : signAt s ⟨[], b, q⟩ = none := rfl
theorem str1_list (a : UInt8) : (str1 a).toList = [a] := by rw [ByteArray.toList_eq]
theorem str2_list (a b : UInt8) : (str2 a b).toList = [a, b] := by rw [ByteArray.toList_eq]
theorem stop_close (p : Nat) (R : List S39) : Stop (sT [41] p :: R) := by
  refine ⟨fun s hs b q => ?_, fun t r e => ?_⟩
  · apply sign_miss
    rw [bs_toList]
    rcases hs with rfl | rfl | rfl | rfl | rfl | rfl | rfl
    all_goals first | (rw [str1_list]; decide) | (rw [str2_list]; decide)
  · injection e with e1 e2
    rw [← e1]
    show (5 : Int) ≠ 2
    decide
/-- The tokens A are read whole, to n. -/
def Reads (A : List S39) (n : S44) : Prop := ∃ ev b, exprF ev (6 * A.length + 6) ⟨A, false, 0⟩ = (n, ⟨[], false, b⟩)
theorem read_ext {A : List S39} {n : S44} (h : Reads A n) (ev : Int) (g : Int → Int) (q : Int) (p : Nat) (R : List S39) (k : Nat) (hk : 6 * A.length + 6 ≤ k) :
    exprF ev k ⟨A.map (tkG g) ++ sT [41] p :: R, false, q⟩ = (mp g n, ⟨sT [41] p :: R, false, q⟩) := by
  obtain ⟨ev0, b, h⟩ := h
  obtain ⟨d, rfl⟩ : ∃ d, k = 6 * A.length + 6 + d := ⟨k - (6 * A.length + 6), by omega⟩
  have h1 := expr_more ev0 ⟨A, false, 0⟩ (6 * A.length + 6) (Nat.le_refl _) d
  rw [h] at h1
  have h2 := (ext_all ev0 ev g (sT [41] p :: R) q (stop_close p R) (6 * A.length + 6 + d)).1 ⟨A, false, 0⟩ (by show 6 * A.length + 6 ≤ _; omega) (by rw [h1])
  rw [h1] at h2
  exact h2
/-- What may not follow a bracket for it to be an operand by itself. -/
def NoSign (R : List S39) (l : List (List UInt8)) : Prop := ∀ s ∈ l, ∀ b q, signAt ⟨s.toArray⟩ ⟨R, b, q⟩ = none
section
variable {A : List S39} {n : S44} (h : Reads A n) (ev : Int) (g : Int → Int) (q : Int) (p0 p : Nat) (R : List S39)
include h
theorem br_atom (k : Nat) (hk : 6 * A.length + 6 ≤ k) : atomF ev (k + 1) ⟨sT [40] p0 :: (A.map (tkG g) ++ sT [41] p :: R), false, q⟩ = (mp g n, ⟨R, false, q⟩) := by
  have h1 := sign_hit (str1 40) [40] p0 (A.map (tkG g) ++ sT [41] p :: R) false q (by rw [bs_toList, str1_list])
  have h2 := read_ext h ev g q p R k hk
  rw [atomF_br h1 (by rw [h2]; exact sign_hit (str1 41) [41] p R false q (by rw [bs_toList, str1_list])), h2]
theorem br_unary (k : Nat) (hk : 6 * A.length + 6 ≤ k) (hn : ∀ b q, signAt (str1 94) ⟨R, b, q⟩ = none) : unaryF ev (k + 2) ⟨sT [40] p0 :: (A.map (tkG g) ++ sT [41] p :: R), false, q⟩ = (mp g n, ⟨R, false, q⟩) := by
  rw [unaryF_atom (sign_miss _ _ _ _ _ _ (by rw [bs_toList, str1_list]; decide)), br_atom h ev g q p0 p R k hk, upL_none (hn _ _)]
theorem br_ranged (k : Nat) (hk : 6 * A.length + 6 ≤ k) (hn : ∀ b q, signAt (str1 94) ⟨R, b, q⟩ = none) (h2 : ∀ b q, signAt (str2 46 46) ⟨R, b, q⟩ = none) (h3 : ∀ b q, signAt (str2 58 58) ⟨R, b, q⟩ = none) :
    rangedF ev (k + 3) ⟨sT [40] p0 :: (A.map (tkG g) ++ sT [41] p :: R), false, q⟩ = (mp g n, ⟨R, false, q⟩) := by
  have hu := br_unary h ev g q p0 p R k hk hn
  rw [rangedF_none (by rw [hu]; exact h2 _ _) (by rw [hu]; exact h3 _ _), hu]
theorem br_inter (k : Nat) (hk : 6 * A.length + 6 ≤ k) (hn : ∀ b q, signAt (str1 94) ⟨R, b, q⟩ = none) (h2 : ∀ b q, signAt (str2 46 46) ⟨R, b, q⟩ = none) (h3 : ∀ b q, signAt (str2 58 58) ⟨R, b, q⟩ = none) (h4 : ∀ b q, signAt (str1 38) ⟨R, b, q⟩ = none) :
    interF ev (k + 4) ⟨sT [40] p0 :: (A.map (tkG g) ++ sT [41] p :: R), false, q⟩ = (mp g n, ⟨R, false, q⟩) := by
  show interL ev (k + 3) (rangedF ev (k + 3) _).1 (rangedF ev (k + 3) _).2 = _
  rw [br_ranged h ev g q p0 p R k hk hn h2 h3, interL_none (h4 _ _)]
end
/-- Two texts in brackets, a sign between. -/
theorem two_read {A B : List S39} {n m : S44} (hA : Reads A n) (hB : Reads B m) (ev : Int) (g1 g2 : Int → Int) (q : Int) (p0 p1 ps p2 p3 : Nat) (s : List UInt8) (op : Int) (k : Nat) (hkA : 6 * A.length + 6 ≤ k) (hkB : 6 * B.length + 6 ≤ k)
    (hs : (s = [124] ∧ op = 6) ∨ (s = [45] ∧ op = 7) ∨ (s = [38] ∧ op = 8) ∨ (s = [46, 46] ∧ op = 9) ∨ (s = [58, 58] ∧ op = 10)) :
    exprF ev (k + 7) ⟨sT [40] p0 :: (A.map (tkG g1) ++ sT [41] p1 :: (sT s ps :: (sT [40] p2 :: (B.map (tkG g2) ++ sT [41] p3 :: [])))), false, q⟩ = (nd op [mp g1 n, mp g2 m] ps, ⟨[], false, q⟩) := by
  have miss : ∀ (t : ByteArray) (l : List UInt8) (r : List S39), (bs l).toList ≠ t.toList → ∀ b q', signAt t ⟨sT l ps :: r, b, q'⟩ = none := fun t l r h b q' => sign_miss t l ps r b q' h
  have b1 : ∀ (a c : UInt8), (bs [a]).toList ≠ (str1 c).toList ∨ a = c := by
    intro a c
    rw [bs_toList, str1_list]
    by_cases h : a = c
    · exact .inr h
    · exact .inl (by simpa using h)
  show exprL ev (k + 6) (interF ev (k + 6) _).1 (interF ev (k + 6) _).2 = _
  rcases hs with ⟨rfl, rfl⟩ | ⟨rfl, rfl⟩ | ⟨rfl, rfl⟩ | ⟨rfl, rfl⟩ | ⟨rfl, rfl⟩
  · rw [br_inter hA ev g1 q p0 p1 _ (k + 2) (by omega) (miss _ _ _ (by rw [bs_toList, str1_list]; decide)) (miss _ _ _ (by rw [bs_toList, str2_list]; decide)) (miss _ _ _ (by rw [bs_toList, str2_list]; decide)) (miss _ _ _ (by rw [bs_toList, str1_list]; decide))]
    rw [exprL_or (sign_hit _ _ _ _ _ _ (by rw [bs_toList, str1_list])), br_inter hB ev g2 q p2 p3 [] (k + 1) (by omega) (fun _ _ => rfl) (fun _ _ => rfl) (fun _ _ => rfl) (fun _ _ => rfl), exprL_none rfl rfl]
  · rw [br_inter hA ev g1 q p0 p1 _ (k + 2) (by omega) (miss _ _ _ (by rw [bs_toList, str1_list]; decide)) (miss _ _ _ (by rw [bs_toList, str2_list]; decide)) (miss _ _ _ (by rw [bs_toList, str2_list]; decide)) (miss _ _ _ (by rw [bs_toList, str1_list]; decide))]
    rw [exprL_minus (miss _ _ _ (by rw [bs_toList, str1_list]; decide) _ _) (sign_hit _ _ _ _ _ _ (by rw [bs_toList, str1_list])), br_inter hB ev g2 q p2 p3 [] (k + 1) (by omega) (fun _ _ => rfl) (fun _ _ => rfl) (fun _ _ => rfl) (fun _ _ => rfl), exprL_none rfl rfl]
  · have hi : interF ev (k + 6) ⟨sT [40] p0 :: (A.map (tkG g1) ++ sT [41] p1 :: (sT [38] ps :: (sT [40] p2 :: (B.map (tkG g2) ++ sT [41] p3 :: [])))), false, q⟩ = (nd 8 [mp g1 n, mp g2 m] ps, ⟨[], false, q⟩) := by
      show interL ev (k + 5) (rangedF ev (k + 5) _).1 (rangedF ev (k + 5) _).2 = _
      rw [br_ranged hA ev g1 q p0 p1 _ (k + 2) (by omega) (miss _ _ _ (by rw [bs_toList, str1_list]; decide)) (miss _ _ _ (by rw [bs_toList, str2_list]; decide)) (miss _ _ _ (by rw [bs_toList, str2_list]; decide))]
      rw [interL_some (sign_hit _ _ _ _ _ _ (by rw [bs_toList, str1_list])), br_ranged hB ev g2 q p2 p3 [] (k + 1) (by omega) (fun _ _ => rfl) (fun _ _ => rfl) (fun _ _ => rfl), interL_none rfl]
    rw [hi, exprL_none rfl rfl]
  · have hr : rangedF ev (k + 5) ⟨sT [40] p0 :: (A.map (tkG g1) ++ sT [41] p1 :: (sT [46, 46] ps :: (sT [40] p2 :: (B.map (tkG g2) ++ sT [41] p3 :: [])))), false, q⟩ = (nd 9 [mp g1 n, mp g2 m] ps, ⟨[], false, q⟩) := by
      have hu := br_unary hA ev g1 q p0 p1 (sT [46, 46] ps :: (sT [40] p2 :: (B.map (tkG g2) ++ sT [41] p3 :: []))) (k + 2) (by omega) (miss _ _ _ (by rw [bs_toList, str1_list]; decide))
      have hu2 := br_unary hB ev g2 q p2 p3 [] (k + 2) (by omega) (fun _ _ => rfl)
      rw [rangedF_dots (by rw [hu]; exact sign_hit _ _ _ _ _ _ (by rw [bs_toList, str2_list])), hu, hu2]
    have hi : interF ev (k + 6) ⟨sT [40] p0 :: (A.map (tkG g1) ++ sT [41] p1 :: (sT [46, 46] ps :: (sT [40] p2 :: (B.map (tkG g2) ++ sT [41] p3 :: [])))), false, q⟩ = (nd 9 [mp g1 n, mp g2 m] ps, ⟨[], false, q⟩) := by
      show interL ev (k + 5) (rangedF ev (k + 5) _).1 (rangedF ev (k + 5) _).2 = _
      rw [hr, interL_none rfl]
    rw [hi, exprL_none rfl rfl]
  · have hr : rangedF ev (k + 5) ⟨sT [40] p0 :: (A.map (tkG g1) ++ sT [41] p1 :: (sT [58, 58] ps :: (sT [40] p2 :: (B.map (tkG g2) ++ sT [41] p3 :: [])))), false, q⟩ = (nd 10 [mp g1 n, mp g2 m] ps, ⟨[], false, q⟩) := by
      have hu := br_unary hA ev g1 q p0 p1 (sT [58, 58] ps :: (sT [40] p2 :: (B.map (tkG g2) ++ sT [41] p3 :: []))) (k + 2) (by omega) (miss _ _ _ (by rw [bs_toList, str1_list]; decide))
      have hu2 := br_unary hB ev g2 q p2 p3 [] (k + 2) (by omega) (fun _ _ => rfl)
      rw [rangedF_colons (by rw [hu]; exact miss _ _ _ (by rw [bs_toList, str2_list]; decide) _ _) (by rw [hu]; exact sign_hit _ _ _ _ _ _ (by rw [bs_toList, str2_list])), hu, hu2]
    have hi : interF ev (k + 6) ⟨sT [40] p0 :: (A.map (tkG g1) ++ sT [41] p1 :: (sT [58, 58] ps :: (sT [40] p2 :: (B.map (tkG g2) ++ sT [41] p3 :: [])))), false, q⟩ = (nd 10 [mp g1 n, mp g2 m] ps, ⟨[], false, q⟩) := by
      show interL ev (k + 5) (rangedF ev (k + 5) _).1 (rangedF ev (k + 5) _).2 = _
      rw [hr, interL_none rfl]
    rw [hi, exprL_none rfl rfl]
theorem shT_tk (d : Nat) : shT d = tkG (fun x => x + (d : Int)) := rfl
theorem oneT_sign (c : UInt8) (r : List UInt8) (h1 : smallB c = false) (h2 : digitB c = false) (h3 : c ≠ 39) (h4 : c ≠ 35) (h5 : c ≠ 46) (h6 : c ≠ 58) (h7 : signB c = true) : oneT c r = (5, bs [c], 0, 0, 0, 1) := by
  have : oneL c r = some (5, bs [c], 0, 0, 0, 1) := by
    unfold oneL
    rw [if_neg (by rw [h1]; decide), if_neg (by rw [h2]; decide), if_neg h3, if_neg (fun e => h4 e.1), if_neg, if_pos h7]
    intro e
    rcases e with e | e
    · exact h5 (by simpa using congrArg List.head? e)
    · exact h6 (by simpa using congrArg List.head? e)
  rw [oneT, this]; rfl
theorem oneT_dots (c : UInt8) (r : List UInt8) (h : c = 46 ∨ c = 58) : oneT c (c :: r) = (5, bs [c, c], 0, 0, 0, 2) := by
  have : oneL c (c :: r) = some (5, bs [c, c], 0, 0, 0, 2) := by
    unfold oneL
    rcases h with rfl | rfl
    · rw [if_neg (by decide), if_neg (by decide), if_neg (by decide), if_neg (by simp), if_pos (.inl rfl)]; rfl
    · rw [if_neg (by decide), if_neg (by decide), if_neg (by decide), if_neg (by simp), if_pos (.inr rfl)]; rfl
  rw [oneT, this]; rfl
theorem scan_sign (c : UInt8) (r : List UInt8) (i : Nat) (out : List S39) (hb : ¬ (c = 32 ∨ c = 9)) (h : oneT c r = (5, bs [c], 0, 0, 0, 1)) : scanT (c :: r) i out = scanT r (i + 1) (out ++ [sT [c] i]) := by
  have hn : nOf (oneT c r) = 1 := by rw [h]; rfl
  rw [scanT_tok hb (by rw [hn]; decide), hn, h]
  rfl
theorem scan_dots (c : UInt8) (r : List UInt8) (i : Nat) (out : List S39) (hc : c = 46 ∨ c = 58) : scanT (c :: c :: r) i out = scanT r (i + 2) (out ++ [sT [c, c] i]) := by
  have h := oneT_dots c r hc
  have hn : nOf (oneT c (c :: r)) = 2 := by rw [h]; rfl
  rw [scanT_tok (by rcases hc with rfl | rfl <;> decide) (by rw [hn]; decide), hn, h]
  rfl
theorem scan_op (s : List UInt8) (r : List UInt8) (i : Nat) (out : List S39) (hs : s = [124] ∨ s = [45] ∨ s = [38] ∨ s = [46, 46] ∨ s = [58, 58]) : scanT (s ++ r) i out = scanT r (i + s.length) (out ++ [sT s i]) := by
  rcases hs with rfl | rfl | rfl | rfl | rfl
  · exact scan_sign 124 r i out (by decide) (oneT_sign _ _ (by decide) (by decide) (by decide) (by decide) (by decide) (by decide) (by decide))
  · exact scan_sign 45 r i out (by decide) (oneT_sign _ _ (by decide) (by decide) (by decide) (by decide) (by decide) (by decide) (by decide))
  · exact scan_sign 38 r i out (by decide) (oneT_sign _ _ (by decide) (by decide) (by decide) (by decide) (by decide) (by decide) (by decide))
  · exact scan_dots 46 r i out (.inl rfl)
  · exact scan_dots 58 r i out (.inr rfl)
theorem scan_open (r : List UInt8) (i : Nat) (out : List S39) : scanT (40 :: r) i out = scanT r (i + 1) (out ++ [sT [40] i]) := scan_sign 40 r i out (by decide) (oneT_sign _ _ (by decide) (by decide) (by decide) (by decide) (by decide) (by decide) (by decide))
theorem scan_close (r : List UInt8) (i : Nat) (out : List S39) : scanT (41 :: r) i out = scanT r (i + 1) (out ++ [sT [41] i]) := scan_sign 41 r i out (by decide) (oneT_sign _ _ (by decide) (by decide) (by decide) (by decide) (by decide) (by decide) (by decide))
/-- A whole text ahead of a byte that no name goes on with. -/
theorem scan_part {l : List UInt8} {A : List S39} (h : scanT l 0 [] = (A, 0, 0)) {d : UInt8} (hd : nameB d = false) (m : List UInt8) (i : Nat) (out : List S39) : scanT (l ++ d :: m) i out = scanT (d :: m) (i + l.length) (out ++ A.map (tkG (fun x => x + (i : Int)))) := by
  have h1 := scanT_mv i out l.length l 0 [] (Nat.le_refl _) (by rw [h])
  simp only [Nat.zero_add, List.map_nil, List.append_nil] at h1
  rw [scanT_chr hd m l.length l i out (Nat.le_refl _) (by rw [h1]), h1, h, shT_tk]
theorem scan_two {la lb : List UInt8} {A B : List S39} (hA : scanT la 0 [] = (A, 0, 0)) (hB : scanT lb 0 [] = (B, 0, 0)) (s : List UInt8) (hs : s = [124] ∨ s = [45] ∨ s = [38] ∨ s = [46, 46] ∨ s = [58, 58]) :
    scanT (40 :: (la ++ 41 :: (s ++ 40 :: (lb ++ 41 :: [])))) 0 [] = (sT [40] 0 :: (A.map (tkG (fun x => x + ((0 + 1 : Nat) : Int))) ++ sT [41] (0 + 1 + la.length) :: (sT s (0 + 1 + la.length + 1) :: (sT [40] (0 + 1 + la.length + 1 + s.length) :: (B.map (tkG (fun x => x + ((0 + 1 + la.length + 1 + s.length + 1 : Nat) : Int))) ++ sT [41] (0 + 1 + la.length + 1 + s.length + 1 + lb.length) :: [])))), 0, 0) := by
  rw [scan_open, scan_part hA (by decide), scan_close, scan_op s _ _ _ hs, scan_open, scan_part hB (by decide), scan_close, scanT_nil]
  simp
theorem parse_ok (a : ByteArray) (h : (parseT a).2.2 = 0) : a.size ≤ 1024 ∧ ∃ A, scanT a.data.toList 0 [] = (A, 0, 0) ∧ Reads A (parseT a).1 ∧ (parseT a).2.1 = 0 ∧ depthT (parseT a).1 ≤ 24 := by
  unfold parseT at h ⊢
  by_cases hc : (scanS a).2.2 = 0
  · rw [if_pos hc] at h ⊢
    by_cases hb : (endS (a.size : Int) (readS a).2).bad = true
    · rw [if_pos hb] at h; exact absurd (show (31 : Int) = 0 from h) (by decide)
    · rw [if_neg hb] at h ⊢
      by_cases hd : 24 < depthT (readS a).1
      · rw [if_pos hd] at h; exact absurd (show (32 : Int) = 0 from h) (by decide)
      · rw [if_neg hd]
        have hsz : a.size ≤ 1024 := by
          by_cases hz : a.size ≤ 1024
          · exact hz
          · unfold scanS at hc; rw [if_neg hz] at hc; exact absurd hc (by decide)
        have he : scanS a = scanT a.data.toList 0 [] := by unfold scanS; rw [if_pos hsz]
        rw [he] at hc
        have hp := scanT_at a.data.toList.length a.data.toList 0 [] (Nat.le_refl _) hc
        have hend : (readS a).2.ts.length = 0 ∧ (readS a).2.bad = false := by
          unfold endS at hb
          by_cases hz : (readS a).2.ts.length = 0
          · rw [if_pos hz] at hb; exact ⟨hz, by simpa using hb⟩
          · rw [if_neg hz, failS_bad] at hb; exact absurd rfl hb
        refine ⟨hsz, (scanT a.data.toList 0 []).1, Prod.ext rfl (Prod.ext hp hc), ⟨(a.size : Int), (readS a).2.pos, ?_⟩, rfl, by show depthT (readS a).1 ≤ 24; omega⟩
        have hr : readS a = exprF (a.size : Int) (6 * (scanS a).1.length + 6) ⟨(scanS a).1, false, 0⟩ := rfl
        rw [he] at hr
        rw [← hr]
        have h0 := List.eq_nil_of_length_eq_zero hend.1
        generalize readS a = r at *
        obtain ⟨x, ts, bad, pos⟩ := r
        simp only at h0 hend
        rw [h0, hend.2]
  · rw [if_neg hc] at h
    exact absurd h hc
end Go.Proofs.YtfgfoofojofnmaaDoor.Q
