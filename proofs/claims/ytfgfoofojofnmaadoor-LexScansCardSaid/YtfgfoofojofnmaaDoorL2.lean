/- Tokens stand one behind the other, and between them blanks alone; a text of two that are parted by a blank has the tokens of both: the plain law, and the walk of the statement out of it. -/
import Derived.Test.YtfgfoofojofnmaaDoorL1
import Derived.Test.YtfgfoofojofnmaaDoorQF5
import Derived.Test.YtfgfoofojofnmaaDoorQF14
import Derived.Test.YtfgfoofojofnmaaDoorQF15
import Derived.Test.YtfgfoofojofnmaaDoorQF17
import Derived.Test.YtfgfoofojofnmaaDoorQF18
namespace Go.Proofs.YtfgfoofojofnmaaDoor.Q
open Go.RowKit Go.Proofs.YtfgfoofojofnmaaDoorW.PrintWords Go.Proofs.YtfgfoofojofnmaaDoorW.PrintLast Go.Proofs.YtfgfoofojofnmaaDoorW.PrintMore
open Go.Proofs.YtfgfoofojofnmaaDoor.Hand
set_option linter.unusedVariables false
set_option maxRecDepth 10000 in
theorem awake_true : forebearlaw22_awake.f 20 = some true := by decide +kernel

theorem awake_more (k : Nat) (hk : 20 ≤ k) : forebearlaw22_awake.f k = some true := at_rounds (fun k => forebearlaw22_awake.mono k) hk awake_true
attribute [local irreducible] oneT nOf
/-! ### a text behind another one, a blank between -/
theorem scanT_more (m : List UInt8) (n : Nat) : ∀ (l : List UInt8) (i : Nat) (out : List S39), l.length ≤ n → (scanT l i out).2.2 = 0 → scanT (l ++ 32 :: m) i out = scanT m (i + l.length + 1) (scanT l i out).1 := by
  induction n with
  | zero =>
    intro l i out hl _
    have : l = [] := List.length_eq_zero_iff.mp (by omega)
    subst this
    rw [List.nil_append, scanT_blank (.inl rfl), scanT_nil]
    rfl
  | succ n ih =>
    intro l i out hl h
    cases l with
    | nil =>
      rw [List.nil_append, scanT_blank (.inl rfl), scanT_nil]
      rfl
    | cons c r =>
      simp only [List.length_cons] at hl
      rw [List.cons_append]
      by_cases hb : c = 32 ∨ c = 9
      · rw [scanT_blank hb] at h ⊢
        rw [scanT_blank hb, ih r (i + 1) out (by omega) h]
        congr 1
        simp only [List.length_cons]; omega
      · by_cases h0 : nOf (oneT c r) = 0
        · rw [scanT_bad hb h0] at h
          exact absurd (show (30 : Int) = 0 from h) (by decide)
        · have e := oneT_more c r m h0
          have hq := nOf_le c r
          rw [scanT_tok hb h0] at h ⊢
          rw [scanT_tok hb (by rw [e]; exact h0), e]
          have ed : (c :: (r ++ 32 :: m)).drop (nOf (oneT c r)) = (c :: r).drop (nOf (oneT c r)) ++ 32 :: m := by
            rw [← List.cons_append, List.drop_append_of_le_length (by simp only [List.length_cons]; omega)]
          rw [ed, ih _ _ _ (by simp only [List.length_drop, List.length_cons]; omega) h]
          congr 1
          simp only [List.length_drop, List.length_cons]; omega
theorem scanT_place (n : Nat) : ∀ (l : List UInt8) (i : Nat) (out : List S39), l.length ≤ n → (scanT l i out).2.2 = 0 → (scanT l i out).2.1 = 0 := by
  induction n with
  | zero =>
    intro l i out hl _
    have : l = [] := List.length_eq_zero_iff.mp (by omega)
    subst this
    rw [scanT_nil]
  | succ n ih =>
    intro l i out hl h
    cases l with
    | nil => rw [scanT_nil]
    | cons c r =>
      simp only [List.length_cons] at hl
      by_cases hb : c = 32 ∨ c = 9
      · rw [scanT_blank hb] at h ⊢
        exact ih r _ _ (by omega) h
      · by_cases h0 : nOf (oneT c r) = 0
        · rw [scanT_bad hb h0] at h
          exact absurd (show (30 : Int) = 0 from h) (by decide)
        · rw [scanT_tok hb h0] at h ⊢
          exact ih _ _ _ (by simp only [List.length_drop, List.length_cons]; omega) h
def sh (d : Nat) (t : S39) : S39 := ⟨t.f0, t.f1, t.f2, t.f3, t.f4 + d⟩
theorem scanT_shift (d : Nat) (pre : List S39) (n : Nat) : ∀ (l : List UInt8) (i : Nat) (out : List S39), l.length ≤ n → (scanT l i out).2.2 = 0 → scanT l (i + d) (pre ++ out.map (sh d)) = (pre ++ (scanT l i out).1.map (sh d), 0, 0) := by
  induction n with
  | zero =>
    intro l i out hl _
    have : l = [] := List.length_eq_zero_iff.mp (by omega)
    subst this
    rw [scanT_nil, scanT_nil]
  | succ n ih =>
    intro l i out hl h
    cases l with
    | nil => rw [scanT_nil, scanT_nil]
    | cons c r =>
      simp only [List.length_cons] at hl
      by_cases hb : c = 32 ∨ c = 9
      · rw [scanT_blank hb] at h ⊢
        rw [scanT_blank hb, ← ih r _ _ (by omega) h]
        congr 1
        omega
      · by_cases h0 : nOf (oneT c r) = 0
        · rw [scanT_bad hb h0] at h
          exact absurd (show (30 : Int) = 0 from h) (by decide)
        · rw [scanT_tok hb h0] at h ⊢
          rw [scanT_tok hb h0, ← ih _ _ _ (by simp only [List.length_drop, List.length_cons]; omega) h]
          have e1 : i + d + nOf (oneT c r) = i + nOf (oneT c r) + d := by omega
          have e2 : pre ++ out.map (sh d) ++ [tokOf (oneT c r) (i + d)] = pre ++ (out ++ [tokOf (oneT c r) i]).map (sh d) := by
            simp [sh, tokOf]
          rw [e1, e2]
/-- Places that rise, all of them below i. -/
def Inc (out : List S39) (i : Nat) : Prop := (∀ t ∈ out, 0 ≤ t.f4 ∧ t.f4 < i) ∧ out.Pairwise (fun a b => a.f4 < b.f4)
theorem Inc_snoc {out : List S39} {i q : Nat} (h : Inc out i) (t : S39) (ht : t.f4 = i) (hq : 0 < q) : Inc (out ++ [t]) (i + q) := by
  refine ⟨fun x hx => ?_, ?_⟩
  · rcases List.mem_append.mp hx with hx | hx
    · have := h.1 x hx; omega
    · rw [List.mem_singleton.mp hx, ht]; omega
  · rw [List.pairwise_append]
    refine ⟨h.2, by simp, fun a ha b hb => ?_⟩
    rw [List.mem_singleton.mp hb, ht]
    exact (h.1 a ha).2
theorem scanT_inc (n : Nat) : ∀ (l : List UInt8) (i : Nat) (out : List S39), l.length ≤ n → Inc out i → (scanT l i out).2.2 = 0 → Inc (scanT l i out).1 (i + l.length) := by
  induction n with
  | zero =>
    intro l i out hl hI _
    have : l = [] := List.length_eq_zero_iff.mp (by omega)
    subst this
    rw [scanT_nil]
    exact hI
  | succ n ih =>
    intro l i out hl hI h
    cases l with
    | nil => rw [scanT_nil]; exact hI
    | cons c r =>
      simp only [List.length_cons] at hl
      by_cases hb : c = 32 ∨ c = 9
      · rw [scanT_blank hb] at h ⊢
        have := ih r (i + 1) out (by omega) ⟨fun t ht => by have := hI.1 t ht; omega, hI.2⟩ h
        rw [show i + (c :: r).length = i + 1 + r.length by simp only [List.length_cons]; omega]
        exact this
      · by_cases h0 : nOf (oneT c r) = 0
        · rw [scanT_bad hb h0] at h
          exact absurd (show (30 : Int) = 0 from h) (by decide)
        · have hq := nOf_le c r
          rw [scanT_tok hb h0] at h ⊢
          have := ih _ (i + nOf (oneT c r)) _ (by simp only [List.length_drop, List.length_cons]; omega) (Inc_snoc hI (tokOf (oneT c r) i) rfl (by omega)) h
          rw [show i + (c :: r).length = i + nOf (oneT c r) + ((c :: r).drop (nOf (oneT c r))).length by simp only [List.length_drop, List.length_cons]; omega]
          exact this
theorem scanT_len (n : Nat) : ∀ (l : List UInt8) (i : Nat) (out : List S39), l.length ≤ n → out.length ≤ i → (scanT l i out).1.length ≤ i + l.length := by
  induction n with
  | zero =>
    intro l i out hl ho
    have : l = [] := List.length_eq_zero_iff.mp (by omega)
    subst this
    rw [scanT_nil]
    simpa using ho
  | succ n ih =>
    intro l i out hl ho
    cases l with
    | nil => rw [scanT_nil]; simpa using ho
    | cons c r =>
      simp only [List.length_cons] at hl ⊢
      by_cases hb : c = 32 ∨ c = 9
      · rw [scanT_blank hb]
        have := ih r (i + 1) out (by omega) (by omega)
        omega
      · by_cases h0 : nOf (oneT c r) = 0
        · rw [scanT_bad hb h0]; simp
        · have hq := nOf_le c r
          rw [scanT_tok hb h0]
          have := ih ((c :: r).drop (nOf (oneT c r))) (i + nOf (oneT c r)) (out ++ [tokOf (oneT c r) i]) (by simp only [List.length_drop, List.length_cons]; omega) (by simp; omega)
          simp only [List.length_drop, List.length_cons] at this
          omega

/-! ### the law's own loops -/
def cv (t : S39) : S78 := ⟨t.f0, t.f1, t.f2, t.f3, t.f4⟩
theorem tokens_loop (l : List S39) (hl : l.length < 1000000000) (d : Nat) : ∀ (k i : Nat) (out : List S78), l.length - i = d → i ≤ l.length → out = (l.take i).map cv → d < k → forebearlaw22_Tokens.l0 k l out i = some (l.map cv) := by
  induction d with
  | zero =>
    intro k i out hd hi ho hk
    obtain ⟨k, rfl⟩ : ∃ m, k = m + 1 := ⟨k - 1, by omega⟩
    simp only [forebearlaw22_Tokens.l0]
    rw [if_neg (by omega), ho, List.take_of_length_le (by omega)]
  | succ d ih =>
    intro k i out hd hi ho hk
    obtain ⟨k, rfl⟩ : ∃ m, k = m + 1 := ⟨k - 1, by omega⟩
    have hlt : i < l.length := by omega
    have hol : out.length = i := by rw [ho]; simp; omega
    simp only [forebearlaw22_Tokens.l0]
    rw [if_pos (by omega), if_pos (by omega), if_pos (by omega)]
    have e1 : Hid (wrap64 ((i : Int) + 1) = ((i + 1 : Nat) : Int)) := Lib.hid (by rw [w64 (by omega) (by omega)]; omega)
    have e2 : out ++ [(⟨(rd_T39 l i).f0, (rd_T39 l i).f1, (rd_T39 l i).f2, (rd_T39 l i).f3, (rd_T39 l i).f4⟩ : S78)] = (l.take (i + 1)).map cv := by
      rw [List.take_succ_eq_append_getElem hlt, List.map_append, ← ho]
      have : rd_T39 l (i : Int) = l[i] := by simp [rd_T39, hlt]
      rw [this]
      rfl
    rw [e1.out, e2]
    clear e1
    exact ih k (i + 1) _ (by omega) (by omega) rfl (by omega)
theorem tokens_eq (l : List S39) (hl : l.length < 1000000000) (k : Nat) (hk : l.length < k) : forebearlaw22_Tokens.f k l = some (l.map cv) :=
  tokens_loop l hl l.length k 0 [] (by omega) (by omega) rfl hk
theorem sameL_refl (p : Bool) : ∀ l : List S78, sameL p l l = true
  | [] => rfl
  | x :: l => by simp [sameL, same1, sameL_refl p l]

theorem rd_at (l : List S39) (i : Nat) (h : i < l.length) : rd_T39 l (i : Int) = l[i] := by simp [rd_T39, h]
theorem rise_loop (x0 x1 : ByteArray) (h0 : x0.size ≤ 1024) (h1 : x1.size ≤ 1024) (l : List S39) (hl : l.length < 1000000000) (hI : Inc l (x0.size + 1 + x1.size)) (d : Nat) : ∀ (k i : Nat), l.length - i = d → 1 ≤ i → d < k → forebearlaw22_LexPlaces.l1 k x0 x1 l i = some true := by
  induction d with
  | zero =>
    intro k i hd hi hk
    obtain ⟨k, rfl⟩ : ∃ m, k = m + 1 := ⟨k - 1, by omega⟩
    simp only [forebearlaw22_LexPlaces.l1]
    rw [if_neg (by omega)]
  | succ d ih =>
    intro k i hd hi hk
    obtain ⟨k, rfl⟩ : ∃ m, k = m + 1 := ⟨k - 1, by omega⟩
    have hlt : i < l.length := by omega
    have e1 : Hid (wrap64 ((i : Int) + 1) = ((i + 1 : Nat) : Int)) := Lib.hid (by rw [w64 (by omega) (by omega)]; omega)
    have e2 : Hid (wrap64 ((i : Int) - 1) = ((i - 1 : Nat) : Int)) := Lib.hid (by rw [w64 (by omega) (by omega)]; omega)
    have e3 : Hid (wrap64 ((x0.size : Int) + 1) = ((x0.size + 1 : Nat) : Int)) := Lib.hid (by rw [w64 (by omega) (by omega)]; omega)
    have e4 : Hid (wrap64 (((x0.size + 1 : Nat) : Int) + x1.size) = ((x0.size + 1 + x1.size : Nat) : Int)) := Lib.hid (by rw [w64 (by omega) (by omega)]; omega)
    have hp : (l[i - 1]'(by omega)).f4 < (l[i]'hlt).f4 := (List.pairwise_iff_getElem.mp hI.2) (i - 1) i (by omega) hlt (by omega)
    have hb := (hI.1 (l[i]'hlt) (List.getElem_mem hlt)).2
    simp only [forebearlaw22_LexPlaces.l1]
    rw [e1.out, e2.out, e3.out, e4.out]
    clear e1 e2 e3 e4
    rw [if_pos (by omega), if_pos (by omega), if_pos (by omega), if_pos (by omega), rd_at l i hlt, rd_at l (i - 1) (by omega), if_neg (by omega), if_neg (by omega)]
    exact ih k (i + 1) (by omega) (by omega) (by omega)
theorem shift_loop (x0 x1 : ByteArray) (h0 : x0.size ≤ 1024) (h1 : x1.size ≤ 1024) (l m n : List S39) (g : Int) (hm : m.length < 1000000000) (hn : n.length < 1000000000) (hl : l.length < 1000000000) (hI : ∀ t ∈ m, 0 ≤ t.f4 ∧ t.f4 ≤ 2000) (hg : g = 0) (he : n = l ++ m.map (sh (x0.size + 1))) (hr : Inc n (x0.size + 1 + x1.size)) (d : Nat) :
    ∀ (k i : Nat) (m' : List S39), m.length - i = d → i ≤ m.length → m' = (m.take i).map (sh (x0.size + 1)) ++ m.drop i → d + n.length + l.length + m.length + 10 < k → forebearlaw22_LexPlaces.l0 k x0 x1 l m' n 0 g i = some true := by
  induction d with
  | zero =>
    intro k i m' hd hi hm' hk
    obtain ⟨k, rfl⟩ : ∃ q, k = q + 2 := ⟨k - 2, by omega⟩
    have hml : m' = m.map (sh (x0.size + 1)) := by
      rw [hm', List.take_of_length_le (by omega), List.drop_eq_nil_of_le (by omega), List.append_nil]
    have hlm : m'.length = m.length := by rw [hml]; simp
    have hln : (l ++ m').length = n.length := by rw [hml, he]
    simp only [forebearlaw22_LexPlaces.l0]
    rw [if_neg (by omega), if_pos hg, if_pos trivial, tokens_eq n hn (k + 1) (by omega), Option.bind_some, if_pos (by omega), tokens_eq (l ++ m') (by omega) (k + 1) (by omega), Option.bind_some, hml, ← he]
    unfold forebearref22_Same.f
    rw [if_pos (by simp; omega), sameL_refl, Option.bind_some]
    simp only [forebearlaw22_LexPlaces.j2]
    rw [if_neg (by decide)]
    exact rise_loop x0 x1 h0 h1 n hn hr _ k 1 rfl (by omega) (by omega)
  | succ d ih =>
    intro k i m' hd hi hm' hk
    obtain ⟨k, rfl⟩ : ∃ q, k = q + 1 := ⟨k - 1, by omega⟩
    have hlt : i < m.length := by omega
    have hlm : m'.length = m.length := by rw [hm']; simp; omega
    have hti : ((m.take i).map (sh (x0.size + 1))).length = i := by simp; omega
    have hg1 : m'[i]'(by omega) = m[i] := by
      have : m'[i]? = some m[i] := by
        rw [hm', List.getElem?_append_right (by omega), hti, Nat.sub_self, List.getElem?_drop]
        simp [hlt]
      exact (List.getElem?_eq_some_iff.mp this).2
    have e1 : Hid (wrap64 ((i : Int) + 1) = ((i + 1 : Nat) : Int)) := Lib.hid (by rw [w64 (by omega) (by omega)]; omega)
    have hb := hI m[i] (List.getElem_mem hlt)
    have e2 : Hid (wrap64 (m[i].f4 + x0.size) = m[i].f4 + x0.size) := Lib.hid (w64 (by omega) (by omega))
    have e3 : Hid (wrap64 (m[i].f4 + x0.size + 1) = m[i].f4 + ((x0.size + 1 : Nat) : Int)) := Lib.hid (by rw [w64 (by omega) (by omega)]; omega)
    simp only [forebearlaw22_LexPlaces.l0]
    rw [rd_at m' i (by omega), hg1, e1.out, e2.out, e3.out]
    clear e1 e2 e3
    rw [if_pos (by omega), if_pos (by omega), Int.toNat_natCast]
    refine ih k (i + 1) _ (by omega) (by omega) ?_ (by omega)
    have hset : m' = (m.take i).map (sh (x0.size + 1)) ++ m[i] :: m.drop (i + 1) := by rw [hm', List.drop_eq_getElem_cons hlt]
    rw [hset, List.set_append_right _ _ (by omega), hti, Nat.sub_self, List.set_cons_zero, List.take_succ_eq_append_getElem hlt, List.map_append, List.append_assoc]
    rfl
theorem scan_f (s : ByteArray) (h : s.size ≤ 1024) : lex_Scan.f s = some (scanT s.data.toList 0 []) := if_pos h
theorem scan_f_long (s : ByteArray) (h : ¬ s.size ≤ 1024) : lex_Scan.f s = some ([], 0, 4) := if_neg h
theorem scan_ok {s : ByteArray} {r : List S39 × Int × Int} (h : lex_Scan.f s = some r) (h0 : r.2.2 = 0) : s.size ≤ 1024 ∧ r = scanT s.data.toList 0 [] := by
  by_cases hs : s.size ≤ 1024
  · rw [scan_f s hs] at h
    exact ⟨hs, (Option.some.inj h).symm⟩
  · rw [scan_f_long s hs] at h
    rw [← Option.some.inj h] at h0
    exact absurd (show (4 : Int) = 0 from h0) (by decide)
theorem places_j0 (a0 a1 : ByteArray) (l m : List S39) (k : Nat) : forebearlaw22_LexPlaces.j0 (k + 1) a0 a1 l m true = some true := by
  simp only [forebearlaw22_LexPlaces.j0]
  rw [if_pos trivial]
theorem scan_some (s : ByteArray) : ∃ r, lex_Scan.f s = some r := by
  by_cases h : s.size ≤ 1024
  · exact ⟨_, scan_f s h⟩
  · exact ⟨_, scan_f_long s h⟩
theorem LexPlaces_pure (haw : ∀ k, 20 ≤ k → forebearlaw22_awake.f k = some true) (a0 a1 : ByteArray) : ∃ k, forebearlaw22_LexPlaces.f k a0 a1 = some true := by
  refine ⟨100000, ?_⟩
  unfold forebearlaw22_LexPlaces.f
  rw [haw 100000 (by decide), Option.bind_some, if_pos rfl]
  obtain ⟨r0, e0⟩ := scan_some a0
  obtain ⟨r1, e1⟩ := scan_some a1
  rw [e0, Option.bind_some, e1, Option.bind_some]
  by_cases h0 : r0.2.2 = 0
  · rw [if_pos h0]
    by_cases h1 : r1.2.2 = 0
    · rw [if_pos h1]
      obtain ⟨s0, t0⟩ := scan_ok e0 h0
      obtain ⟨s1, t1⟩ := scan_ok e1 h1
      have ew : wrap64 ((a0.size : Int) + (a1.size : Int)) = ((a0.size + a1.size : Nat) : Int) := by rw [w64 (by omega) (by omega)]; omega
      rw [ew]
      clear ew
      by_cases hb : a0.size + a1.size < 1024
      · rw [decide_eq_false (by omega)]
        have hd0 : a0.data.toList.length = a0.size := by simp
        have hd1 : a1.data.toList.length = a1.size := by simp
        have k0 : (scanT a0.data.toList 0 []).2.2 = 0 := by rw [← t0]; exact h0
        have k1 : (scanT a1.data.toList 0 []).2.2 = 0 := by rw [← t1]; exact h1
        have hI0 := scanT_inc a0.size a0.data.toList 0 [] (by omega) ⟨by simp, by simp⟩ k0
        have hI1 := scanT_inc a1.size a1.data.toList 0 [] (by omega) ⟨by simp, by simp⟩ k1
        have hl0 := scanT_len a0.size a0.data.toList 0 [] (by omega) (by simp)
        have hl1 := scanT_len a1.size a1.data.toList 0 [] (by omega) (by simp)
        have hsz : (a0 ++ (⟨#[32]⟩ : ByteArray) ++ a1).size = a0.size + 1 + a1.size := by
          rw [ByteArray.size_append, ByteArray.size_append]; rfl
        have hdl : (a0 ++ (⟨#[32]⟩ : ByteArray) ++ a1).data.toList = a0.data.toList ++ 32 :: a1.data.toList := by
          simp [ByteArray.data_append]
        have hm := scanT_more a1.data.toList a0.size a0.data.toList 0 [] (by omega) k0
        have hs := scanT_shift (a0.size + 1) (scanT a0.data.toList 0 []).1 a1.size a1.data.toList 0 [] (by omega) k1
        have hN : lex_Scan.f (a0 ++ (⟨#[32]⟩ : ByteArray) ++ a1) = some ((scanT a0.data.toList 0 []).1 ++ (scanT a1.data.toList 0 []).1.map (sh (a0.size + 1)), 0, 0) := by
          have e1 : 0 + a0.data.toList.length + 1 = 0 + (a0.size + 1) := by omega
          rw [scan_f _ (by rw [hsz]; omega), hdl, hm, e1, ← hs, List.map_nil, List.append_nil]
        have hIn := scanT_inc (a0.size + 1 + a1.size) (a0.data.toList ++ 32 :: a1.data.toList) 0 [] (by simp; omega) ⟨by simp, by simp⟩ (by
          have := hN
          rw [scan_f _ (by rw [hsz]; omega), hdl] at this
          rw [Option.some.inj this])
        have hIn2 : Inc ((scanT a0.data.toList 0 []).1 ++ (scanT a1.data.toList 0 []).1.map (sh (a0.size + 1))) (a0.size + 1 + a1.size) := by
          have := hN
          rw [scan_f _ (by rw [hsz]; omega), hdl] at this
          rw [Option.some.inj this] at hIn
          have e : 0 + (a0.data.toList ++ 32 :: a1.data.toList).length = a0.size + 1 + a1.size := by simp; omega
          rw [e] at hIn
          exact hIn
        rw [show (100000 : Nat) = 99999 + 1 from rfl]
        simp only [forebearlaw22_LexPlaces.j0]
        rw [if_neg (by decide), if_pos (by omega), if_pos (by omega), hN, Option.bind_some, t0, t1]
        refine shift_loop a0 a1 s0 s1 _ _ _ 0 (by omega) (by simp; omega) (by omega) (fun t ht => ?_) rfl rfl hIn2 _ _ 0 _ rfl (by omega) (by simp) (by simp; omega)
        have := hI1.1 t ht
        omega
      · rw [decide_eq_true (by omega)]
        exact places_j0 a0 a1 _ _ _
    · rw [if_neg h1]
      exact places_j0 a0 a1 _ _ _
  · rw [if_neg h0]
    exact places_j0 a0 a1 _ _ _

theorem lexPlaces_walk (a0 a1 : ByteArray) (w : World) (w0 : a0.size ≤ 140737488351232) (w1 : a1.size ≤ 140737488351232) :
    Calls Tryd.prog 5 #[.string a0, .string a1] w fun e w' => e = .returned (.bool true) ∧ Below w.heap.size w w' := by
  obtain ⟨k, h⟩ := LexPlaces_pure awake_more a0 a1
  exact forebearlaw22_LexPlaces.calls k a0 a1 true w h
end Go.Proofs.YtfgfoofojofnmaaDoor.Q
