/- Plain laws for the cutting of a text that is put together: ahead of a byte that no name goes on with, the tokens are those that there were. -/
import Derived.Test.YtfgfoofojofnmaaDoorL1
namespace Go.Proofs.YtfgfoofojofnmaaDoor.Q
open Go.RowKit Go.Proofs.YtfgfoofojofnmaaDoorW.PrintWords Go.Proofs.YtfgfoofojofnmaaDoorW.PrintLast Go.Proofs.YtfgfoofojofnmaaDoorW.PrintMore
open Go.Proofs.YtfgfoofojofnmaaDoor.Hand
set_option linter.unusedVariables false
set_option linter.unusedSimpArgs false
theorem head_chr (p : UInt8 → Bool) {d : UInt8} (h32 : p d = false) (m : List UInt8) : ∀ l : List UInt8, headN p (l ++ d :: m) = headN p l ∧ (l ++ d :: m).take (headN p l) = l.take (headN p l)
  | [] => by simp [headN, h32]
  | c :: l => by
    obtain ⟨h1, h2⟩ := head_chr p h32 m l
    by_cases hc : p c = true
    · have e : headN p (c :: l) = headN p l + 1 := by simp [headN, hc]
      have e2 : headN p (c :: l ++ d :: m) = headN p (l ++ d :: m) + 1 := by simp [headN, hc]
      rw [e, e2, h1, List.cons_append, List.take_succ_cons, List.take_succ_cons, h2]
      exact ⟨rfl, rfl⟩
    · have e : headN p (c :: l) = 0 := by simp [headN, hc]
      have e2 : headN p (c :: l ++ d :: m) = 0 := by simp [headN, hc]
      rw [e, e2]
      simp
theorem one_chr {d : UInt8} (hd : nameB d = false) (c : UInt8) (r m : List UInt8) (t : Tk) (h : oneL c r = some t) (hn : t.2.2.2.2.2 ≠ 0) : oneL c (r ++ d :: m) = some t := by
  have N : ∀ {P : Prop}, some zeroT = some t → P := fun e => absurd (by rw [← Option.some.inj e]; rfl) hn
  unfold oneL at h ⊢
  have hN := head_chr nameB hd m (c :: r)
  have hD := head_chr digitB (by simp only [nameB, Bool.or_eq_false_iff] at hd; exact hd.1.2) m (c :: r)
  rw [List.cons_append] at hN hD
  by_cases h1 : smallB c = true
  · rw [if_pos h1] at h ⊢
    rw [hN.1, hN.2]
    exact h
  · rw [if_neg h1] at h ⊢
    by_cases h2 : digitB c = true
    · rw [if_pos h2] at h ⊢
      rw [hD.1, hD.2]
      exact h
    · rw [if_neg h2] at h ⊢
      by_cases h3 : c = 39
      · rw [if_pos h3] at h ⊢
        by_cases h4 : 0 ≤ Lib.indexByte r 39
        · rw [if_pos h4] at h
          rw [idx_more _ _ _ h4, if_pos h4]
          have := idx_lt r 39 h4
          rw [List.take_append_of_le_length (by omega)]
          exact h
        · rw [if_neg h4] at h
          exact N h
      · rw [if_neg h3] at h ⊢
        by_cases h4 : c = 35 ∧ 16 < r.length + 1
        · rw [if_pos h4] at h
          rw [if_pos ⟨h4.1, by simp; omega⟩, List.take_append_of_le_length (by omega)]
          exact h
        · rw [if_neg h4] at h
          by_cases h35 : c = 35
          · rw [if_neg (by rw [h35]; simp), if_neg (by rw [h35]; exact (by decide : ¬ signB 35 = true))] at h
            exact N h
          · rw [if_neg (fun e => h35 e.1)]
            by_cases h5 : (c :: r).take 2 = [46, 46] ∨ (c :: r).take 2 = [58, 58]
            · have h2 : 2 ≤ (c :: r).length := by
                rcases h5 with h | h
                · have := congrArg List.length h; simp at this ⊢; omega
                · have := congrArg List.length h; simp at this ⊢; omega
              rw [if_pos h5] at h
              have e : (c :: (r ++ d :: m)).take 2 = (c :: r).take 2 := by
                rw [← List.cons_append]; exact List.take_append_of_le_length h2
              rw [e, if_pos h5]
              exact h
            · rw [if_neg h5] at h
              by_cases h6 : signB c = true
              · rw [if_pos h6] at h
                have h7 : ¬ ((c :: (r ++ d :: m)).take 2 = [46, 46] ∨ (c :: (r ++ d :: m)).take 2 = [58, 58]) := by
                  intro e
                  rcases e with e | e
                  · have : c = 46 := by simpa using congrArg List.head? e
                    rw [this] at h6
                    exact absurd h6 (by decide)
                  · have : c = 58 := by simpa using congrArg List.head? e
                    rw [this] at h6
                    exact absurd h6 (by decide)
                rw [if_neg h7, if_pos h6]
                exact h
              · rw [if_neg h6] at h
                exact N h

theorem oneT_chr {d : UInt8} (hd : nameB d = false) (c : UInt8) (r m : List UInt8) (h : nOf (oneT c r) ≠ 0) : oneT c (r ++ d :: m) = oneT c r := by
  have h2 : (oneT c r).2.2.2.2.2 ≠ 0 := by have := nOf_eq c r; omega
  have := one_chr hd c r m (oneT c r) (oneT_eq c r) h2
  rw [oneT, this]; rfl

attribute [local irreducible] oneT nOf
theorem scanT_chr {d : UInt8} (hd : nameB d = false) (m : List UInt8) (n : Nat) : ∀ (l : List UInt8) (i : Nat) (out : List S39), l.length ≤ n → (scanT l i out).2.2 = 0 → scanT (l ++ d :: m) i out = scanT (d :: m) (i + l.length) (scanT l i out).1 := by
  induction n with
  | zero =>
    intro l i out hl _
    have : l = [] := List.length_eq_zero_iff.mp (by omega)
    subst this
    rw [List.nil_append, scanT_nil]
    rfl
  | succ n ih =>
    intro l i out hl h
    cases l with
    | nil =>
      rw [List.nil_append, scanT_nil]
      rfl
    | cons c r =>
      simp only [List.length_cons] at hl
      rw [List.cons_append]
      by_cases hb : c = 32 ∨ c = 9
      · rw [scanT_blank hb] at h ⊢
        rw [scanT_blank hb, ih r (i + 1) out (by omega) h]
        congr 1
        simp only [List.length_cons]; omega
      · by_cases h0 : nOf (oneT c r) = 0
        · rw [scanT_bad hb h0] at h
          exact absurd (show (30 : Int) = 0 from h) (by decide)
        · have e := oneT_chr hd c r m h0
          have hq := nOf_le c r
          rw [scanT_tok hb h0] at h ⊢
          rw [scanT_tok hb (by rw [e]; exact h0), e]
          have ed : (c :: (r ++ d :: m)).drop (nOf (oneT c r)) = (c :: r).drop (nOf (oneT c r)) ++ d :: m := by
            rw [← List.cons_append, List.drop_append_of_le_length (by simp only [List.length_cons]; omega)]
          rw [ed, ih _ _ _ (by simp only [List.length_drop, List.length_cons]; omega) h]
          congr 1
          simp only [List.length_drop, List.length_cons]; omega
theorem scanT_at (n : Nat) : ∀ (l : List UInt8) (i : Nat) (out : List S39), l.length ≤ n → (scanT l i out).2.2 = 0 → (scanT l i out).2.1 = 0 := by
  induction n with
  | zero =>
    intro l i out hl _
    have : l = [] := List.length_eq_zero_iff.mp (by omega)
    subst this
    rw [scanT_nil]
  | succ n ih =>
    intro l i out hl h
    cases l with
    | nil => rw [scanT_nil]
    | cons c r =>
      simp only [List.length_cons] at hl
      by_cases hb : c = 32 ∨ c = 9
      · rw [scanT_blank hb] at h ⊢
        exact ih r _ _ (by omega) h
      · by_cases h0 : nOf (oneT c r) = 0
        · rw [scanT_bad hb h0] at h
          exact absurd (show (30 : Int) = 0 from h) (by decide)
        · rw [scanT_tok hb h0] at h ⊢
          exact ih _ _ _ (by simp only [List.length_drop, List.length_cons]; omega) h
def shT (d : Nat) (t : S39) : S39 := ⟨t.f0, t.f1, t.f2, t.f3, t.f4 + d⟩
theorem scanT_mv (d : Nat) (pre : List S39) (n : Nat) : ∀ (l : List UInt8) (i : Nat) (out : List S39), l.length ≤ n → (scanT l i out).2.2 = 0 → scanT l (i + d) (pre ++ out.map (shT d)) = (pre ++ (scanT l i out).1.map (shT d), 0, 0) := by
  induction n with
  | zero =>
    intro l i out hl _
    have : l = [] := List.length_eq_zero_iff.mp (by omega)
    subst this
    rw [scanT_nil, scanT_nil]
  | succ n ih =>
    intro l i out hl h
    cases l with
    | nil => rw [scanT_nil, scanT_nil]
    | cons c r =>
      simp only [List.length_cons] at hl
      by_cases hb : c = 32 ∨ c = 9
      · rw [scanT_blank hb] at h ⊢
        rw [scanT_blank hb, ← ih r _ _ (by omega) h]
        congr 1
        omega
      · by_cases h0 : nOf (oneT c r) = 0
        · rw [scanT_bad hb h0] at h
          exact absurd (show (30 : Int) = 0 from h) (by decide)
        · rw [scanT_tok hb h0] at h ⊢
          rw [scanT_tok hb h0, ← ih _ _ _ (by simp only [List.length_drop, List.length_cons]; omega) h]
          have e1 : i + d + nOf (oneT c r) = i + nOf (oneT c r) + d := by omega
          have e2 : pre ++ out.map (shT d) ++ [tokOf (oneT c r) (i + d)] = pre ++ (out ++ [tokOf (oneT c r) i]).map (shT d) := by
            simp [shT, tokOf]
          rw [e1, e2]
end Go.Proofs.YtfgfoofojofnmaaDoor.Q
