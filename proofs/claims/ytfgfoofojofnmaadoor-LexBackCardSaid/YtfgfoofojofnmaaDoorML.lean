/- From a row's list of variables to the table of powers of ten. -/
import Derived.Test.YtfgfoofojofnmaaDoorP2
import Derived.Test.YtfgfoofojofnmaaDoorL1
import Derived.Test.YtfgfoofojofnmaaDoorP4
import Derived.Test.YtfgfoofojofnmaaDoorP8
import Derived.Laws.BitsLemmas
import Derived.Test.YtfgfoofojofnmaaDoorQF78
import Derived.Outline
import Derived.Test.YtfgfoofojofnmaaDoorQF45
import Derived.Lib.AppendIntMem
import Derived.Test.YtfgfoofojofnmaaDoorQF20
import Derived.Test.YtfgfoofojofnmaaDoorQF14
import Derived.Test.YtfgfoofojofnmaaDoorQF17
import Derived.Test.YtfgfoofojofnmaaDoorQF18
import Derived.Lib.LaidTab
import Derived.KernelRfl
namespace Go.Proofs.YtfgfoofojofnmaaDoor.Q
section
open Go.RowKit Go.Proofs.YtfgfoofojofnmaaDoorW.PrintWords Go.Proofs.YtfgfoofojofnmaaDoorW.PrintLast Go.Proofs.YtfgfoofojofnmaaDoorW.PrintMore
set_option linter.unusedVariables false
set_option linter.unusedSimpArgs false
open Go.Proofs.YtfgfoofojofnmaaDoor.Hand
/-! ### what is read is read so at any place, ahead of what cannot go on -/
def tkG (g : Int → Int) (t : S39) : S39 := ⟨t.f0, t.f1, t.f2, t.f3, g t.f4⟩
mutual
/-- A tree at other places. -/
def mp (g : Int → Int) : S44 → S44
  | ⟨a, b, c, d, ks, e⟩ => ⟨a, b, c, d, mpM g ks, g e⟩
def mpM (g : Int → Int) : List S44 → List S44
  | [] => []
  | k :: ks => mp g k :: mpM g ks
end
/-- Nothing that stands here goes on with an operand. -/
structure Stop (rest : List S39) : Prop where
  none : ∀ s : ByteArray, s = str1 124 ∨ s = str1 45 ∨ s = str1 38 ∨ s = str2 46 46 ∨ s = str2 58 58 ∨ s = str1 94 ∨ s = str1 40 → ∀ b p, signAt s ⟨rest, b, p⟩ = none
  num : ∀ t r, rest = t :: r → t.f0 ≠ 2
end
section
open Go.RowKit Go.Proofs.YtfgfoofojofnmaaDoorW.PrintWords Go.Proofs.YtfgfoofojofnmaaDoorW.PrintLast Go.Proofs.YtfgfoofojofnmaaDoorW.PrintMore
open Go.Proofs.YtfgfoofojofnmaaDoor.Hand
set_option linter.unusedVariables false
set_option linter.unusedSimpArgs false
theorem head_chr (p : UInt8 → Bool) {d : UInt8} (h32 : p d = false) (m : List UInt8) : ∀ l : List UInt8, headN p (l ++ d :: m) = headN p l ∧ (l ++ d :: m).take (headN p l) = l.take (headN p l)
  | [] => by simp [headN, h32]
  | c :: l => by
    obtain ⟨h1, h2⟩ := head_chr p h32 m l
    by_cases hc : p c = true
    · have e : headN p (c :: l) = headN p l + 1 := by simp [headN, hc]
      have e2 : headN p (c :: l ++ d :: m) = headN p (l ++ d :: m) + 1 := by simp [headN, hc]
      rw [e, e2, h1, List.cons_append, List.take_succ_cons, List.take_succ_cons, h2]
      exact ⟨rfl, rfl⟩
    · have e : headN p (c :: l) = 0 := by simp [headN, hc]
      have e2 : headN p (c :: l ++ d :: m) = 0 := by simp [headN, hc]
      rw [e, e2]
      simp
theorem one_chr {d : UInt8} (hd : nameB d = false) (c : UInt8) (r m : List UInt8) (t : Tk) (h : oneL c r = some t) (hn : t.2.2.2.2.2 ≠ 0) : oneL c (r ++ d :: m) = some t := by
  have N : ∀ {P : Prop}, some zeroT = some t → P := fun e => absurd (by rw [← Option.some.inj e]; rfl) hn
  unfold oneL at h ⊢
  have hN := head_chr nameB hd m (c :: r)
  have hD := head_chr digitB (by simp only [nameB, Bool.or_eq_false_iff] at hd; exact hd.1.2) m (c :: r)
  rw [List.cons_append] at hN hD
  by_cases h1 : smallB c = true
  · rw [if_pos h1] at h ⊢
    rw [hN.1, hN.2]
    exact h
  · rw [if_neg h1] at h ⊢
    by_cases h2 : digitB c = true
    · rw [if_pos h2] at h ⊢
      rw [hD.1, hD.2]
      exact h
    · rw [if_neg h2] at h ⊢
      by_cases h3 : c = 39
      · rw [if_pos h3] at h ⊢
        by_cases h4 : 0 ≤ Lib.indexByte r 39
        · rw [if_pos h4] at h
          rw [idx_more _ _ _ h4, if_pos h4]
          have := idx_lt r 39 h4
          rw [List.take_append_of_le_length (by omega)]
          exact h
        · rw [if_neg h4] at h
          exact N h
      · rw [if_neg h3] at h ⊢
        by_cases h4 : c = 35 ∧ 16 < r.length + 1
        · rw [if_pos h4] at h
          rw [if_pos ⟨h4.1, by simp; omega⟩, List.take_append_of_le_length (by omega)]
          exact h
        · rw [if_neg h4] at h
          by_cases h35 : c = 35
          · rw [if_neg (by rw [h35]; simp), if_neg (by rw [h35]; exact (by decide : ¬ signB 35 = true))] at h
            exact N h
          · rw [if_neg (fun e => h35 e.1)]
            by_cases h5 : (c :: r).take 2 = [46, 46] ∨ (c :: r).take 2 = [58, 58]
            · have h2 : 2 ≤ (c :: r).length := by
                rcases h5 with h | h
                · have := congrArg List.length h; simp at this ⊢; omega
                · have := congrArg List.length h; simp at this ⊢; omega
              rw [if_pos h5] at h
              have e : (c :: (r ++ d :: m)).take 2 = (c :: r).take 2 := by
                rw [← List.cons_append]; exact List.take_append_of_le_length h2
              rw [e, if_pos h5]
              exact h
            · rw [if_neg h5] at h
              by_cases h6 : signB c = true
              · rw [if_pos h6] at h
                have h7 : ¬ ((c :: (r ++ d :: m)).take 2 = [46, 46] ∨ (c :: (r ++ d :: m)).take 2 = [58, 58]) := by
                  intro e
                  rcases e with e | e
                  · have : c = 46 := by simpa using congrArg List.head? e
                    rw [this] at h6
                    exact absurd h6 (by decide)
                  · have : c = 58 := by simpa using congrArg List.head? e
                    rw [this] at h6
                    exact absurd h6 (by decide)
                rw [if_neg h7, if_pos h6]
                exact h
              · rw [if_neg h6] at h
                exact N h

theorem oneT_chr {d : UInt8} (hd : nameB d = false) (c : UInt8) (r m : List UInt8) (h : nOf (oneT c r) ≠ 0) : oneT c (r ++ d :: m) = oneT c r := by
  have h2 : (oneT c r).2.2.2.2.2 ≠ 0 := by have := nOf_eq c r; omega
  have := one_chr hd c r m (oneT c r) (oneT_eq c r) h2
  rw [oneT, this]; rfl

attribute [local irreducible] oneT nOf
theorem scanT_chr {d : UInt8} (hd : nameB d = false) (m : List UInt8) (n : Nat) : ∀ (l : List UInt8) (i : Nat) (out : List S39), l.length ≤ n → (scanT l i out).2.2 = 0 → scanT (l ++ d :: m) i out = scanT (d :: m) (i + l.length) (scanT l i out).1 := by
  induction n with
  | zero =>
    intro l i out hl _
    have : l = [] := List.length_eq_zero_iff.mp (by omega)
    subst this
    rw [List.nil_append, scanT_nil]
    rfl
  | succ n ih =>
    intro l i out hl h
    cases l with
    | nil =>
      rw [List.nil_append, scanT_nil]
      rfl
    | cons c r =>
      simp only [List.length_cons] at hl
      rw [List.cons_append]
      by_cases hb : c = 32 ∨ c = 9
      · rw [scanT_blank hb] at h ⊢
        rw [scanT_blank hb, ih r (i + 1) out (by omega) h]
        congr 1
        simp only [List.length_cons]; omega
      · by_cases h0 : nOf (oneT c r) = 0
        · rw [scanT_bad hb h0] at h
          exact absurd (show (30 : Int) = 0 from h) (by decide)
        · have e := oneT_chr hd c r m h0
          have hq := nOf_le c r
          rw [scanT_tok hb h0] at h ⊢
          rw [scanT_tok hb (by rw [e]; exact h0), e]
          have ed : (c :: (r ++ d :: m)).drop (nOf (oneT c r)) = (c :: r).drop (nOf (oneT c r)) ++ d :: m := by
            rw [← List.cons_append, List.drop_append_of_le_length (by simp only [List.length_cons]; omega)]
          rw [ed, ih _ _ _ (by simp only [List.length_drop, List.length_cons]; omega) h]
          congr 1
          simp only [List.length_drop, List.length_cons]; omega
def shT (d : Nat) (t : S39) : S39 := ⟨t.f0, t.f1, t.f2, t.f3, t.f4 + d⟩
theorem scanT_mv (d : Nat) (pre : List S39) (n : Nat) : ∀ (l : List UInt8) (i : Nat) (out : List S39), l.length ≤ n → (scanT l i out).2.2 = 0 → scanT l (i + d) (pre ++ out.map (shT d)) = (pre ++ (scanT l i out).1.map (shT d), 0, 0) := by
  induction n with
  | zero =>
    intro l i out hl _
    have : l = [] := List.length_eq_zero_iff.mp (by omega)
    subst this
    rw [scanT_nil, scanT_nil]
  | succ n ih =>
    intro l i out hl h
    cases l with
    | nil => rw [scanT_nil, scanT_nil]
    | cons c r =>
      simp only [List.length_cons] at hl
      by_cases hb : c = 32 ∨ c = 9
      · rw [scanT_blank hb] at h ⊢
        rw [scanT_blank hb, ← ih r _ _ (by omega) h]
        congr 1
        omega
      · by_cases h0 : nOf (oneT c r) = 0
        · rw [scanT_bad hb h0] at h
          exact absurd (show (30 : Int) = 0 from h) (by decide)
        · rw [scanT_tok hb h0] at h ⊢
          rw [scanT_tok hb h0, ← ih _ _ _ (by simp only [List.length_drop, List.length_cons]; omega) h]
          have e1 : i + d + nOf (oneT c r) = i + nOf (oneT c r) + d := by omega
          have e2 : pre ++ out.map (shT d) ++ [tokOf (oneT c r) (i + d)] = pre ++ (out ++ [tokOf (oneT c r) i]).map (shT d) := by
            simp [shT, tokOf]
          rw [e1, e2]
end
section
open Go.RowKit Go.Proofs.YtfgfoofojofnmaaDoorW.PrintWords Go.Proofs.YtfgfoofojofnmaaDoorW.PrintLast Go.Proofs.YtfgfoofojofnmaaDoorW.PrintMore
set_option linter.unusedVariables false
set_option linter.unusedSimpArgs false
open Go.Proofs.YtfgfoofojofnmaaDoor.Hand
/-- The tokens A are read whole, to n. -/
def Reads (A : List S39) (n : S44) : Prop := ∃ ev b, exprF ev (6 * A.length + 6) ⟨A, false, 0⟩ = (n, ⟨[], false, b⟩)
section
variable {A : List S39} {n : S44} (h : Reads A n) (ev : Int) (g : Int → Int) (q : Int) (p0 p : Nat) (R : List S39)
include h
end
theorem shT_tk (d : Nat) : shT d = tkG (fun x => x + (d : Int)) := rfl
theorem oneT_sign (c : UInt8) (r : List UInt8) (h1 : smallB c = false) (h2 : digitB c = false) (h3 : c ≠ 39) (h4 : c ≠ 35) (h5 : c ≠ 46) (h6 : c ≠ 58) (h7 : signB c = true) : oneT c r = (5, bs [c], 0, 0, 0, 1) := by
  have : oneL c r = some (5, bs [c], 0, 0, 0, 1) := by
    unfold oneL
    rw [if_neg (by rw [h1]; decide), if_neg (by rw [h2]; decide), if_neg h3, if_neg (fun e => h4 e.1), if_neg, if_pos h7]
    intro e
    rcases e with e | e
    · exact h5 (by simpa using congrArg List.head? e)
    · exact h6 (by simpa using congrArg List.head? e)
  rw [oneT, this]; rfl
theorem oneT_dots (c : UInt8) (r : List UInt8) (h : c = 46 ∨ c = 58) : oneT c (c :: r) = (5, bs [c, c], 0, 0, 0, 2) := by
  have : oneL c (c :: r) = some (5, bs [c, c], 0, 0, 0, 2) := by
    unfold oneL
    rcases h with rfl | rfl
    · rw [if_neg (by decide), if_neg (by decide), if_neg (by decide), if_neg (by simp), if_pos (.inl rfl)]; rfl
    · rw [if_neg (by decide), if_neg (by decide), if_neg (by decide), if_neg (by simp), if_pos (.inr rfl)]; rfl
  rw [oneT, this]; rfl
/-- A whole text ahead of a byte that no name goes on with. -/
theorem scan_part {l : List UInt8} {A : List S39} (h : scanT l 0 [] = (A, 0, 0)) {d : UInt8} (hd : nameB d = false) (m : List UInt8) (i : Nat) (out : List S39) : scanT (l ++ d :: m) i out = scanT (d :: m) (i + l.length) (out ++ A.map (tkG (fun x => x + (i : Int)))) := by
  have h1 := scanT_mv i out l.length l 0 [] (Nat.le_refl _) (by rw [h])
  simp only [Nat.zero_add, List.map_nil, List.append_nil] at h1
  rw [scanT_chr hd m l.length l i out (Nat.le_refl _) (by rw [h1]), h1, h, shT_tk]
end
section
open Go.RowKit Go.Proofs.YtfgfoofojofnmaaDoorW.PrintWords Go.Proofs.YtfgfoofojofnmaaDoorW.PrintLast Go.Proofs.YtfgfoofojofnmaaDoorW.PrintMore
set_option linter.unusedVariables false
set_option linter.unusedSimpArgs false
open Go.Proofs.YtfgfoofojofnmaaDoor.Hand
end
section
open Go.RowKit Go.Proofs.YtfgfoofojofnmaaDoorW.PrintWords Go.Proofs.YtfgfoofojofnmaaDoorW.PrintLast Go.Proofs.YtfgfoofojofnmaaDoorW.PrintMore
set_option linter.unusedVariables false
set_option linter.unusedSimpArgs false
open Go.Proofs.YtfgfoofojofnmaaDoor.Hand
/-- Without places. -/
def eT (t : S39) : S39 := tkG (fun _ => 0) t
theorem eT_mk (a : Int) (b : ByteArray) (c d e : Int) : eT ⟨a, b, c, d, e⟩ = ⟨a, b, c, d, 0⟩ := rfl
/-! ### what tokens there are -/
def NameOk (s : ByteArray) : Prop := ∃ c r, s.data.toList = c :: r ∧ smallB c = true ∧ (∀ x ∈ r, nameB x = true) ∧ r.length + 1 ≤ 16
def TextOk (s : ByteArray) : Prop := (39 : UInt8) ∉ s.data.toList ∧ (10 : UInt8) ∉ s.data.toList ∧ s.size ≤ 1024
def TokOk (t : S39) : Prop :=
  (t.f0 = 1 ∧ NameOk t.f1 ∧ t.f2 = 0 ∧ t.f3 = 0) ∨ (t.f0 = 2 ∧ t.f1 = ⟨#[]⟩ ∧ 0 ≤ t.f2 ∧ t.f2 < 1000000000 ∧ t.f3 = 0) ∨
  (t.f0 = 3 ∧ TextOk t.f1 ∧ t.f2 = 0 ∧ t.f3 = 0) ∨ (t.f0 = 4 ∧ t.f1 = ⟨#[]⟩ ∧ t.f2 = 0 ∧ 0 ≤ t.f3 ∧ t.f3 < 18446744073709551616) ∨
  (t.f0 = 5 ∧ t.f2 = 0 ∧ t.f3 = 0 ∧ ((∃ c, t.f1.data.toList = [c] ∧ signB c = true) ∨ t.f1.data.toList = [46, 46] ∨ t.f1.data.toList = [58, 58]))
/-! ### what trees there are -/
inductive Wf : S44 → Prop
  | name (s : ByteArray) (p : Int) : NameOk s → Wf ⟨1, s, 0, 0, [], p⟩
  | hash (id p : Int) : 0 ≤ id → id < 18446744073709551616 → Wf ⟨2, ⟨#[]⟩, 0, id, [], p⟩
  | num (n p : Int) : 0 ≤ n → n < 1000000000 → Wf ⟨3, ⟨#[]⟩, n, 0, [], p⟩
  | text (s : ByteArray) (p : Int) : TextOk s → Wf ⟨4, s, 0, 0, [], p⟩
  | call (s : ByteArray) (ks : List S44) (p : Int) : NameOk s → (∀ k ∈ ks, Wf k) → Wf ⟨5, s, 0, 0, ks, p⟩
  | two (op : Int) (a b : S44) (p : Int) : op = 6 ∨ op = 7 ∨ op = 8 ∨ op = 9 ∨ op = 10 → Wf a → Wf b → Wf (nd op [a, b] p)
  | not (a : S44) (p : Int) : Wf a → Wf (nd 11 [a] p)
  | up (n : Int) (a : S44) (p : Int) : 0 ≤ n → n < 1000000000 → Wf a → Wf ⟨12, ⟨#[]⟩, n, 0, [a], p⟩
end
section
open Go.RowKit Go.Proofs.YtfgfoofojofnmaaDoorW.PrintWords Go.Proofs.YtfgfoofojofnmaaDoorW.PrintLast Go.Proofs.YtfgfoofojofnmaaDoorW.PrintMore
open Go.Proofs.YtfgfoofojofnmaaDoor.Hand
set_option linter.unusedVariables false
set_option linter.unusedSimpArgs false
/-! ### the quote -/
theorem idx_none (x : UInt8) : ∀ l : List UInt8, (∀ c ∈ l, c ≠ x) → Lib.indexByte l x = -1
  | [], _ => rfl
  | c :: l, h => by
    have hc : (c == x) = false := beq_eq_false_iff_ne.2 (h c (by simp))
    have ih := idx_none x l (fun d hd => h d (by simp [hd]))
    simp [Lib.indexByte, hc, ih]
theorem idx_at (x : UInt8) : ∀ (l : List UInt8) (q : Nat) (hq : q < l.length), (∀ c ∈ l.take q, c ≠ x) → l[q] = x → Lib.indexByte l x = q
  | c :: l, 0, _, _, h => by
    have : c = x := by simpa using h
    simp [Lib.indexByte, this]
  | c :: l, q + 1, hq, ha, h => by
    have hc : (c == x) = false := beq_eq_false_iff_ne.2 (ha c (by simp))
    have ih := idx_at x l q (by simpa using hq) (fun d hd => ha d (by simp [hd])) (by simpa using h)
    have h1 : ((q : Int) == -1) = false := beq_eq_false_iff_ne.2 (by omega)
    simp [Lib.indexByte, hc, ih, h1]
theorem idx_mem (x : UInt8) : ∀ (l : List UInt8), x ∈ l → 0 ≤ Lib.indexByte l x
  | c :: l, h => by
    by_cases hc : c = x
    · simp [Lib.indexByte, hc]
    · have hb : (c == x) = false := beq_eq_false_iff_ne.2 hc
      have hm : x ∈ l := by
        rcases List.mem_cons.mp h with e | e
        · exact absurd e.symm hc
        · exact e
      have ih := idx_mem x l hm
      have h1 : (Lib.indexByte l x == -1) = false := beq_eq_false_iff_ne.2 (by omega)
      simp only [Lib.indexByte, hb, h1, Bool.false_eq_true, if_false]
      omega
/-! ### sixteen digits -/
theorem wu64 (x : Int) : IntKind.u64.wrap x = x % 18446744073709551616 := by simp [IntKind.wrap, IntKind.bits, IntKind.signed]
theorem or_add (a b : Int) (ha : 0 ≤ a) (ha2 : a < 18446744073709551616) (hm : a % 16 = 0) (h0 : 0 ≤ b) (h1 : b < 16) : Go.bits .or .u64 a b = a + b := by
  have h64 : (2 : Int) ^ 64 = 18446744073709551616 := by decide
  have h4 : (2 : Int) ^ 4 = 16 := by decide
  exact bits_join .u64 64 (by decide) (fun n h h2 => by rw [h64] at h2; rw [wu64]; omega) 4 a b ha (by rw [h4]; exact hm) (by rw [h64]; exact ha2) h0 (by rw [h4]; exact h1) (by rw [h64]; omega)
/-- The number that a byte stands for among sixteen digits. -/
def hexD (c : Nat) : Option Nat := if 48 ≤ c ∧ c ≤ 57 then some (c - 48) else if 97 ≤ c ∧ c ≤ 102 then some (c - 87) else none
def hexF : List UInt8 → Nat → Option Nat
  | [], v => some v
  | c :: l, v => (hexD c.toNat).bind fun d => hexF l ((v * 16 + d) % 18446744073709551616)
def hexR (l : List UInt8) : Int × Int := match hexF l 0 with
  | some v => ((v : Int), 0)
  | none => (0, 9)
theorem bt_at' (l : List UInt8) (i : Nat) (h : i < l.length) : bt (bs l) (i : Int) = (l[i].toNat : Int) := by
  have e := bt_drop (bs l) i l[i] (l.drop (i + 1)) (by rw [bs_list]; exact List.drop_eq_getElem_cons h)
  exact e
theorem sum_parse_loop (l : List UInt8) (hl : l.length = 16) (d : Nat) : ∀ (k i v : Nat), i ≤ 16 → 16 - i = d → 2 * d + 1 ≤ k → v < 18446744073709551616 →
    sum_Parse.l0 k (bs l) (v : Int) 16 (i : Int) = some (match hexF (l.drop i) v with | some v => ((v : Int), 0) | none => (0, 9)) := by
  induction d with
  | zero =>
    intro k i v hi hd hk hv
    obtain ⟨k, rfl⟩ : ∃ m, k = m + 1 := ⟨k - 1, by omega⟩
    simp only [sum_Parse.l0]
    rw [if_neg (by omega), List.drop_eq_nil_of_le (by omega)]
    rfl
  | succ d ih =>
    intro k i v hi hd hk hv
    obtain ⟨k, rfl⟩ : ∃ m, k = m + 2 := ⟨k - 2, by omega⟩
    have hlt : i < l.length := by omega
    have hb : l[i].toNat < 256 := l[i].toNat_lt
    have e1 : Hid (wrap64 ((i : Int) + 1) = ((i + 1 : Nat) : Int)) := Lib.hid (by rw [w64 (by omega) (by omega)]; omega)
    have step : ∀ x : Nat, x < 16 → Go.bits .or .u64 (IntKind.u64.wrap ((v : Int) * 16)) (x : Int) = (((v * 16 + x) % 18446744073709551616 : Nat) : Int) := by
      intro x hx
      rw [wu64, or_add _ _ (by omega) (by omega) (by omega) (by omega) (by omega)]
      omega
    have hdr : l.drop i = l[i] :: l.drop (i + 1) := List.drop_eq_getElem_cons hlt
    simp only [sum_Parse.l0]
    rw [if_pos (by omega), if_pos (by omega), if_pos (by rw [bs_size]; omega), bt_at' l i hlt, hdr]
    simp only [hexF]
    generalize l[i].toNat = c at *
    by_cases h48 : (48 : Int) ≤ (c : Int)
    · rw [if_pos h48]
      simp only [sum_Parse.j1]
      by_cases h57 : (c : Int) ≤ 57
      · rw [if_pos (decide_eq_true h57), e1.out]
        have ed : hexD c = some (c - 48) := by unfold hexD; rw [if_pos ⟨by omega, by omega⟩]
        have ex : ((c : Int) - 48) % 256 = ((c - 48 : Nat) : Int) := by omega
        rw [ed, Option.bind_some, ex, step _ (by omega)]
        exact ih k (i + 1) _ (by omega) (by omega) (by omega) (by omega)
      · rw [if_neg (by simpa using h57)]
        by_cases h97 : (c : Int) ≥ 97
        · rw [if_pos h97]
          by_cases h102 : (c : Int) ≤ 102
          · rw [if_pos h102, e1.out]
            have ed : hexD c = some (c - 87) := by unfold hexD; rw [if_neg (by omega), if_pos ⟨by omega, by omega⟩]
            have ex : ((((c : Int) - 97) % 256) + 10) % 256 = ((c - 87 : Nat) : Int) := by omega
            rw [ed, Option.bind_some, ex, step _ (by omega)]
            exact ih k (i + 1) _ (by omega) (by omega) (by omega) (by omega)
          · rw [if_neg h102]
            have ed : hexD c = none := by unfold hexD; rw [if_neg (by omega), if_neg (by omega)]
            rw [ed, Option.bind_none]
        · rw [if_neg h97]
          have ed : hexD c = none := by unfold hexD; rw [if_neg (by omega), if_neg (by omega)]
          rw [ed, Option.bind_none]
    · rw [if_neg h48]
      simp only [sum_Parse.j1]
      rw [if_neg (by decide), if_neg (by omega)]
      have ed : hexD c = none := by unfold hexD; rw [if_neg (by omega), if_neg (by omega)]
      rw [ed, Option.bind_none]
theorem sum_parse_eq (l : List UInt8) (hl : l.length = 16) : sum_Parse.f 60 (bs l) = some (hexR l) := by
  unfold sum_Parse.f
  rw [if_pos (by rw [bs_size]; omega), bs_size, hl]
  exact sum_parse_loop l hl 16 60 0 0 (by omega) (by omega) (by omega) (by omega)

theorem oneT_of {c : UInt8} {r : List UInt8} {t : Tk} (h : oneL c r = some t) : oneT c r = t := by rw [oneT, h]; rfl
theorem one_name (c : UInt8) (r : List UInt8) (h : smallB c = true) (hn : headN nameB (c :: r) ≤ 16) : oneT c r = (1, bs ((c :: r).take (headN nameB (c :: r))), 0, 0, 0, (headN nameB (c :: r) : Int)) := by
  apply oneT_of; unfold oneL; rw [if_pos h, if_pos hn]
/-- The number that digits spell. -/
def dg (l : List UInt8) : Nat := l.foldl (fun a c => a * 10 + (c.toNat - 48)) 0
theorem dg_snoc (l : List UInt8) (c : UInt8) : dg (l ++ [c]) = dg l * 10 + (c.toNat - 48) := by simp [dg]
theorem dg_lt : ∀ (n : Nat) (l : List UInt8), l.length ≤ n → (∀ c ∈ l, digitB c = true) → dg l < 10 ^ n
  | n, [], _, _ => by simp [dg]; exact Nat.pow_pos (by decide)
  | 0, c :: l, h, _ => by simp at h
  | n + 1, c :: l, h, hd => by
    rcases List.eq_nil_or_concat (c :: l) with e | ⟨m, x, e⟩
    · simp at e
    · rw [List.concat_eq_append] at e
      rw [e, dg_snoc]
      rw [e] at h hd
      have := dg_lt n m (by simp at h; omega) (fun y hy => hd y (by simp [hy]))
      have hx := hd x (by simp)
      simp only [digitB, Bool.and_eq_true, decide_eq_true_eq] at hx
      rw [Nat.pow_succ]
      omega
theorem one_num (c : UInt8) (r : List UInt8) (h : smallB c = false) (h2 : digitB c = true) (hn : headN digitB (c :: r) = 1 ∨ (headN digitB (c :: r) ≤ 9 ∧ c ≠ 48)) : oneT c r = (2, ⟨#[]⟩, (dg ((c :: r).take (headN digitB (c :: r))) : Int), 0, 0, (headN digitB (c :: r) : Int)) := by
  apply oneT_of; unfold oneL; rw [if_neg (by rw [h]; decide), if_pos h2, if_pos hn, atoi_digits c r h2]; rfl
theorem one_hash_yes (r : List UInt8) (v : Int) (hl : 16 < r.length + 1) (h : hexR (r.take 16) = (v, 0)) : oneT 35 r = (4, ⟨#[]⟩, 0, v, 0, 17) := by
  apply oneT_of; unfold oneL
  rw [if_neg (by decide), if_neg (by decide), if_neg (by decide), if_pos ⟨rfl, hl⟩, sum_parse_eq _ (by simp; omega), h]; rfl
end
section
open Go.RowKit Go.Proofs.YtfgfoofojofnmaaDoorW.PrintWords Go.Proofs.YtfgfoofojofnmaaDoorW.PrintLast Go.Proofs.YtfgfoofojofnmaaDoorW.PrintMore
set_option linter.unusedVariables false
set_option linter.unusedSimpArgs false
open Go.Proofs.YtfgfoofojofnmaaDoor.Hand
/-! ### digits -/
theorem dig_ofNat (d : Nat) (h : d < 10) : (UInt8.ofNat (48 + d)).toNat = 48 + d := by simp; omega
theorem dig_isDigit (d : Nat) (h : d < 10) : digitB (UInt8.ofNat (48 + d)) = true := by
  unfold digitB; rw [dig_ofNat d h]; simp; omega
theorem dec_all (u : Nat) : (∀ c ∈ Lib.decDigits u, digitB c = true) ∧ dg (Lib.decDigits u) = u ∧ (∃ c r, Lib.decDigits u = c :: r ∧ (1 ≤ u → c ≠ 48)) := by
  induction u using Nat.strongRecOn with
  | _ u ih =>
    by_cases h : u < 10
    · rw [Lib.decDigits_one h]
      refine ⟨fun c hc => ?_, ?_, _, [], rfl, fun h1 e => ?_⟩
      · rw [List.mem_singleton] at hc; rw [hc]; exact dig_isDigit u h
      · show 0 * 10 + ((UInt8.ofNat (48 + u)).toNat - 48) = u
        rw [dig_ofNat u h]; omega
      · have := congrArg UInt8.toNat e
        rw [dig_ofNat u h] at this
        have : 48 + u = 48 := this
        omega
    · obtain ⟨h1, h2, c, r, h3, h4⟩ := ih (u / 10) (by omega)
      rw [Lib.decDigits, dif_neg h]
      refine ⟨fun x hx => ?_, ?_, c, r ++ [UInt8.ofNat (48 + u % 10)], by rw [h3]; rfl, fun _ => h4 (by omega)⟩
      · rcases List.mem_append.1 hx with hx | hx
        · exact h1 x hx
        · rw [List.mem_singleton] at hx; rw [hx]; exact dig_isDigit _ (by omega)
      · rw [dg_snoc, h2, dig_ofNat _ (by omega)]; omega
theorem nDigits_le : ∀ (k u : Nat), 1 ≤ k → u < 10 ^ k → Lib.nDigits u ≤ k
  | 0, _, h, _ => absurd h (by omega)
  | 1, u, _, h => by rw [Lib.nDigits_small (by simpa using h)]; exact Nat.le_refl _
  | k + 2, u, _, h => by
    by_cases hu : u < 10
    · rw [Lib.nDigits_small hu]; omega
    · rw [Lib.nDigits_big hu]
      have := nDigits_le (k + 1) (u / 10) (by omega) (by rw [Nat.pow_succ] at h; omega)
      omega
theorem headN_full (p : UInt8 → Bool) : ∀ l : List UInt8, (∀ c ∈ l, p c = true) → headN p l = l.length
  | [], _ => rfl
  | c :: l, h => by
    have h1 : headN p (c :: l) = headN p l + 1 := by simp [headN, h c (by simp)]
    rw [h1, headN_full p l (fun x hx => h x (by simp [hx]))]; rfl
/-! ### sixteen digits -/
theorem hexF_app (l : List UInt8) (c : UInt8) : ∀ v, hexF (l ++ [c]) v = (hexF l v).bind fun u => (hexD c.toNat).bind fun d => some ((u * 16 + d) % 18446744073709551616) := by
  induction l with
  | nil =>
    intro v
    simp only [List.nil_append, hexF, Option.bind_some]
  | cons b l ih =>
    intro v
    simp only [List.cons_append, hexF]
    cases hexD b.toNat with
    | none => rfl
    | some d => simp only [Option.bind_some]; exact ih _
theorem hexD_dig (d : Nat) (h : d < 16) : hexD (hexDig d).toNat = some d := by
  unfold hexDig
  by_cases h1 : d < 10
  · rw [if_pos h1]
    have : (UInt8.ofNat (48 + d)).toNat = 48 + d := by simp; omega
    rw [this]; unfold hexD; rw [if_pos ⟨by omega, by omega⟩]; congr 1; omega
  · rw [if_neg h1]
    have : (UInt8.ofNat (87 + d)).toNat = 87 + d := by simp; omega
    rw [this]; unfold hexD; rw [if_neg (by omega), if_pos ⟨by omega, by omega⟩]; congr 1; omega
def digs (k v : Nat) : List UInt8 := (List.range k).map fun i => hexDig (v / 16 ^ (k - 1 - i) % 16)
theorem digs_succ (k v : Nat) : digs (k + 1) v = digs k (v / 16) ++ [hexDig (v % 16)] := by
  unfold digs
  rw [List.range_succ, List.map_append]
  congr 1
  · refine List.map_congr_left fun i hi => ?_
    have hi := List.mem_range.1 hi
    rw [show k + 1 - 1 - i = k - 1 - i + 1 by omega, Nat.pow_succ, Nat.mul_comm, ← Nat.div_div_eq_div_mul]
  · simp
theorem hex_back : ∀ (k v : Nat), k ≤ 16 → hexF (digs k v) 0 = some (v % 16 ^ k)
  | 0, v, _ => by simp [digs, hexF, Nat.mod_one]
  | k + 1, v, h => by
    rw [digs_succ, hexF_app, hex_back k (v / 16) (by omega), Option.bind_some, hexD_dig _ (by omega), Option.bind_some]
    congr 1
    have h1 : 16 ^ (k + 1) ≤ 16 ^ 16 := Nat.pow_le_pow_right (by decide) h
    have h2 : (16 : Nat) ^ 16 = 18446744073709551616 := by decide
    have h3 : v % 16 ^ (k + 1) = 16 * (v / 16 % 16 ^ k) + v % 16 := by
      rw [Nat.pow_succ, Nat.mul_comm (16 ^ k) 16, Nat.mod_mul]; omega
    have h4 : v % 16 ^ (k + 1) < 16 ^ (k + 1) := Nat.mod_lt _ (Nat.pow_pos (by decide))
    rw [h3] at h4 ⊢
    rw [Nat.mod_eq_of_lt (by omega)]
    omega
theorem hash_list (id : Int) : (hashT id).data.toList = 35 :: digs 16 id.toNat := by
  unfold hashT digs; simp
theorem digs_len (k v : Nat) : (digs k v).length = k := by simp [digs]
theorem hexF_lt (l : List UInt8) : ∀ (v u : Nat), v < 18446744073709551616 → hexF l v = some u → u < 18446744073709551616 := by
  induction l with
  | nil => intro v u hv h; simp only [hexF, Option.some.injEq] at h; omega
  | cons c l ih =>
    intro v u hv h
    simp only [hexF] at h
    cases hd : hexD c.toNat with
    | none => rw [hd] at h; simp at h
    | some d => rw [hd, Option.bind_some] at h; exact ih _ _ (by omega) h
/-! ### one token's own text -/
/-- A token as text. -/
def wtok (t : S39) : ByteArray := if t.f0 = 2 then itoaT t.f2 else if t.f0 = 3 then ((⟨#[39]⟩ : ByteArray) ++ t.f1) ++ (⟨#[39]⟩ : ByteArray) else if t.f0 = 4 then hashT t.f3 else t.f1
theorem one_tok {c : UInt8} {r : List UInt8} {k : Int} {b : ByteArray} {v a : Int} (h : oneT c r = (k, b, v, a, 0, (r.length : Int) + 1)) (hb : ¬ (c = 32 ∨ c = 9)) : scanT (c :: r) 0 [] = ([⟨k, b, v, a, 0⟩], 0, 0) := by
  have hn : nOf (oneT c r) = r.length + 1 := by rw [h]; unfold nOf; show ((r.length : Int) + 1).toNat = _; omega
  rw [scanT_tok hb (by omega), hn, h, List.drop_of_length_le (by simp), scanT_nil]
  rfl
/-- The text is cut into these tokens, but for their places. -/
def Sc (l : List UInt8) (T : List S39) : Prop := ∃ A, scanT l 0 [] = (A, 0, 0) ∧ A.map eT = T
theorem sc_one {c : UInt8} {r : List UInt8} {k : Int} {b : ByteArray} {v a : Int} (h : oneT c r = (k, b, v, a, 0, (r.length : Int) + 1)) (hb : ¬ (c = 32 ∨ c = 9)) : Sc (c :: r) [⟨k, b, v, a, 0⟩] := ⟨_, one_tok h hb, rfl⟩
theorem ba_of {s : ByteArray} {l : List UInt8} (h : s.data.toList = l) : s = bs l := by rw [← h, bs_of]
theorem small_not {c : UInt8} (h : smallB c = true) : ¬ (c = 32 ∨ c = 9) := by
  rintro (rfl | rfl) <;> exact absurd h (by decide)
theorem digit_not {c : UInt8} (h : digitB c = true) : ¬ (c = 32 ∨ c = 9) ∧ smallB c = false := by
  refine ⟨by rintro (rfl | rfl) <;> exact absurd h (by decide), ?_⟩
  simp only [digitB, smallB, Bool.and_eq_true, decide_eq_true_eq, Bool.and_eq_false_iff, decide_eq_false_iff_not] at h ⊢
  omega
theorem sc_name {s : ByteArray} (h : NameOk s) : Sc s.data.toList [⟨1, s, 0, 0, 0⟩] := by
  obtain ⟨c, r, h1, h2, h3, h4⟩ := h
  have hf : headN nameB (c :: r) = r.length + 1 := headN_full nameB (c :: r) (fun x hx => by
    rcases List.mem_cons.1 hx with rfl | hx
    · simp [nameB, h2]
    · exact h3 x hx)
  rw [h1, ba_of h1]
  refine sc_one ?_ (small_not h2)
  rw [one_name c r h2 (by omega), hf, List.take_of_length_le (by simp)]
  simp
theorem sc_num {n : Int} (h0 : 0 ≤ n) (h9 : n < 1000000000) : Sc (itoaT n).data.toList [⟨2, ⟨#[]⟩, n, 0, 0⟩] := by
  obtain ⟨h1, h2, c, r, h3, h4⟩ := dec_all n.toNat
  have hl : (Lib.decDigits n.toNat).length ≤ 9 := by rw [Lib.decDigits_length]; exact nDigits_le 9 _ (by decide) (by rw [show (10 : Nat) ^ 9 = 1000000000 from by decide]; omega)
  have e : (itoaT n).data.toList = Lib.decDigits n.toNat := by simp [itoaT]
  have hf : headN digitB (c :: r) = r.length + 1 := headN_full digitB (c :: r) (by rw [← h3]; exact h1)
  have hc : digitB c = true := h1 c (by rw [h3]; simp)
  have hone : r.length + 1 = 1 ∨ (r.length + 1 ≤ 9 ∧ c ≠ 48) := by
    by_cases hn : 1 ≤ n.toNat
    · right; rw [h3] at hl; exact ⟨by simpa using hl, h4 hn⟩
    · left
      have : n.toNat = 0 := by omega
      rw [this, Lib.decDigits_one (by decide)] at h3
      injection h3 with _ e2
      rw [← e2]; rfl
  rw [e, h3]
  refine sc_one ?_ (digit_not hc).1
  rw [one_num c r (digit_not hc).2 hc (by rw [hf]; exact hone), hf, List.take_of_length_le (by simp), ← h3, h2]
  have : ((n.toNat : Nat) : Int) = n := Int.toNat_of_nonneg h0
  rw [this]
  simp
theorem quote_tok (r : List UInt8) (h39 : (39 : UInt8) ∉ r) (h10 : (10 : UInt8) ∉ r) : oneT 39 (r ++ [39]) = (3, bs r, 0, 0, 0, ((r ++ [39]).length : Int) + 1) := by
  have hi : Lib.indexByte (r ++ [39]) 39 = (r.length : Int) := idx_at 39 (r ++ [39]) r.length (by simp) (fun c hc e => by
    rw [List.take_left] at hc; exact h39 (e ▸ hc)) (by simp)
  have hn : Lib.indexByte r 10 = -1 := idx_none 10 r (fun c hc e => h10 (e ▸ hc))
  apply oneT_of; unfold oneL
  rw [if_neg (by decide), if_neg (by decide), if_pos rfl, hi, if_pos (by omega), Int.toNat_natCast, List.take_left, hn, if_neg (by decide)]
  simp
  omega
theorem sc_text {s : ByteArray} (h : TextOk s) : Sc (((⟨#[39]⟩ : ByteArray) ++ s) ++ (⟨#[39]⟩ : ByteArray)).data.toList [⟨3, s, 0, 0, 0⟩] := by
  have e : (((⟨#[39]⟩ : ByteArray) ++ s) ++ (⟨#[39]⟩ : ByteArray)).data.toList = 39 :: (s.data.toList ++ [39]) := by simp
  have q := quote_tok s.data.toList h.1 h.2.1
  rw [bs_of] at q
  rw [e]
  exact sc_one q (by decide)
theorem sc_hash {id : Int} (h0 : 0 ≤ id) (h1 : id < 18446744073709551616) : Sc (hashT id).data.toList [⟨4, ⟨#[]⟩, 0, id, 0⟩] := by
  rw [hash_list]
  have hl := digs_len 16 id.toNat
  have h16 : (16 : Nat) ^ 16 = 18446744073709551616 := by decide
  have hr : hexR ((digs 16 id.toNat).take 16) = (id, 0) := by
    rw [List.take_of_length_le (by omega)]
    unfold hexR
    rw [hex_back 16 _ (Nat.le_refl _), h16, Nat.mod_eq_of_lt (by omega)]
    show (((id.toNat : Nat) : Int), (0 : Int)) = _
    rw [Int.toNat_of_nonneg h0]
  refine sc_one ?_ (by decide)
  rw [one_hash_yes _ id (by omega) hr, hl]
  rfl
theorem sign_list {c : UInt8} (h : signB c = true) : c = 40 ∨ c = 41 ∨ c = 44 ∨ c = 124 ∨ c = 38 ∨ c = 45 ∨ c = 33 ∨ c = 94 := by
  by_cases hm : c ∈ ([40, 41, 44, 124, 38, 45, 33, 94] : List UInt8)
  · simpa using hm
  · have := idx_none c [40, 41, 44, 124, 38, 45, 33, 94] (fun x hx e => hm (e ▸ hx))
    unfold signB at h
    rw [this] at h
    exact absurd h (by decide)
theorem one_sg {c : UInt8} (h : signB c = true) (r : List UInt8) : oneT c r = (5, bs [c], 0, 0, 0, 1) ∧ ¬ (c = 32 ∨ c = 9) := by
  rcases sign_list h with rfl | rfl | rfl | rfl | rfl | rfl | rfl | rfl
  all_goals exact ⟨oneT_sign _ _ (by decide) (by decide) (by decide) (by decide) (by decide) (by decide) (by decide), by decide⟩
theorem sc_sign {c : UInt8} (h : signB c = true) : Sc [c] [⟨5, bs [c], 0, 0, 0⟩] := sc_one (one_sg h []).1 (one_sg h []).2
theorem sc_dots2 {c : UInt8} (h : c = 46 ∨ c = 58) : Sc [c, c] [⟨5, bs [c, c], 0, 0, 0⟩] := by
  refine sc_one (oneT_dots c [] h) ?_
  rcases h with rfl | rfl <;> decide
/-- A token's own text is cut into it. -/
theorem sc_tok {t : S39} (h : TokOk t) : Sc (wtok t).data.toList [eT t] := by
  obtain ⟨a, b, c, d, e⟩ := t
  rcases h with ⟨h0, h1, h2, h3⟩ | ⟨h0, h1, h2, h3, h4⟩ | ⟨h0, h1, h2, h3⟩ | ⟨h0, h1, h2, h3, h4⟩ | ⟨h0, h1, h2, h3⟩
  · simp only at h0 h1 h2 h3; subst h0; subst h2; subst h3; exact sc_name h1
  · simp only at h0 h1 h2 h3 h4; subst h0; subst h1; subst h4; exact sc_num h2 h3
  · simp only at h0 h1 h2 h3; subst h0; subst h2; subst h3; exact sc_text h1
  · simp only at h0 h1 h2 h3 h4; subst h0; subst h1; subst h2; exact sc_hash h3 h4
  · simp only at h0 h1 h2 h3; subst h0; subst h1; subst h2
    show Sc b.data.toList [⟨5, b, 0, 0, 0⟩]
    rcases h3 with ⟨c, h3, h4⟩ | h3 | h3
    · rw [h3, ba_of h3]; exact sc_sign h4
    · rw [h3, ba_of h3]; exact sc_dots2 (.inl rfl)
    · rw [h3, ba_of h3]; exact sc_dots2 (.inr rfl)
/-! ### how scans go together -/
theorem eT_map (g : Int → Int) (A : List S39) : (A.map (tkG g)).map eT = A.map eT := by
  rw [List.map_map]; rfl
theorem sc_at {l : List UInt8} {T : List S39} (h : Sc l T) (i : Nat) (out : List S39) : ∃ A, scanT l i out = (out ++ A, 0, 0) ∧ A.map eT = T := by
  obtain ⟨A, h1, h2⟩ := h
  have h3 := scanT_mv i out l.length l 0 [] (Nat.le_refl _) (by rw [h1])
  simp only [Nat.zero_add, List.map_nil, List.append_nil] at h3
  rw [h1, shT_tk] at h3
  exact ⟨_, h3, by rw [eT_map, h2]⟩
theorem sc_app {la m : List UInt8} {A B : List S39} {d : UInt8} (h : Sc la A) (hd : nameB d = false) (h2 : Sc (d :: m) B) : Sc (la ++ d :: m) (A ++ B) := by
  obtain ⟨A1, h1, e1⟩ := h
  have h3 := scan_part h1 hd m 0 []
  obtain ⟨B1, h4, e4⟩ := sc_at h2 (0 + la.length) ([] ++ A1.map (tkG (fun x => x + ((0 : Nat) : Int))))
  rw [h4] at h3
  exact ⟨_, h3, by rw [List.nil_append, List.map_append, eT_map, e1, e4]⟩
theorem sc_blank {l : List UInt8} {B : List S39} (h : Sc l B) : Sc (32 :: l) B := by
  obtain ⟨B1, h4, e4⟩ := sc_at h (0 + 1) []
  exact ⟨_, (scanT_blank (.inl rfl) l 0 []).trans h4, by rw [List.nil_append, e4]⟩
theorem sc_nil : Sc [] [] := ⟨[], scanT_nil 0 [], rfl⟩
/-! ### what tokens a scan finds -/
theorem tok_ok (c : UInt8) (r : List UInt8) (i : Nat) (hr : r.length ≤ 1024) (hn : nOf (oneT c r) ≠ 0) : TokOk (tokOf (oneT c r) i) := by
  have hz : ∀ {P : Prop}, oneT c r = zeroT → P := fun e => absurd (by rw [e]; rfl) hn
  have he := oneT_eq c r
  unfold oneL at he
  by_cases h1 : smallB c = true
  · rw [if_pos h1] at he
    by_cases h2 : headN nameB (c :: r) ≤ 16
    · rw [if_pos h2] at he
      rw [← Option.some.inj he]
      left
      refine ⟨rfl, ?_, rfl, rfl⟩
      have hp := head_pos nameB c r (by simp [nameB, h1])
      have ha := head_all nameB (c :: r)
      obtain ⟨k, hk⟩ : ∃ k, headN nameB (c :: r) = k + 1 := ⟨headN nameB (c :: r) - 1, by omega⟩
      refine ⟨c, r.take k, ?_, h1, fun x hx => ha x ?_, by rw [List.length_take]; omega⟩
      · show (bs _).data.toList = _
        rw [bs_list, hk, List.take_succ_cons]
      · rw [hk, List.take_succ_cons]; exact List.mem_cons_of_mem _ hx
    · rw [if_neg h2] at he; exact hz (Option.some.inj he).symm
  · rw [if_neg h1] at he
    by_cases h2 : digitB c = true
    · rw [if_pos h2] at he
      by_cases h3 : headN digitB (c :: r) = 1 ∨ (headN digitB (c :: r) ≤ 9 ∧ c ≠ 48)
      · rw [one_num c r (by simpa using h1) h2 h3]
        right; left
        have hd := dg_lt 9 ((c :: r).take (headN digitB (c :: r))) (by rw [List.length_take]; omega) (head_all digitB (c :: r))
        have h9 : (10 : Nat) ^ 9 = 1000000000 := by decide
        rw [h9] at hd
        exact ⟨rfl, rfl, Int.natCast_nonneg _, by show ((dg ((c :: r).take (headN digitB (c :: r))) : Nat) : Int) < _; omega, rfl⟩
      · rw [if_neg h3] at he; exact hz (Option.some.inj he).symm
    · rw [if_neg h2] at he
      by_cases h3 : c = 39
      · rw [if_pos h3] at he
        by_cases h4 : 0 ≤ Lib.indexByte r 39
        · rw [if_pos h4] at he
          by_cases h5 : 0 ≤ Lib.indexByte (r.take (Lib.indexByte r 39).toNat) 10
          · rw [if_pos h5] at he; exact hz (Option.some.inj he).symm
          · rw [if_neg h5] at he
            rw [← Option.some.inj he]
            right; right; left
            refine ⟨rfl, ⟨fun hm => ?_, fun hm => ?_, ?_⟩, rfl, rfl⟩
            · have hm : (39 : UInt8) ∈ r.take (Lib.indexByte r 39).toNat := by simpa [tokOf, bs_list] using hm
              obtain ⟨k, hk, e⟩ := List.mem_take_iff_getElem.1 hm
              have hs := (Lib.indexByte_some (l := r) (c := 39) (o := (Lib.indexByte r 39).toNat) (by omega)).2 k (by omega)
              exact hs (by rw [List.getElem?_eq_getElem (by omega), e])
            · have hm : (10 : UInt8) ∈ r.take (Lib.indexByte r 39).toNat := by simpa [tokOf, bs_list] using hm
              exact h5 (idx_mem 10 _ hm)
            · show (bs _).size ≤ 1024
              rw [bs_size, List.length_take]; omega
        · rw [if_neg h4] at he; exact hz (Option.some.inj he).symm
      · rw [if_neg h3] at he
        by_cases h4 : c = 35 ∧ 16 < r.length + 1
        · rw [if_pos h4, sum_parse_eq _ (by rw [List.length_take]; omega), Option.bind_some] at he
          unfold hexR at he
          cases hx : hexF (r.take 16) 0 with
          | none => rw [hx] at he; exact hz (Option.some.inj he).symm
          | some v =>
            rw [hx] at he
            have hlt := hexF_lt _ 0 v (by decide) hx
            rw [← Option.some.inj he]
            right; right; right; left
            exact ⟨rfl, rfl, rfl, Int.natCast_nonneg _, by show ((v : Nat) : Int) < _; omega⟩
        · rw [if_neg h4] at he
          by_cases h5 : (c :: r).take 2 = [46, 46] ∨ (c :: r).take 2 = [58, 58]
          · rw [if_pos h5] at he
            rw [← Option.some.inj he]
            right; right; right; right
            refine ⟨rfl, rfl, rfl, .inr ?_⟩
            rcases h5 with h5 | h5
            · left; show (bs _).data.toList = _; rw [bs_list, h5]
            · right; show (bs _).data.toList = _; rw [bs_list, h5]
          · rw [if_neg h5] at he
            by_cases h6 : signB c = true
            · rw [if_pos h6] at he
              rw [← Option.some.inj he]
              right; right; right; right
              exact ⟨rfl, rfl, rfl, .inl ⟨c, bs_list [c], h6⟩⟩
            · rw [if_neg h6] at he; exact hz (Option.some.inj he).symm
theorem scan_ok (n : Nat) : ∀ (l : List UInt8) (i : Nat) (out : List S39), l.length ≤ n → l.length ≤ 1024 → (∀ t ∈ out, TokOk t) → ∀ t ∈ (scanT l i out).1, TokOk t := by
  induction n with
  | zero =>
    intro l i out hl _ ho
    have : l = [] := List.length_eq_zero_iff.mp (by omega)
    subst this
    rw [scanT_nil]; exact ho
  | succ n ih =>
    intro l i out hl hm ho
    cases l with
    | nil => rw [scanT_nil]; exact ho
    | cons c r =>
      simp only [List.length_cons] at hl hm
      by_cases hb : c = 32 ∨ c = 9
      · rw [scanT_blank hb]; exact ih r _ _ (by omega) (by omega) ho
      · by_cases h0 : nOf (oneT c r) = 0
        · rw [scanT_bad hb h0]; intro t ht; exact absurd ht (by simp)
        · rw [scanT_tok hb h0]
          refine ih _ _ _ (by simp only [List.length_drop, List.length_cons]; omega) (by simp only [List.length_drop, List.length_cons]; omega) (fun t ht => ?_)
          rcases List.mem_append.1 ht with ht | ht
          · exact ho t ht
          · rw [List.mem_singleton] at ht; rw [ht]; exact tok_ok c r i (by omega) h0
theorem scanS_ok (a : ByteArray) : ∀ t ∈ (scanS a).1, TokOk t := by
  unfold scanS
  by_cases h : a.size ≤ 1024
  · rw [if_pos h]
    have e : a.data.toList.length = a.size := by simp
    exact scan_ok a.data.toList.length _ 0 [] (Nat.le_refl _) (by omega) (fun t ht => absurd ht (by simp))
  · rw [if_neg h]; intro t ht; exact absurd ht (by simp)
theorem join_two (x y : List UInt8) (r : List (List UInt8)) (sep : List UInt8) : Lib.join (x :: y :: r) sep = x ++ (sep ++ Lib.join (y :: r) sep) := by
  simp [Lib.join_cons, Lib.joinTail]
end
section
open Go.RowKit Go.Proofs.YtfgfoofojofnmaaDoorW.PrintWords Go.Proofs.YtfgfoofojofnmaaDoorW.PrintLast Go.Proofs.YtfgfoofojofnmaaDoorW.PrintMore
set_option linter.unusedVariables false
set_option linter.unusedSimpArgs false
open Go.Proofs.YtfgfoofojofnmaaDoor.Hand
namespace Hx
def hexDig (d : Nat) : UInt8 := if d < 10 then UInt8.ofNat (48 + d) else UInt8.ofNat (87 + d)
theorem wu64 (x : Int) : IntKind.u64.wrap x = x % 18446744073709551616 := by simp [IntKind.wrap, IntKind.bits, IntKind.signed]
theorem or_add (a b : Int) (ha : 0 ≤ a) (ha2 : a < 18446744073709551616) (hm : a % 16 = 0) (h0 : 0 ≤ b) (h1 : b < 16) : Go.bits .or .u64 a b = a + b := by
  have h64 : (2 : Int) ^ 64 = 18446744073709551616 := by decide
  have h4 : (2 : Int) ^ 4 = 16 := by decide
  exact bits_join .u64 64 (by decide) (fun n h h2 => by rw [h64] at h2; rw [wu64]; omega) 4 a b ha (by rw [h4]; exact hm) (by rw [h64]; exact ha2) h0 (by rw [h4]; exact h1) (by rw [h64]; omega)
/-- A number, turned by i digits. -/
def rot (v i : Nat) : Nat := (v % 16 ^ (16 - i)) * 16 ^ i + v / 16 ^ (16 - i)
theorem rot_zero (v : Nat) (h : v < 18446744073709551616) : rot v 0 = v := by
  unfold rot
  have e : (16 : Nat) ^ (16 - 0) = 18446744073709551616 := by decide
  rw [e]
  omega
theorem rot_gen (v M K : Nat) (hMK : M * K = 1152921504606846976) (hv : v < 18446744073709551616) :
    v % (M * 16) * K + v / (M * 16) < 18446744073709551616 ∧ v % M * (16 * K) + v / M = (v % (M * 16) * K + v / (M * 16)) * 16 % 18446744073709551616 + (v % (M * 16) * K + v / (M * 16)) / 1152921504606846976 ∧ (v % M * (16 * K) + v / M) % 16 = v / M % 16 := by
  have hM : 0 < M := by
    rcases Nat.eq_zero_or_pos M with h | h
    · subst h; simp at hMK
    · exact h
  have hr : v % M < M := Nat.mod_lt _ hM
  have hq1 : v / M / 16 < K := by
    rw [Nat.div_div_eq_div_mul]
    apply Nat.div_lt_of_lt_mul
    have : M * 16 * K = 16 * (M * K) := by rw [Nat.mul_comm M 16, Nat.mul_assoc]
    omega
  rw [Nat.mod_mul, ← Nat.div_div_eq_div_mul]
  generalize v / M = q at *
  generalize v % M = r at *
  have hs : r * K + K ≤ 1152921504606846976 := by
    have := Nat.mul_le_mul_right K (show r + 1 ≤ M by omega)
    rw [Nat.add_mul, Nat.one_mul] at this
    omega
  have e1 : (r + M * (q % 16)) * K = r * K + 1152921504606846976 * (q % 16) := by rw [Nat.add_mul, Nat.mul_right_comm, hMK]
  have e2 : r * (16 * K) = 16 * (r * K) := by rw [Nat.mul_left_comm]
  rw [e1, e2]
  clear e1 e2 hMK hr hM hv
  generalize r * K = s at *
  refine ⟨?_, ?_, ?_⟩ <;> omega
theorem rot_all (v i : Nat) (hi : i < 16) (h : v < 18446744073709551616) : rot v i < 18446744073709551616 ∧ rot v (i + 1) = rot v i * 16 % 18446744073709551616 + rot v i / 1152921504606846976 ∧ rot v (i + 1) % 16 = v / 16 ^ (15 - i) % 16 := by
  have h16 : (16 : Nat) ^ 15 = 1152921504606846976 := by decide
  have e := rot_gen v (16 ^ (15 - i)) (16 ^ i) (by rw [← Nat.pow_add, ← h16]; congr 1; omega) h
  have e1 : (16 : Nat) ^ (15 - i) * 16 = 16 ^ (16 - i) := by rw [← Nat.pow_succ]; congr 1; omega
  have e2 : (16 : Nat) * 16 ^ i = 16 ^ (i + 1) := by rw [Nat.pow_succ, Nat.mul_comm]
  have e3 : 16 - (i + 1) = 15 - i := by omega
  rw [e1, e2] at e
  unfold rot
  rw [e3]
  exact e
theorem rot_call (v i : Nat) (hi : i < 16) (h : v < 18446744073709551616) : bits_RotateLeft64.f (rot v i : Int) 4 = some ((rot v (i + 1) : Nat) : Int) := by
  obtain ⟨h1, h2, _⟩ := rot_all v i hi h
  generalize rot v i = a at *
  generalize rot v (i + 1) = b at *
  have e1 : Go.bits .and .u64 (IntKind.u64.wrap 4) 63 = 4 := by decide
  have e2 : IntKind.u64.wrap (64 - 4) = 60 := by decide
  unfold bits_RotateLeft64.f
  rw [e1, e2, if_pos (by decide), if_pos (by decide)]
  have e3 : shl .u64 (a : Int) 4 = ((a * 16 % 18446744073709551616 : Nat) : Int) := by
    have e : (2 : Int) ^ min 4 IntKind.u64.bits = 16 := by decide
    simp [shl, wu64, e]
  have e4 : shr .u64 (a : Int) 60 = ((a / 1152921504606846976 : Nat) : Int) := by
    have e : (2 : Int) ^ min 60 IntKind.u64.bits = 1152921504606846976 := by decide
    simp [shr, e]
  rw [e3, e4, or_add _ _ (by omega) (by omega) (by omega) (by omega) (by omega), h2]
  congr 1
/-- The block of digits while i are there. -/
def row (v i : Nat) : Array Value := ((List.range 16).map fun j => Value.int .u8 (if j < i then ((hexDig (v / 16 ^ (15 - j) % 16)).toNat : Int) else 0)).toArray
theorem row_zero (v : Nat) : row v 0 = #[.int .u8 0, .int .u8 0, .int .u8 0, .int .u8 0, .int .u8 0, .int .u8 0, .int .u8 0, .int .u8 0, .int .u8 0, .int .u8 0, .int .u8 0, .int .u8 0, .int .u8 0, .int .u8 0, .int .u8 0, .int .u8 0] := rfl
theorem row_step (v i : Nat) (hi : i < 16) : (row v i).setIfInBounds i (.int .u8 ((hexDig (v / 16 ^ (15 - i) % 16)).toNat : Int)) = row v (i + 1) := by
  apply Array.ext
  · simp [row]
  · intro j h1 h2
    have hj : j < 16 := by simpa [row] using h2
    simp only [row, List.setIfInBounds_toArray, List.getElem_toArray, List.getElem_set, List.getElem_map, List.getElem_range]
    by_cases e : i = j
    · subst e; rw [if_pos rfl, if_pos (by omega)]
    · rw [if_neg e]
      by_cases hl : j < i
      · rw [if_pos hl, if_pos (by omega)]
      · rw [if_neg hl, if_neg (by omega)]
def digs (v : Nat) : List UInt8 := (List.range 16).map fun i => hexDig (v / 16 ^ (15 - i) % 16)
theorem row_end (v j : Nat) (h : j < (digs v).length) : (row v 16)[j]? = some (.int .u8 (((digs v)[j]).toNat : Int)) := by
  have hj : j < 16 := by simpa [digs] using h
  simp [row, digs, hj]
theorem hex_idx0 (w : World) : (Instr.index 9 (.string ⟨#[48, 49, 50, 51, 52, 53, 54, 55, 56, 57, 97, 98, 99, 100, 101, 102]⟩) (.int .u64 0)).run Tryd.prog w = .ok (.int .u8 48) w := by kernel_rfl
theorem hex_idx1 (w : World) : (Instr.index 9 (.string ⟨#[48, 49, 50, 51, 52, 53, 54, 55, 56, 57, 97, 98, 99, 100, 101, 102]⟩) (.int .u64 1)).run Tryd.prog w = .ok (.int .u8 49) w := by kernel_rfl
theorem hex_idx2 (w : World) : (Instr.index 9 (.string ⟨#[48, 49, 50, 51, 52, 53, 54, 55, 56, 57, 97, 98, 99, 100, 101, 102]⟩) (.int .u64 2)).run Tryd.prog w = .ok (.int .u8 50) w := by kernel_rfl
theorem hex_idx3 (w : World) : (Instr.index 9 (.string ⟨#[48, 49, 50, 51, 52, 53, 54, 55, 56, 57, 97, 98, 99, 100, 101, 102]⟩) (.int .u64 3)).run Tryd.prog w = .ok (.int .u8 51) w := by kernel_rfl
theorem hex_idx4 (w : World) : (Instr.index 9 (.string ⟨#[48, 49, 50, 51, 52, 53, 54, 55, 56, 57, 97, 98, 99, 100, 101, 102]⟩) (.int .u64 4)).run Tryd.prog w = .ok (.int .u8 52) w := by kernel_rfl
theorem hex_idx5 (w : World) : (Instr.index 9 (.string ⟨#[48, 49, 50, 51, 52, 53, 54, 55, 56, 57, 97, 98, 99, 100, 101, 102]⟩) (.int .u64 5)).run Tryd.prog w = .ok (.int .u8 53) w := by kernel_rfl
theorem hex_idx6 (w : World) : (Instr.index 9 (.string ⟨#[48, 49, 50, 51, 52, 53, 54, 55, 56, 57, 97, 98, 99, 100, 101, 102]⟩) (.int .u64 6)).run Tryd.prog w = .ok (.int .u8 54) w := by kernel_rfl
theorem hex_idx7 (w : World) : (Instr.index 9 (.string ⟨#[48, 49, 50, 51, 52, 53, 54, 55, 56, 57, 97, 98, 99, 100, 101, 102]⟩) (.int .u64 7)).run Tryd.prog w = .ok (.int .u8 55) w := by kernel_rfl
theorem hex_idx8 (w : World) : (Instr.index 9 (.string ⟨#[48, 49, 50, 51, 52, 53, 54, 55, 56, 57, 97, 98, 99, 100, 101, 102]⟩) (.int .u64 8)).run Tryd.prog w = .ok (.int .u8 56) w := by kernel_rfl
theorem hex_idx9 (w : World) : (Instr.index 9 (.string ⟨#[48, 49, 50, 51, 52, 53, 54, 55, 56, 57, 97, 98, 99, 100, 101, 102]⟩) (.int .u64 9)).run Tryd.prog w = .ok (.int .u8 57) w := by kernel_rfl
theorem hex_idx10 (w : World) : (Instr.index 9 (.string ⟨#[48, 49, 50, 51, 52, 53, 54, 55, 56, 57, 97, 98, 99, 100, 101, 102]⟩) (.int .u64 10)).run Tryd.prog w = .ok (.int .u8 97) w := by kernel_rfl
theorem hex_idx11 (w : World) : (Instr.index 9 (.string ⟨#[48, 49, 50, 51, 52, 53, 54, 55, 56, 57, 97, 98, 99, 100, 101, 102]⟩) (.int .u64 11)).run Tryd.prog w = .ok (.int .u8 98) w := by kernel_rfl
theorem hex_idx12 (w : World) : (Instr.index 9 (.string ⟨#[48, 49, 50, 51, 52, 53, 54, 55, 56, 57, 97, 98, 99, 100, 101, 102]⟩) (.int .u64 12)).run Tryd.prog w = .ok (.int .u8 99) w := by kernel_rfl
theorem hex_idx13 (w : World) : (Instr.index 9 (.string ⟨#[48, 49, 50, 51, 52, 53, 54, 55, 56, 57, 97, 98, 99, 100, 101, 102]⟩) (.int .u64 13)).run Tryd.prog w = .ok (.int .u8 100) w := by kernel_rfl
theorem hex_idx14 (w : World) : (Instr.index 9 (.string ⟨#[48, 49, 50, 51, 52, 53, 54, 55, 56, 57, 97, 98, 99, 100, 101, 102]⟩) (.int .u64 14)).run Tryd.prog w = .ok (.int .u8 101) w := by kernel_rfl
theorem hex_idx15 (w : World) : (Instr.index 9 (.string ⟨#[48, 49, 50, 51, 52, 53, 54, 55, 56, 57, 97, 98, 99, 100, 101, 102]⟩) (.int .u64 15)).run Tryd.prog w = .ok (.int .u8 102) w := by kernel_rfl
theorem hex_idx (d : Nat) (hd : d < 16) (w : World) : (Instr.index 9 (.string ⟨#[48, 49, 50, 51, 52, 53, 54, 55, 56, 57, 97, 98, 99, 100, 101, 102]⟩) (.int .u64 (d : Int))).run Tryd.prog w = .ok (.int .u8 ((hexDig d).toNat : Int)) w := by
  have hh : d = 0 ∨ d = 1 ∨ d = 2 ∨ d = 3 ∨ d = 4 ∨ d = 5 ∨ d = 6 ∨ d = 7 ∨ d = 8 ∨ d = 9 ∨ d = 10 ∨ d = 11 ∨ d = 12 ∨ d = 13 ∨ d = 14 ∨ d = 15 := by omega
  rcases hh with rfl | rfl | rfl | rfl | rfl | rfl | rfl | rfl | rfl | rfl | rfl | rfl | rfl | rfl | rfl | rfl
  · exact hex_idx0 w
  · exact hex_idx1 w
  · exact hex_idx2 w
  · exact hex_idx3 w
  · exact hex_idx4 w
  · exact hex_idx5 w
  · exact hex_idx6 w
  · exact hex_idx7 w
  · exact hex_idx8 w
  · exact hex_idx9 w
  · exact hex_idx10 w
  · exact hex_idx11 w
  · exact hex_idx12 w
  · exact hex_idx13 w
  · exact hex_idx14 w
  · exact hex_idx15 w
theorem and15 (a : Nat) (h : a < 18446744073709551616) : Go.bits .and .u64 (a : Int) 15 = ((a % 16 : Nat) : Int) := by
  have e0 : (2 : Nat) ^ IntKind.u64.bits = 18446744073709551616 := by decide
  have e : a % 18446744073709551616 &&& 15 % 18446744073709551616 = a % 16 := by
    rw [Nat.mod_eq_of_lt h]
    exact Nat.and_two_pow_sub_one_eq_mod a 4
  simp [Go.bits, e0, e]
  rw [wu64]
  omega
set_option maxHeartbeats 2000000 in
set_option maxRecDepth 100000 in
theorem hex_any (v : Nat) (hv : v < 18446744073709551616) (w : World) : Calls Tryd.prog 44 #[.int .u64 (v : Int)] w fun e w' => e = .returned (.string ⟨(digs v).toArray⟩) ∧ Below w.heap.size w w' := by
  have H0 := Lib.hid (rot_zero v hv)
  have HR := Lib.hid (fun i hi => rot_call v i hi hv)
  have HA := Lib.hid (fun i hi => rot_all v i hi hv)
  have HV := Lib.hid hv
  clear hv
  go_enter Tryd.func44, Tryd.ntmps44
  go_wp2
  have HN := Lib.hid (blk_new w (Obj.cells (row v 0) 125))
  have HB := Lib.hid (below_alloc (Below.refl w.heap.size w) (Obj.cells (row v 0) 125))
  rw [row_zero] at HN HB
  generalize w.alloc (Obj.cells #[.int .u8 0, .int .u8 0, .int .u8 0, .int .u8 0, .int .u8 0, .int .u8 0, .int .u8 0, .int .u8 0, .int .u8 0, .int .u8 0, .int .u8 0, .int .u8 0, .int .u8 0, .int .u8 0, .int .u8 0, .int .u8 0] 125) = w0 at *
  rw [← row_zero v] at HN
  have hb := Lib.hid (Nat.le_refl w.heap.size)
  obtain ⟨b, hbe⟩ : ∃ b, w.heap.size = b := ⟨_, rfl⟩
  rw [hbe] at HN HB hb ⊢
  have HBE := Lib.hid hbe
  clear hbe
  go_loopw [4, 7] (fun v4 v7 wr => ∃ i : Nat, i ≤ 16 ∧ v7 = .int .i64 (i : Int) ∧ v4 = .int .u64 (rot v i : Int) ∧ Aside0 (wr.heap[b]? = some (.cells (row v i) 125 (0, 0))) ∧ Aside0 (Below b w wr)) (fun _ v7 _ => 16 - (intOf v7).toNat)
  case atStart => exact ⟨0, by omega, rfl, by rw [H0.out], ⟨HN.out⟩, ⟨HB.out⟩⟩
  case round =>
    obtain ⟨i, hi, rfl, rfl, HNr, HBr⟩ := hrel
    by_cases hlt : i < 16
    · have hr := HR.out i hlt
      obtain ⟨h1, h2, h3⟩ := HA.out i hlt
      have hrlt : rot v (i + 1) < 18446744073709551616 := by rw [h2]; omega
      have hx := fun W => hex_idx (v / 16 ^ (15 - i) % 16) (Nat.mod_lt _ (by decide)) W
      have ha : Go.bits .and .u64 (rot v (i + 1) : Int) 15 = ((v / 16 ^ (15 - i) % 16 : Nat) : Int) := by rw [and15 _ hrlt, h3]
      have HS := Lib.hid (row_step v i hlt)
      have hc : wr.cell? ⟨b, i, none⟩ = some (.int .u8 0) := (blk_cell HNr.out i).trans (by simp [row, hlt])
      have hf := blk_frozen HNr.out i
      clear h1 h2 h3 hrlt
      generalize v / 16 ^ (15 - i) % 16 = d at *
      obtain ⟨r1, hr1⟩ : ∃ r, rot v (i + 1) = r := ⟨_, rfl⟩
      have HR1 := Lib.hid hr1
      rw [hr1] at hr ha
      clear hr1
      generalize rot v i = r0 at *
      have CR := fun W => bits_RotateLeft64.calls (r0 : Int) 4 _ W hr
      clear hr
      go_wp2_with (go_at_call 78; (with_reducible refine (CR _).mono ?_); rintro e_ w1 ⟨rfl, ⟨nd, rfl⟩⟩)
      go_roundw
      case rel => exact ⟨i + 1, by omega, by go_num, by rw [HR1.out], ⟨blk_put (blk_drewN HNr.out _) i _ HS.out⟩, ⟨(pw_below_drewN HBr.out _).setCell (Nat.le_refl _) _⟩⟩
      case measure => simp [intOf]; omega
    · obtain rfl : i = 16 := by omega
      clear HR HA H0 hlt
      have hsl : ∀ W, (Instr.sliceAt 125 (.pointer (some ⟨b, 0, none⟩)) none none none).run Tryd.prog W = .ok (.slice (some ⟨b, 0, none⟩) 16 16) W := fun W => by
        rw [run_sliceAt_array_all W 125 ⟨b, 0, none⟩ Tryd.underlying125]
        go_simp
      have hdl : (digs v).length = 16 := by simp [digs]
      have hcv : (convert 127 9 (.slice (some ⟨b, 0, none⟩) 16 16)).run Tryd.prog wr = .ok (.string ⟨(digs v).toArray⟩) wr := by
        have h := run_convert_bytes_back (P := Tryd.prog) wr 127 9 5 ⟨b, 0, none⟩ 16 (digs v) Tryd.underlying127 Tryd.underlying5 Tryd.underlying9 (fun j hj => by
          have e2 : (⟨b, 0, none⟩ : Addr).add j = ⟨b, j, none⟩ := by
            simp only [Addr.add]
            by_cases h : j = 0
            · subst h; rfl
            · rw [if_neg h, Nat.zero_add]
          rw [e2, blk_cell HNr.out j]
          exact row_end v j hj)
        rw [hdl] at h
        exact h
      have HS : Hid ((digs v).length ≤ 100) := Lib.hid (by omega)
      clear hdl
      obtain ⟨D, hD⟩ : ∃ D, digs v = D := ⟨_, rfl⟩
      rw [hD] at hcv HS
      have HD := Lib.hid hD
      clear hD
      go_wp2
      go_ret
      exact ⟨by rw [HD.out]; rfl, by rw [HBE.out]; exact HBr.out⟩
end Hx
end
section
open Go.RowKit Go.Proofs.YtfgfoofojofnmaaDoorW.PrintWords Go.Proofs.YtfgfoofojofnmaaDoorW.PrintLast Go.Proofs.YtfgfoofojofnmaaDoorW.PrintMore
set_option linter.unusedVariables false
set_option linter.unusedSimpArgs false
open Go.Proofs.YtfgfoofojofnmaaDoor.Hand
theorem below_allocX (w : World) (o : Obj) : Below w.heap.size w (w.alloc o) := below_alloc (Below.refl _ _) o
theorem join_f' (L : List ByteArray) (s : ByteArray) (h1 : L.length ≤ 140737488355328) (h2 : (Lib.join (L.map fun x => x.data.toList) s.data.toList).length ≤ 140737488355328) : strings_Join.f L s = some (joinB L s) := by unfold strings_Join.f; rw [if_pos ⟨h1, h2⟩]
theorem join_call' (A : Option Addr) (c : Nat) (L : List ByteArray) (s J : ByteArray) (n : Nat) (hn : L.length = n) (hc : n ≤ c) (hj : strings_Join.f L s = some J) (W : World) (hC : Kd.C Kd.string W A n L) : Calls Tryd.prog 45 #[.slice A n c, .string s] W fun e w' => e = .returned (.string J) ∧ Below W.heap.size W w' := by
  subst hn
  exact strings_Join.calls A c L s J W hC hc hj
/-- The table of powers of ten is laid. -/
def GW (w : World) : Prop := Lib.TabIs Tryd.prog w "internal/strconv.uint64pow10" .u64 Lib.pow10Tab
theorem gw_below (W W' : World) (hB : Below W.heap.size W W') (h : GW W) : GW W' := by
  unfold GW Lib.TabIs World.var? at *
  cases hg : Tryd.prog.globalNamed "internal/strconv.uint64pow10" with
  | none => simp [hg] at h
  | some g =>
    simp only [hg, Option.bind_some] at h ⊢
    have hlt : g < W.heap.size := by
      rcases Nat.lt_or_ge g W.heap.size with h' | h'
      · exact h'
      · rw [Array.getElem?_eq_none h'] at h; simp at h
    rw [hB.block g hlt]
    exact h
theorem itoa_is (n : Int) (h : 0 ≤ n) : (⟨(Lib.itoa n).toArray⟩ : ByteArray) = itoaT n := by
  unfold itoaT Lib.itoa
  rw [if_neg (by omega)]
theorem itoa_any (W : World) (n : Int) (hg : GW W) (h0 : 0 ≤ n) (h9 : n < 1000000000) : Calls Tryd.prog 43 #[.int .i64 n] W fun e w' => e = .returned (.string (itoaT n)) ∧ Below W.heap.size W w' := by
  refine (Tryd.strconv_Itoa n (by omega) (by omega) W hg).mono ?_
  rintro e w' ⟨rfl, k, os, rfl⟩
  rw [itoa_is n h0]
  exact ⟨rfl, Lib.below_grow _ W (Nat.le_refl _) k os⟩
theorem itoa_size (n : Int) (h0 : 0 ≤ n) (h9 : n < 1000000000) : (itoaT n).size ≤ 9 := by
  have : (itoaT n).size = (Lib.decDigits n.toNat).length := by simp [itoaT, ByteArray.size]
  rw [this, Lib.decDigits_length]
  exact nDigits_le 9 _ (by decide) (by rw [show (10 : Nat) ^ 9 = 1000000000 from by decide]; omega)
def hexT (id : Int) : ByteArray := ⟨(Hx.digs id.toNat).toArray⟩
theorem hash_is (id : Int) : hashT id = (⟨#[35]⟩ : ByteArray) ++ hexT id := by
  apply ByteArray.ext
  apply Array.toList_inj.1
  simp [hashT, hexT, Hx.digs, Hx.hexDig, hexDig]
theorem hexT_any (W : World) (id : Int) (h0 : 0 ≤ id) (h1 : id < 18446744073709551616) : Calls Tryd.prog 44 #[.int .u64 id] W fun e w' => e = .returned (.string (hexT id)) ∧ Below W.heap.size W w' := by
  have h := Hx.hex_any id.toNat (by omega) W
  rw [Int.toNat_of_nonneg h0] at h
  exact h
theorem hexT_size (id : Int) : (hexT id).size = 16 := by simp [hexT, Hx.digs, ByteArray.size]
/-- Tokens as a text: each as itself, a blank between. -/
def writeT (l : List S39) : ByteArray := joinB (l.map wtok) (⟨#[32]⟩ : ByteArray)
theorem writeT_list (l : List S39) : (writeT l).data.toList = Lib.join (l.map fun t => (wtok t).data.toList) [32] := by
  simp [writeT, joinB, List.map_map, Function.comp_def]
theorem wtok_size {t : S39} (h : TokOk t) : (wtok t).size ≤ 1026 := by
  unfold wtok
  by_cases h2 : t.f0 = 2
  · rw [if_pos h2]
    rcases h with ⟨h0, _⟩ | ⟨h0, _, h6, h7, _⟩ | ⟨h0, _⟩ | ⟨h0, _⟩ | ⟨h0, _⟩
    all_goals first | (have := itoa_size t.f2 h6 h7; omega) | (rw [h2] at h0; exact absurd h0 (by decide))
  · rw [if_neg h2]
    by_cases h3 : t.f0 = 3
    · rw [if_pos h3]
      rcases h with ⟨h0, _⟩ | ⟨h0, _⟩ | ⟨h0, h6, _⟩ | ⟨h0, _⟩ | ⟨h0, _⟩
      all_goals first | (have := h6.2.2; simp only [ByteArray.size_append]; show 1 + _ + 1 ≤ _; omega) | (rw [h3] at h0; exact absurd h0 (by decide))
    · rw [if_neg h3]
      by_cases h4 : t.f0 = 4
      · rw [if_pos h4, hash_is, ByteArray.size_append, hexT_size]; decide
      · rw [if_neg h4]
        have sz : ∀ {s : ByteArray} {l : List UInt8}, s.data.toList = l → l.length ≤ 16 → s.size ≤ 1026 := fun {s l} e h => by
          have : s.data.toList.length = s.size := by simp
          rw [e] at this; omega
        rcases h with ⟨h0, ⟨c, r, h6, _, _, h7⟩, _⟩ | ⟨h0, _⟩ | ⟨h0, _⟩ | ⟨h0, _⟩ | ⟨h0, _, _, ⟨c, h6, _⟩ | h6 | h6⟩
        · exact sz h6 (by simpa using h7)
        · exact absurd h0 h2
        · exact absurd h0 h3
        · exact absurd h0 h4
        all_goals exact sz h6 (by simp)
theorem join_le (n : Nat) : ∀ l : List (List UInt8), (∀ x ∈ l, x.length ≤ n) → (Lib.join l [32]).length ≤ l.length * (n + 1)
  | [], _ => by simp [Lib.join_nil]
  | [x], h => by rw [Lib.join_one]; have := h x (by simp); simp; omega
  | x :: y :: r, h => by
    rw [join_two]
    have h1 := h x (by simp)
    have h2 := join_le n (y :: r) (fun z hz => h z (List.mem_cons_of_mem _ hz))
    simp only [List.length_append, List.length_cons, List.length_nil] at h2 ⊢
    rw [Nat.add_mul (r.length + 1) 1, Nat.one_mul]
    omega
theorem wt_2 {t : S39} (h : t.f0 = 2) : wtok t = itoaT t.f2 := by unfold wtok; rw [if_pos h]
theorem wt_3 {t : S39} (h : t.f0 = 3) : wtok t = ((⟨#[39]⟩ : ByteArray) ++ t.f1) ++ (⟨#[39]⟩ : ByteArray) := by unfold wtok; rw [if_neg (by rw [h]; decide), if_pos h]
theorem wt_4 {t : S39} (h : t.f0 = 4) : wtok t = (⟨#[35]⟩ : ByteArray) ++ hexT t.f3 := by unfold wtok; rw [if_neg (by rw [h]; decide), if_neg (by rw [h]; decide), if_pos h, hash_is]
theorem wt_5 {t : S39} (h2 : t.f0 ≠ 2) (h3 : t.f0 ≠ 3) (h4 : t.f0 ≠ 4) : wtok t = t.f1 := by unfold wtok; rw [if_neg h2, if_neg h3, if_neg h4]
theorem tok_2 {t : S39} (h : TokOk t) (h2 : t.f0 = 2) : 0 ≤ t.f2 ∧ t.f2 < 1000000000 := by
  rcases h with ⟨h0, _⟩ | ⟨h0, _, h6, h7, _⟩ | ⟨h0, _⟩ | ⟨h0, _⟩ | ⟨h0, _⟩
  all_goals first | exact ⟨h6, h7⟩ | (rw [h2] at h0; exact absurd h0 (by decide))
theorem tok_4 {t : S39} (h : TokOk t) (h2 : t.f0 = 4) : 0 ≤ t.f3 ∧ t.f3 < 18446744073709551616 := by
  rcases h with ⟨h0, _⟩ | ⟨h0, _⟩ | ⟨h0, _⟩ | ⟨h0, _, _, h6, h7⟩ | ⟨h0, _⟩
  all_goals first | exact ⟨h6, h7⟩ | (rw [h2] at h0; exact absurd h0 (by decide))
theorem rdT39 (l : List S39) (i : Nat) (h : i < l.length) : rd_T39 l (i : Int) = l[i] := by simp [rd_T39, List.getD_eq_getElem?_getD, List.getElem?_eq_getElem h]
theorem write_step (l : List S39) (i : Nat) (h : i < l.length) : (l.take (i + 1)).map wtok = (l.take i).map wtok ++ [wtok l[i]] := by
  rw [List.take_succ_eq_append_getElem h, List.map_append]; rfl
set_option maxHeartbeats 4000000 in
set_option maxRecDepth 100000 in
theorem write_any (l : List S39) (hl : ∀ t ∈ l, TokOk t) (hn : l.length ≤ 2000) (A : Option Addr) (c : Nat) (w : World) (hg : GW w) (hC : Kd.C k39 w A l.length l) (hc : l.length ≤ c) :
    Calls Tryd.prog 19 #[.slice A l.length c] w fun e w' => e = .returned (.string (writeT l)) ∧ Below w.heap.size w w' := by
  have HG := Lib.hid hg
  have HC := Lib.hid hC
  have HL := Lib.hid hl
  have HF := Lib.hid (join_f' (l.map wtok) (⟨#[32]⟩ : ByteArray) (by simp; omega) (by
    have := join_le 1026 ((l.map wtok).map fun x => x.data.toList) (fun x hx => by
      rw [List.map_map] at hx
      obtain ⟨t, ht, rfl⟩ := List.mem_map.1 hx
      have h1 := wtok_size (hl t ht)
      have h2 : (wtok t).data.toList.length = (wtok t).size := by simp
      show (wtok t).data.toList.length ≤ _
      omega)
    simp only [List.length_map] at this
    show (Lib.join _ [32]).length ≤ _
    omega))
  clear hg hC hl
  have HB0 := Lib.hid (Below.refl w.heap.size w)
  go_enter Tryd.func19, Tryd.ntmps19
  go_wp2
  go_loopw [3, 9] (fun v3 v9 wr => ∃ i : Nat, i ≤ l.length ∧ v9 = .int .i64 (i : Int) ∧ Aside0 (Kd.R Kd.string 9 wr w.heap.size (fun _ => True) v3 ((l.take i).map wtok)) ∧ Aside0 (Below w.heap.size w wr)) (fun _ v9 _ => l.length - (intOf v9).toNat)
  case atStart => exact ⟨0, Nat.zero_le _, rfl, ⟨Kd.R_nil _ _ _ _ _⟩, ⟨Below.refl _ _⟩⟩
  case round =>
    obtain ⟨i, hi, rfl, HR, HBw⟩ := hrel
    have hrl : ((l.take i).map wtok).length = i := by simp; omega
    obtain ⟨A3, c3, rfl⟩ : ∃ A c, u3 = Value.slice A i c := by obtain ⟨A3, c3, e3⟩ := Kd.R_slice HR.out; rw [hrl] at e3; exact ⟨A3, c3, e3⟩
    by_cases hlt : i < l.length
    · have HS := Lib.hid (write_step l i hlt)
      have ht := HL.out l[i] (List.getElem_mem hlt)
      obtain ⟨ad, rfl, x0, x1, x2, x3, x4⟩ := at_T39 (Kd.C_below HC.out HBw.out) (i : Int) (by omega) (by omega)
      rw [rdT39 l i hlt] at x0 x1 x2 x3 x4
      simp only [Int.toNat_natCast] at x0 x1 x2 x3 x4
      have HT := Lib.hid ht
      have hzs := wtok_size ht
      clear ht
      generalize l[i] = t at *
      by_cases h2 : t.f0 = 2
      · have HW := Lib.hid (wt_2 h2)
        have t2 : (t.f0 == 2) = true := by rw [h2]; rfl
        have hh := tok_2 HT.out h2
        have CI := fun W hg => itoa_any W t.f2 hg hh.1 hh.2
        clear h2 hh
        obtain ⟨z, hz⟩ : ∃ z, wtok t = z := ⟨_, rfl⟩
        rw [hz] at HS hzs HW
        clear hz
        rw [← HW.out] at CI
        clear HW
        go_wp2_with (first | (go_at_call 43; (with_reducible refine (CI _ (gw_below _ _ (below_step HBw.out (below_allocX wr (Obj.cells #[.int .i64 t.f0, .string t.f1, .int .i64 t.f2, .int .u64 t.f3, .int .i64 t.f4] 39))) HG.out)).mono ?_); rintro e_ w1 ⟨rfl, hB⟩; have hB2 := below_step (below_allocX wr (Obj.cells #[.int .i64 t.f0, .string t.f1, .int .i64 t.f2, .int .u64 t.f3, .int .i64 t.f4] 39)) hB; have HR1 := Lib.hid (Kd.R_below HR.out hB2); have HW1 := Lib.hid (below_step HBw.out hB2); have HN1 := Lib.hid (blk_belowU hB (blk_new wr (Obj.cells #[.int .i64 t.f0, .string t.f1, .int .i64 t.f2, .int .u64 t.f3, .int .i64 t.f4] 39))); clear hB hB2) | (at_builtin; refine Kd.R_append Kd.string (w0 := w) w.heap.size rfl (.tmp 34) (.tmp 36) 69 9 (.string ⟨#[]⟩) 16 rfl Tryd.underlying69 info9 rfl (by decide) (by omega) (.slice A3 i c3) ((l.take i).map wtok) z [.string z] (fun _ => True) (fun _ => False) rfl (by first | (go_simp; done) | (go_simp; rfl)) rfl (fun _ hk => hk.elim) (fun _ _ => trivial) HR1.out HW1.out HW1.out.size (by rw [hrl]; omega) ?_; intro v1 w5 ho hb5 hg5 hat5; clear hg5 hat5; have HR5 := Lib.hid ho; have HW5 := Lib.hid hb5; clear ho hb5))
        go_roundw
        case rel => exact ⟨i + 1, by omega, by go_num, ⟨by rw [HS.out]; exact HR5.out⟩, ⟨HW5.out⟩⟩
        case measure => simp [intOf]; omega
      by_cases h3 : t.f0 = 3
      · have HW := Lib.hid (wt_3 h3)
        have t2 : (t.f0 == 2) = false := beq_eq_false_iff_ne.2 h2
        have t3 : (t.f0 == 3) = true := by rw [h3]; rfl
        clear h2 h3
        obtain ⟨z, hz⟩ : ∃ z, wtok t = z := ⟨_, rfl⟩
        rw [hz] at HS hzs HW
        clear hz
        have hz1 : 1 + t.f1.size + 1 = z.size := by rw [HW.out]; simp only [ByteArray.size_append]; rfl
        have HR1 := Lib.hid (Kd.R_below HR.out (below_allocX wr (Obj.cells #[.int .i64 t.f0, .string t.f1, .int .i64 t.f2, .int .u64 t.f3, .int .i64 t.f4] 39)))
        have HW1 := Lib.hid (below_step HBw.out (below_allocX wr (Obj.cells #[.int .i64 t.f0, .string t.f1, .int .i64 t.f2, .int .u64 t.f3, .int .i64 t.f4] 39)))
        go_wp2_with ((at_builtin; refine Kd.R_append Kd.string (w0 := w) w.heap.size rfl (.tmp 34) (.tmp 36) 69 9 (.string ⟨#[]⟩) 16 rfl Tryd.underlying69 info9 rfl (by decide) (by omega) (.slice A3 i c3) ((l.take i).map wtok) (((⟨#[39]⟩ : ByteArray) ++ t.f1) ++ (⟨#[39]⟩ : ByteArray)) [.string (((⟨#[39]⟩ : ByteArray) ++ t.f1) ++ (⟨#[39]⟩ : ByteArray))] (fun _ => True) (fun _ => False) rfl (by first | (go_simp; done) | (go_simp; rfl)) rfl (fun _ hk => hk.elim) (fun _ _ => trivial) HR1.out HW1.out HW1.out.size (by rw [hrl]; omega) ?_; intro v1 w5 ho hb5 hg5 hat5; clear hg5 hat5; have HR5 := Lib.hid ho; have HW5 := Lib.hid hb5; clear ho hb5))
        go_roundw
        case rel => exact ⟨i + 1, by omega, by go_num, ⟨by rw [HS.out, HW.out]; exact HR5.out⟩, ⟨HW5.out⟩⟩
        case measure => simp [intOf]; omega
      by_cases h4 : t.f0 = 4
      · have HW := Lib.hid (wt_4 h4)
        have t2 : (t.f0 == 2) = false := beq_eq_false_iff_ne.2 h2
        have t3 : (t.f0 == 3) = false := beq_eq_false_iff_ne.2 h3
        have t4 : (t.f0 == 4) = true := by rw [h4]; rfl
        have hh := tok_4 HT.out h4
        have CI := fun W => hexT_any W t.f3 hh.1 hh.2
        have hx := hexT_size t.f3
        clear h2 h3 h4 hh
        generalize hexT t.f3 = hx1 at *
        obtain ⟨z, hz⟩ : ∃ z, wtok t = z := ⟨_, rfl⟩
        rw [hz] at HS hzs HW
        clear hz
        go_wp2_with (first | (go_at_call 44; (with_reducible refine (CI _).mono ?_); rintro e_ w1 ⟨rfl, hB⟩; have hB2 := below_step (below_allocX wr (Obj.cells #[.int .i64 t.f0, .string t.f1, .int .i64 t.f2, .int .u64 t.f3, .int .i64 t.f4] 39)) hB; have HR1 := Lib.hid (Kd.R_below HR.out hB2); have HW1 := Lib.hid (below_step HBw.out hB2); have HN1 := Lib.hid (blk_belowU hB (blk_new wr (Obj.cells #[.int .i64 t.f0, .string t.f1, .int .i64 t.f2, .int .u64 t.f3, .int .i64 t.f4] 39))); clear hB hB2) | (at_builtin; refine Kd.R_append Kd.string (w0 := w) w.heap.size rfl (.tmp 34) (.tmp 36) 69 9 (.string ⟨#[]⟩) 16 rfl Tryd.underlying69 info9 rfl (by decide) (by omega) (.slice A3 i c3) ((l.take i).map wtok) ((⟨#[35]⟩ : ByteArray) ++ hx1) [.string ((⟨#[35]⟩ : ByteArray) ++ hx1)] (fun _ => True) (fun _ => False) rfl (by first | (go_simp; done) | (go_simp; rfl)) rfl (fun _ hk => hk.elim) (fun _ _ => trivial) HR1.out HW1.out HW1.out.size (by rw [hrl]; omega) ?_; intro v1 w5 ho hb5 hg5 hat5; clear hg5 hat5; have HR5 := Lib.hid ho; have HW5 := Lib.hid hb5; clear ho hb5))
        go_roundw
        case rel => exact ⟨i + 1, by omega, by go_num, ⟨by rw [HS.out, HW.out]; exact HR5.out⟩, ⟨HW5.out⟩⟩
        case measure => simp [intOf]; omega
      have HW := Lib.hid (wt_5 h2 h3 h4)
      have t2 : (t.f0 == 2) = false := beq_eq_false_iff_ne.2 h2
      have t3 : (t.f0 == 3) = false := beq_eq_false_iff_ne.2 h3
      have t4 : (t.f0 == 4) = false := beq_eq_false_iff_ne.2 h4
      clear h2 h3 h4
      rw [HW.out] at HS hzs
      clear HW
      have HR1 := Lib.hid (Kd.R_below HR.out (below_allocX wr (Obj.cells #[.int .i64 t.f0, .string t.f1, .int .i64 t.f2, .int .u64 t.f3, .int .i64 t.f4] 39)))
      have HW1 := Lib.hid (below_step HBw.out (below_allocX wr (Obj.cells #[.int .i64 t.f0, .string t.f1, .int .i64 t.f2, .int .u64 t.f3, .int .i64 t.f4] 39)))
      go_wp2_with ((at_builtin; refine Kd.R_append Kd.string (w0 := w) w.heap.size rfl (.tmp 34) (.tmp 36) 69 9 (.string ⟨#[]⟩) 16 rfl Tryd.underlying69 info9 rfl (by decide) (by omega) (.slice A3 i c3) ((l.take i).map wtok) t.f1 [.string t.f1] (fun _ => True) (fun _ => False) rfl (by first | (go_simp; done) | (go_simp; rfl)) rfl (fun _ hk => hk.elim) (fun _ _ => trivial) HR1.out HW1.out HW1.out.size (by rw [hrl]; omega) ?_; intro v1 w5 ho hb5 hg5 hat5; clear hg5 hat5; have HR5 := Lib.hid ho; have HW5 := Lib.hid hb5; clear ho hb5))
      go_roundw
      case rel => exact ⟨i + 1, by omega, by go_num, ⟨by rw [HS.out]; exact HR5.out⟩, ⟨HW5.out⟩⟩
      case measure => simp [intOf]; omega
    · obtain rfl : i = l.length := by omega
      clear hlt
      obtain ⟨A5, c5, e5, hl5, hC5⟩ := Kd.R_reads HR.out
      rw [hrl] at e5 hl5 hC5
      injection e5 with ea eb ec
      subst ea
      subst ec
      rw [List.take_length] at HR hC5 hrl
      have CJ := join_call' A3 c3 (l.map wtok) (⟨#[32]⟩ : ByteArray) _ l.length hrl hl5 HF.out
      have HCJ := Lib.hid hC5
      clear hl5 hC5 HF
      obtain ⟨J, hJ⟩ : ∃ J, writeT l = J := ⟨_, rfl⟩
      have hJ2 : joinB (l.map wtok) (⟨#[32]⟩ : ByteArray) = J := hJ
      rw [hJ2] at CJ
      have HJ := Lib.hid hJ
      clear hJ hJ2
      go_wp2_with (go_at_call 45; (with_reducible refine (CJ _ HCJ.out).mono ?_); rintro e_ w7 ⟨rfl, hB⟩; have HB7 := Lib.hid (below_step HBw.out hB); clear hB)
      go_ret
      exact ⟨by rw [HJ.out]; rfl, HB7.out⟩
end
section
open Go.RowKit Go.Proofs.YtfgfoofojofnmaaDoorW.PrintWords Go.Proofs.YtfgfoofojofnmaaDoorW.PrintLast Go.Proofs.YtfgfoofojofnmaaDoorW.PrintMore
set_option linter.unusedVariables false
set_option linter.unusedSimpArgs false
open Go.Proofs.YtfgfoofojofnmaaDoor.Hand
theorem ba_list {a b : ByteArray} (h : a.data.toList = b.data.toList) : a = b := ByteArray.ext (Array.toList_inj.1 h)
theorem strOne (x : Int) : (strOfNums [x]).data.toList = [UInt8.ofNat x.toNat] := by simp [strOfNums]
/-! ### digits -/
def decS (u : Nat) : List UInt8 := if u = 0 then [] else Lib.decDigits u
theorem decS_step (u : Nat) (h : u ≠ 0) : decS u = decS (u / 10) ++ [UInt8.ofNat (48 + u % 10)] := by
  unfold decS
  rw [if_neg h]
  by_cases h1 : u < 10
  · rw [Lib.decDigits_one h1, if_pos (by omega), List.nil_append, Nat.mod_eq_of_lt h1]
  · rw [Lib.decDigits, dif_neg h1, if_neg (by omega)]
theorem dec_step (u : Nat) : Lib.decDigits u = decS (u / 10) ++ [UInt8.ofNat (48 + u % 10)] := by
  by_cases h : u = 0
  · subst h; rw [Lib.decDigits_one (by decide)]; rfl
  · rw [← decS_step u h]; unfold decS; rw [if_neg h]
theorem digit_num (u : Nat) (hu : u < 1000000000) : strOfNums (([(wrap64 (48 + (Int.tmod (u : Int) 10))) % 256] : List Int)) = bs [UInt8.ofNat (48 + u % 10)] := by
  apply ba_list
  rw [strOne, bs_list]
  have e : (Int.tmod (u : Int) 10) = ((u % 10 : Nat) : Int) := by
    rw [Int.tmod_eq_emod_of_nonneg (by omega)]; omega
  have e2 : (wrap64 (48 + ((u % 10 : Nat) : Int))) % 256 = ((48 + u % 10 : Nat) : Int) := by unfold wrap64; omega
  rw [e, e2]
  rfl
theorem div_num (u : Nat) (hu : u < 1000000000) : wrap64 (Int.tdiv (u : Int) 10) = ((u / 10 : Nat) : Int) := by
  rw [Int.tdiv_eq_ediv_of_nonneg (by omega)]
  unfold wrap64
  omega
theorem digits_loop : ∀ (k u : Nat) (acc : ByteArray), u < 1000000000 → u < 10 ^ k → acc.size + k ≤ 1000000 → forebearref21_Digits.l0 (k + 1) (u : Int) acc = some (bs (decS u ++ acc.data.toList))
  | k, 0, acc, _, _, _ => by
    rw [forebearref21_Digits.l0, if_neg (by decide)]
    show some acc = _
    unfold decS
    rw [if_pos rfl, List.nil_append, bs_of]
  | 0, u + 1, acc, _, h, _ => absurd h (by simp)
  | k + 1, u + 1, acc, hu, h, ha => by
    have hp : 10 ^ (k + 1) = 10 ^ k * 10 := Nat.pow_succ ..
    rw [forebearref21_Digits.l0, if_pos (by omega), Option.bind_some, digit_num (u + 1) hu, div_num (u + 1) hu, if_pos (by rw [bs_size]; simp; omega), digits_loop k ((u + 1) / 10) _ (by omega) (by rw [hp] at h; exact Nat.div_lt_of_lt_mul (by rw [Nat.mul_comm]; exact h)) (by rw [ByteArray.size_append, bs_size]; simp; omega), decS_step (u + 1) (by omega)]
    simp [bs_list]
theorem digits_eq (n : Int) (h0 : 0 ≤ n) (h9 : n < 1000000000) (k : Nat) (hk : 10 ≤ k) (hk2 : k ≤ 900000) : forebearref21_Digits.f k n = some (itoaT n) := by
  obtain ⟨u, rfl⟩ : ∃ u : Nat, n = u := ⟨n.toNat, by omega⟩
  obtain ⟨k, rfl⟩ : ∃ k1, k = k1 + 1 := ⟨k - 1, by omega⟩
  have hu : u < 1000000000 := by omega
  unfold forebearref21_Digits.f
  rw [digit_num u hu, div_num u hu, digits_loop k (u / 10) _ (by omega) (by
    have : (10 : Nat) ^ 9 ≤ 10 ^ k := Nat.pow_le_pow_right (by decide) (by omega)
    have e : (10 : Nat) ^ 9 = 1000000000 := by decide
    omega) (by rw [bs_size]; simp; omega), bs_list, ← dec_step]
  rfl
/-! ### sixteen digits -/
theorem digs_front (k v : Nat) : digs (k + 1) v = hexDig (v / 16 ^ k % 16) :: digs k v := by
  unfold digs
  rw [List.range_succ_eq_map, List.map_cons, List.map_map]
  congr 1
  refine List.map_congr_left fun i hi => ?_
  have hi := List.mem_range.1 hi
  show hexDig (v / 16 ^ (k + 1 - 1 - (i + 1)) % 16) = _
  rw [show k + 1 - 1 - (i + 1) = k - 1 - i by omega]
theorem rdigit (j : Nat) (hj : j < 16) : ∃ t, forebearref01_digit.f (j : Int) = some t ∧ strOfNums ([t] : List Int) = bs [hexDig j] := by
  unfold forebearref01_digit.f
  by_cases h : j < 10
  · refine ⟨_, by rw [if_pos (by omega)], ?_⟩
    apply ba_list
    rw [strOne, bs_list]
    have : (IntKind.u64.wrap (48 + (j : Int))) % 256 = ((48 + j : Nat) : Int) := by rw [wu64]; omega
    rw [this]
    unfold hexDig
    rw [if_pos h]
    rfl
  · refine ⟨_, by rw [if_neg (by omega)], ?_⟩
    apply ba_list
    rw [strOne, bs_list]
    have : (IntKind.u64.wrap (87 + (j : Int))) % 256 = ((87 + j : Nat) : Int) := by rw [wu64]; omega
    rw [this]
    unfold hexDig
    rw [if_neg h]
    rfl
theorem hex_loop (v : Nat) (hv : v < 18446744073709551616) (d : Nat) : ∀ (k i : Nat), 16 - i = d → i ≤ 16 → d < k → forebearref01_Hex.l0 k ((v / 16 ^ i : Nat) : Int) (bs (digs i v)) (i : Int) = some (bs (digs 16 v)) := by
  induction d with
  | zero =>
    intro k i hd hi hk
    obtain ⟨k, rfl⟩ : ∃ k1, k = k1 + 1 := ⟨k - 1, by omega⟩
    have : i = 16 := by omega
    subst this
    rw [forebearref01_Hex.l0, if_neg (by decide)]
  | succ d ih =>
    intro k i hd hi hk
    obtain ⟨k, rfl⟩ : ∃ k1, k = k1 + 1 := ⟨k - 1, by omega⟩
    have hle : v / 16 ^ i < 18446744073709551616 := Nat.lt_of_le_of_lt (Nat.div_le_self _ _) hv
    have e1 : Int.tmod ((v / 16 ^ i : Nat) : Int) 16 = ((v / 16 ^ i % 16 : Nat) : Int) := by
      rw [Int.tmod_eq_emod_of_nonneg (Int.natCast_nonneg _)]
      generalize v / 16 ^ i = x at *
      omega
    have e2 : IntKind.u64.wrap (Int.tdiv ((v / 16 ^ i : Nat) : Int) 16) = ((v / 16 ^ (i + 1) : Nat) : Int) := by
      rw [Int.tdiv_eq_ediv_of_nonneg (Int.natCast_nonneg _), wu64, Nat.pow_succ, ← Nat.div_div_eq_div_mul]
      generalize v / 16 ^ i = x at *
      omega
    obtain ⟨t, h1, h2⟩ := rdigit (v / 16 ^ i % 16) (Nat.mod_lt _ (by decide))
    have e3 : bs [hexDig (v / 16 ^ i % 16)] ++ bs (digs i v) = bs (digs (i + 1) v) := by
      apply ba_list
      rw [digs_front]; simp [bs_list]
    have hl := digs_len i v
    rw [forebearref01_Hex.l0, if_pos (by omega), e1, h1, Option.bind_some, Option.bind_some, h2, if_pos (by rw [bs_size, bs_size, hl]; simp; omega), e2, e3]
    have e4 : wrap64 ((i : Int) + 1) = ((i + 1 : Nat) : Int) := by rw [w64 (by omega) (by omega)]; omega
    rw [e4]
    clear e4 e1 e2 h1
    exact ih k (i + 1) (by omega) (by omega) (by omega)
theorem hexR_eq (id : Int) (h0 : 0 ≤ id) (h1 : id < 18446744073709551616) (k : Nat) (hk : 17 ≤ k) : forebearref01_Hex.f k id = some (hexT id) := by
  have h := hex_loop id.toNat (by omega) 16 k 0 rfl (by decide) (by omega)
  have e : ((id.toNat / 16 ^ 0 : Nat) : Int) = id := by rw [Nat.pow_zero, Nat.div_one]; exact Int.toNat_of_nonneg h0
  rw [e] at h
  exact h
/-! ### tokens as a text -/
namespace Lb
/-- A token as the document has it. -/
def cv (t : S39) : S78 := ⟨t.f0, t.f1, t.f2, t.f3, t.f4⟩
end Lb
theorem write_take (l : List S39) (i : Nat) (h : i < l.length) : writeT (l.take (i + 1)) = (if 0 < i then writeT (l.take i) ++ (⟨#[32]⟩ : ByteArray) else writeT (l.take i)) ++ wtok l[i] := by
  have snoc : ∀ (xs : List (List UInt8)) (y : List UInt8), Lib.join (xs ++ [y]) [32] = (if xs = [] then [] else Lib.join xs [32] ++ [32]) ++ y := by
    intro xs
    induction xs with
    | nil => intro y; rw [List.nil_append, Lib.join_one]; rfl
    | cons x xs ih =>
      intro y
      cases xs with
      | nil => rw [List.cons_append, List.nil_append, join_two, Lib.join_one, Lib.join_one]; simp
      | cons z zs =>
        have h1 := ih y
        rw [List.cons_append, List.cons_append, join_two, ← List.cons_append, h1, join_two]
        simp
  apply ba_list
  have e : (l.take (i + 1)).map (fun t => (wtok t).data.toList) = (l.take i).map (fun t => (wtok t).data.toList) ++ [(wtok l[i]).data.toList] := by
    rw [List.take_succ_eq_append_getElem h, List.map_append]; rfl
  rw [writeT_list, e, snoc]
  by_cases hi : 0 < i
  · rw [if_pos hi, if_neg (by
      intro e
      have h5 : ((l.take i).map (fun t => (wtok t).data.toList)).length = i := by rw [List.length_map, List.length_take]; omega
      rw [e] at h5
      simp at h5
      omega)]
    simp [writeT_list]
  · have : i = 0 := by omega
    subst this
    rw [if_neg hi]
    simp [writeT_list, Lib.join_nil]
theorem writeT_size (l : List S39) (hl : ∀ t ∈ l, TokOk t) : (writeT l).size ≤ l.length * 1027 := by
  have h : (writeT l).size = (writeT l).data.toList.length := by simp
  rw [h, writeT_list]
  have := join_le 1026 (l.map fun t => (wtok t).data.toList) (fun x hx => by
    obtain ⟨t, ht, rfl⟩ := List.mem_map.1 hx
    have h1 := wtok_size (hl t ht)
    have h2 : (wtok t).data.toList.length = (wtok t).size := by simp
    omega)
  simpa using this
theorem rd78 (l : List S39) (i : Nat) (h : i < l.length) : rd_T78 (l.map Lb.cv) (i : Int) = Lb.cv l[i] := by simp [rd_T78, h]
theorem write_loop (l : List S39) (hl : ∀ t ∈ l, TokOk t) (hn : l.length ≤ 2000) (d : Nat) : ∀ (k i : Nat), l.length - i = d → i ≤ l.length → 2 * d + 20 ≤ k → k ≤ 100000 → forebearref22_Write.l0 k (l.map Lb.cv) (writeT (l.take i)) (i : Int) = some (writeT l) := by
  induction d with
  | zero =>
    intro k i hd hi hk hk9
    obtain ⟨k, rfl⟩ : ∃ k1, k = k1 + 1 := ⟨k - 1, by omega⟩
    rw [forebearref22_Write.l0, if_neg (by rw [List.length_map]; omega), List.take_of_length_le (by omega)]
  | succ d ih =>
    intro k i hd hi hk hk9
    obtain ⟨k, rfl⟩ : ∃ k1, k = k1 + 2 := ⟨k - 2, by omega⟩
    have hlt : i < l.length := by omega
    have hsz := writeT_size (l.take i) (fun t ht => hl t (List.mem_of_mem_take ht))
    have hsz2 : (writeT (l.take i)).size ≤ 2054000 := by rw [List.length_take] at hsz; have : min i l.length * 1027 ≤ 2000 * 1027 := Nat.mul_le_mul_right _ (by omega); omega
    have hw := write_take l i hlt
    have hok := hl _ (List.getElem_mem hlt)
    have hz := wtok_size hok
    have e1 : Hid (wrap64 ((i : Int) + 1) = ((i + 1 : Nat) : Int)) := Lib.hid (by rw [w64 (by omega) (by omega)]; omega)
    have hih := ih k (i + 1) (by omega) (by omega) (by omega) (by omega)
    have J : ∀ acc : ByteArray, acc.size ≤ 2054001 → writeT (l.take (i + 1)) = acc ++ wtok l[i] → forebearref22_Write.j1 (k + 1) (l.map Lb.cv) acc (i : Int) = some (writeT l) := by
      intro acc ha he
      rw [he] at hih
      rw [forebearref22_Write.j1, if_pos (by omega), if_pos (by rw [List.length_map]; omega), rd78 l i hlt, e1.out]
      generalize l[i] = t at *
      show (if t.f0 = 2 then (forebearref21_Digits.f k t.f2).bind _ else if t.f0 = 3 then _ else if t.f0 = 4 then _ else _) = _
      by_cases h2 : t.f0 = 2
      · have hr := tok_2 hok h2
        have h9 := itoa_size t.f2 hr.1 hr.2
        rw [if_pos h2, digits_eq t.f2 hr.1 hr.2 k (by omega) (by omega), Option.bind_some, if_pos (by omega), ← wt_2 h2]
        exact hih
      · rw [if_neg h2]
        by_cases h3 : t.f0 = 3
        · have h4 := wt_3 h3
          have h5 : t.f1.size + 2 ≤ 1026 := by rw [h4] at hz; simp only [ByteArray.size_append] at hz; have hz' : 1 + t.f1.size + 1 ≤ 1026 := hz; omega
          rw [if_pos h3]
          show (if acc.size + 1 ≤ _ then if acc.size + 1 + t.f1.size ≤ _ then if acc.size + 1 + t.f1.size + 1 ≤ _ then _ else none else none else none) = _
          rw [if_pos (by omega), if_pos (by omega), if_pos (by omega)]
          rw [h4] at hih
          have e5 : ((acc ++ (⟨#[39]⟩ : ByteArray)) ++ t.f1) ++ (⟨#[39]⟩ : ByteArray) = acc ++ (((⟨#[39]⟩ : ByteArray) ++ t.f1) ++ (⟨#[39]⟩ : ByteArray)) := by apply ba_list; simp
          show forebearref22_Write.l0 k (l.map Lb.cv) (((acc ++ (⟨#[39]⟩ : ByteArray)) ++ t.f1) ++ (⟨#[39]⟩ : ByteArray)) _ = _
          rw [e5]
          exact hih
        · rw [if_neg h3]
          by_cases h4 : t.f0 = 4
          · have h5 := wt_4 h4
            have hr := tok_4 hok h4
            have h6 := hexT_size t.f3
            rw [if_pos h4, if_pos (by omega)]
            show (forebearref01_Hex.f k t.f3).bind _ = _
            rw [hexR_eq t.f3 hr.1 hr.2 k (by omega), Option.bind_some, if_pos (by omega)]
            rw [h5] at hih
            have e5 : (acc ++ (⟨#[35]⟩ : ByteArray)) ++ hexT t.f3 = acc ++ ((⟨#[35]⟩ : ByteArray) ++ hexT t.f3) := by apply ba_list; simp
            rw [e5]
            exact hih
          · rw [if_neg h4]
            have h5 := wt_5 h2 h3 h4
            rw [h5] at hih hz
            show (if acc.size + t.f1.size ≤ _ then _ else none) = _
            rw [if_pos (by omega)]
            exact hih
    rw [forebearref22_Write.l0, if_pos (by rw [List.length_map]; omega)]
    by_cases h0 : (i : Int) > 0
    · rw [if_pos h0, if_pos (by omega)]
      rw [if_pos (by omega)] at hw
      exact J _ (by rw [ByteArray.size_append]; show _ + 1 ≤ _; omega) hw
    · rw [if_neg h0]
      rw [if_neg (by omega)] at hw
      exact J _ (by omega) hw
theorem write_eq (l : List S39) (hl : ∀ t ∈ l, TokOk t) (hn : l.length ≤ 2000) (k : Nat) (hk : 5000 ≤ k) (hk9 : k ≤ 100000) : forebearref22_Write.f k (l.map Lb.cv) = some (writeT l) := by
  have h := write_loop l hl hn l.length k 0 (by omega) (by omega) (by omega) hk9
  have e : writeT (l.take 0) = (⟨#[]⟩ : ByteArray) := by apply ba_list; rw [writeT_list]; rfl
  rw [e] at h
  exact h
end
section
open Go.RowKit Go.Proofs.YtfgfoofojofnmaaDoorW.PrintWords Go.Proofs.YtfgfoofojofnmaaDoorW.PrintLast Go.Proofs.YtfgfoofojofnmaaDoorW.PrintMore
set_option linter.unusedVariables false
set_option linter.unusedSimpArgs false
open Go.Proofs.YtfgfoofojofnmaaDoor.Hand
namespace Lb
set_option maxRecDepth 10000 in
theorem awake_true : forebearlaw22_awake.f 20 = some true := by decide +kernel
theorem tokens_loop (l : List S39) (hl : l.length < 1000000000) (d : Nat) : ∀ (k i : Nat) (out : List S78), l.length - i = d → i ≤ l.length → out = (l.take i).map cv → d < k → forebearlaw22_Tokens.l0 k l out i = some (l.map cv) := by
  induction d with
  | zero =>
    intro k i out hd hi ho hk
    obtain ⟨k, rfl⟩ : ∃ m, k = m + 1 := ⟨k - 1, by omega⟩
    simp only [forebearlaw22_Tokens.l0]
    rw [if_neg (by omega), ho, List.take_of_length_le (by omega)]
  | succ d ih =>
    intro k i out hd hi ho hk
    obtain ⟨k, rfl⟩ : ∃ m, k = m + 1 := ⟨k - 1, by omega⟩
    have hlt : i < l.length := by omega
    have hol : out.length = i := by rw [ho]; simp; omega
    simp only [forebearlaw22_Tokens.l0]
    rw [if_pos (by omega), if_pos (by omega), if_pos (by omega)]
    have e1 : Hid (wrap64 ((i : Int) + 1) = ((i + 1 : Nat) : Int)) := Lib.hid (by rw [w64 (by omega) (by omega)]; omega)
    have e2 : out ++ [(⟨(rd_T39 l i).f0, (rd_T39 l i).f1, (rd_T39 l i).f2, (rd_T39 l i).f3, (rd_T39 l i).f4⟩ : S78)] = (l.take (i + 1)).map cv := by
      rw [List.take_succ_eq_append_getElem hlt, List.map_append, ← ho]
      have : rd_T39 l (i : Int) = l[i] := by simp [rd_T39, hlt]
      rw [this]
      rfl
    rw [e1.out, e2]
    clear e1
    exact ih k (i + 1) _ (by omega) (by omega) rfl (by omega)
theorem tokens_eq (l : List S39) (hl : l.length < 1000000000) (k : Nat) (hk : l.length < k) : forebearlaw22_Tokens.f k l = some (l.map cv) :=
  tokens_loop l hl l.length k 0 [] (by omega) (by omega) rfl hk
/-- The same tokens but for their places. -/
theorem same_eT : ∀ (l m : List S39), m.map eT = l.map eT → sameL false (l.map cv) (m.map cv) = true
  | [], [], _ => rfl
  | [], y :: ys, h => absurd h (by simp)
  | x :: xs, [], h => absurd h (by simp)
  | x :: xs, y :: ys, h => by
    obtain ⟨a, b, c, d, e⟩ := x
    obtain ⟨a', b', c', d', e'⟩ := y
    rw [List.map_cons, List.map_cons, eT_mk, eT_mk] at h
    injection h with h1 h2
    injection h1 with h3 h4 h5 h6 h7
    subst h3; subst h4; subst h5; subst h6
    rw [List.map_cons, List.map_cons]
    simp only [sameL, same_eT xs ys h2, Bool.and_true]
    simp [same1, cv]
theorem write_eT {l m : List S39} (h : m.map eT = l.map eT) : writeT m = writeT l := by
  have e : ∀ l : List S39, (l.map eT).map wtok = l.map wtok := fun l => by rw [List.map_map]; rfl
  unfold writeT
  rw [← e m, h, e l]
/-- Tokens' text is cut into them. -/
theorem sc_write : ∀ l : List S39, (∀ t ∈ l, TokOk t) → Sc (Lib.join (l.map fun t => (wtok t).data.toList) [32]) (l.map eT)
  | [], _ => by rw [List.map_nil, Lib.join_nil]; exact sc_nil
  | [t], h => by rw [List.map_cons, List.map_nil, Lib.join_one]; exact sc_tok (h t (by simp))
  | t :: u :: r, h => by
    rw [List.map_cons, List.map_cons, join_two, ← List.map_cons (f := fun t => (wtok t).data.toList)]
    have h1 := sc_app (d := 32) (sc_tok (h t (by simp))) (by decide) (sc_blank (sc_write (u :: r) (fun x hx => h x (List.mem_cons_of_mem _ hx))))
    exact h1
theorem scan_empty (n : Nat) : ∀ (l : List UInt8) (i : Nat) (out : List S39), l.length ≤ n → (scanT l i out).2.2 ≠ 0 → (scanT l i out).1 = [] := by
  induction n with
  | zero =>
    intro l i out hl h
    have : l = [] := List.length_eq_zero_iff.mp (by omega)
    subst this
    rw [scanT_nil] at h; exact absurd rfl h
  | succ n ih =>
    intro l i out hl h
    cases l with
    | nil => rw [scanT_nil] at h; exact absurd rfl h
    | cons c r =>
      simp only [List.length_cons] at hl
      by_cases hb : c = 32 ∨ c = 9
      · rw [scanT_blank hb] at h ⊢; exact ih r _ _ (by omega) h
      · by_cases h0 : nOf (oneT c r) = 0
        · rw [scanT_bad hb h0]
        · rw [scanT_tok hb h0] at h ⊢
          exact ih _ _ _ (by simp only [List.length_drop, List.length_cons]; omega) h
theorem scanS_empty (a : ByteArray) (h : (scanS a).2.2 ≠ 0) : (scanS a).1 = [] := by
  unfold scanS at h ⊢
  by_cases hs : a.size ≤ 1024
  · rw [if_pos hs] at h ⊢; exact scan_empty _ _ _ _ (Nat.le_refl _) h
  · rw [if_neg hs]
theorem back (l : List S39) (hl : ∀ t ∈ l, TokOk t) (hs : (writeT l).size ≤ 1024) : ∃ m, scanS (writeT l) = (m, 0, 0) ∧ m.map eT = l.map eT := by
  obtain ⟨m, h1, h2⟩ := sc_write l hl
  refine ⟨m, ?_, h2⟩
  unfold scanS
  rw [if_pos hs, writeT_list, h1]
end Lb
open Lb in
theorem scan_any (a : ByteArray) (w : World) : Calls Tryd.prog 15 #[.string a] w fun e w' => ∃ A c, e = .returned (.tuple #[.slice A (scanS a).1.length c, .int .i64 (scanS a).2.1, .int .i64 (scanS a).2.2]) ∧ (scanS a).1.length ≤ c ∧ Kd.C k39 w' A (scanS a).1.length (scanS a).1 ∧ Below w.heap.size w w' := by
  refine (lex_Scan.calls a _ _ _ w (scanS_f a)).mono ?_
  rintro e w' ⟨v, rfl, hR, hB⟩
  obtain ⟨A, c, rfl, hl, hC⟩ := Kd.R_reads hR
  exact ⟨A, c, rfl, hl, hC, hB⟩
open Lb in
theorem tokens_any (l : List S39) (hn : l.length ≤ 2000) (A : Option Addr) (c : Nat) (w : World) (hC : Kd.C k39 w A l.length l) (hc : l.length ≤ c) : Calls Tryd.prog 18 #[.slice A l.length c] w fun e w' => ∃ A' c', e = .returned (.slice A' l.length c') ∧ l.length ≤ c' ∧ Kd.C k78 w' A' l.length (l.map cv) ∧ Below w.heap.size w w' := by
  refine (forebearlaw22_Tokens.calls 3000 A c l _ w hC hc (tokens_eq l (by omega) 3000 (by omega))).mono ?_
  rintro e w' ⟨v, rfl, hR, hB⟩
  obtain ⟨A', c', rfl, hl, hC'⟩ := Kd.R_reads hR
  rw [List.length_map] at hl hC' ⊢
  exact ⟨A', c', rfl, hl, hC', hB⟩
open Lb in
theorem rwrite_any (l : List S39) (hl : ∀ t ∈ l, TokOk t) (hn : l.length ≤ 2000) (A : Option Addr) (c : Nat) (w : World) (hC : Kd.C k78 w A l.length (l.map cv)) (hc : l.length ≤ c) : Calls Tryd.prog 20 #[.slice A l.length c] w fun e w' => e = .returned (.string (writeT l)) ∧ Below w.heap.size w w' := by
  have h := forebearref22_Write.calls 5000 A c (l.map cv) _ w (by rw [List.length_map]; exact hC) (by rw [List.length_map]; exact hc) (write_eq l hl hn 5000 (Nat.le_refl _) (by decide))
  rw [List.length_map] at h
  exact h
open Lb in
theorem rsame_any (l m : List S39) (hn : l.length ≤ 2000) (h : m.map eT = l.map eT) (A A' : Option Addr) (c c' : Nat) (w : World) (hC : Kd.C k78 w A l.length (l.map cv)) (hc : l.length ≤ c) (hC' : Kd.C k78 w A' m.length (m.map cv)) (hc' : m.length ≤ c') : Calls Tryd.prog 17 #[.slice A l.length c, .slice A' m.length c', .bool false] w fun e w' => e = .returned (.bool true) ∧ Below w.heap.size w w' := by
  have h1 := forebearref22_Same.calls A c (l.map cv) A' c' (m.map cv) false true w (by rw [List.length_map]; exact hC) (by rw [List.length_map]; exact hc) (by rw [List.length_map]; exact hC') (by rw [List.length_map]; exact hc') (by
    unfold forebearref22_Same.f
    rw [if_pos (by rw [List.length_map]; omega), same_eT l m h])
  rw [List.length_map, List.length_map] at h1
  exact h1
open Lb in
set_option maxHeartbeats 4000000 in
set_option maxRecDepth 100000 in
theorem lexBack_walk (a0 : ByteArray) (w : World) (w0 : a0.size ≤ 140737488351232) (hg : GW w) :
    Calls Tryd.prog 4 #[.string a0] w fun e w' => e = .returned (.bool true) ∧ Below w.heap.size w w' := by
  have HG := Lib.hid hg
  clear hg
  have CAW := fun W => forebearlaw22_awake.calls 20 true W awake_true
  obtain ⟨⟨l, p, e⟩, hl⟩ : ∃ N, scanS a0 = N := ⟨_, rfl⟩
  have P0 : ∀ W, Calls Tryd.prog 15 #[.string a0] W (fun e_ w_ => ∃ A c, e_ = .returned (.tuple #[.slice A l.length c, .int .i64 p, .int .i64 e]) ∧ l.length ≤ c ∧ Kd.C k39 w_ A l.length l ∧ Below W.heap.size W w_) := fun W => by have := scan_any a0 W; rw [hl] at this; exact this
  have HTO : Hid (∀ t ∈ l, TokOk t) := Lib.hid (by have := scanS_ok a0; rw [hl] at this; exact this)
  have hln : l.length ≤ 1024 := by have := scanS_few a0; rw [hl] at this; exact this
  have HE : Hid (e ≠ 0 → l = []) := Lib.hid (fun h => by have := scanS_empty a0; rw [hl] at this; exact this h)
  clear hl
  go_enter Tryd.func4, Tryd.ntmps4
  go_upto_region 3 with (go_at_call 14; (with_reducible refine (CAW _).mono ?_); rintro e_ v0 ⟨rfl, hB⟩; have HB0 := Lib.hid hB; clear hB)
  clear CAW
  go_upto_region 4 with (go_at_call 15; (with_reducible refine (P0 _).mono ?_); rintro e_ v1 ⟨A1, c1, rfl, hl1, hC1, hB⟩; have HD1 := Lib.hid hC1; have HL1 := Lib.hid hl1; have HB1 := Lib.hid (below_step HB0.out hB); clear hl1 hC1 hB)
  clear P0 HB0
  by_cases h1 : e = 0
  · have q1 : (e != 0) = false := by rw [h1]; rfl
    clear h1 HE
    have CW := fun W hg hC => write_any l HTO.out (by omega) A1 c1 W hg hC HL1.out
    have CT := fun W hC => tokens_any l (by omega) A1 c1 W hC HL1.out
    have CR := fun W A c hC hc => rwrite_any l HTO.out (by omega) A c W hC hc
    have HBK : Hid ((writeT l).size ≤ 1024 → ∃ m, scanS (writeT l) = (m, 0, 0) ∧ m.map eT = l.map eT) := Lib.hid (back l HTO.out)
    have HLG : Hid (¬ (writeT l).size ≤ 1024 → scanS (writeT l) = ([], 0, 4)) := Lib.hid (fun h => by unfold scanS; rw [if_neg h])
    have hsz : (writeT l).size ≤ 1051648 := by have := writeT_size l HTO.out; omega
    have HWE : Hid (∀ m, m.map eT = l.map eT → writeT m = writeT l) := Lib.hid (fun m h => write_eT h)
    obtain ⟨T, hT⟩ : ∃ T, writeT l = T := ⟨_, rfl⟩
    rw [hT] at CW CR HBK HLG hsz HWE
    clear hT
    go_upto_region 9 with (first | (go_at_call 19; (with_reducible refine (CW _ ?_ ?_).mono ?_); exact gw_below _ _ HB1.out HG.out; exact HD1.out; rintro e_ k1 ⟨rfl, hB⟩; replace HB1 := Lib.hid (below_step HB1.out hB); replace HD1 := Lib.hid (Kd.C_below HD1.out hB); clear hB) | (go_at_call 18; (with_reducible refine (CT _ ?_).mono ?_); exact HD1.out; rintro e_ k2 ⟨A2, c2, rfl, hl2, hC2, hB⟩; replace HB1 := Lib.hid (below_step HB1.out hB); replace HD1 := Lib.hid (Kd.C_below HD1.out hB); have HD2 := Lib.hid hC2; have HL2 := Lib.hid hl2; clear hB hC2 hl2) | (go_at_call 20; (with_reducible refine (CR _ _ _ HD2.out HL2.out).mono ?_); rintro e_ k3 ⟨rfl, hB⟩; replace HB1 := Lib.hid (below_step HB1.out hB); replace HD1 := Lib.hid (Kd.C_below HD1.out hB); clear hB HD2 HL2))
    clear CW CR
    by_cases h2 : T.size ≤ 1024
    · have q2 : decide ((1024 : Int) < (T.size : Int)) = false := decide_eq_false (by omega)
      obtain ⟨m, hm, hme⟩ := HBK.out h2
      have hml : m.length = l.length := by have := congrArg List.length hme; simpa using this
      have P1 : ∀ W, Calls Tryd.prog 15 #[.string T] W (fun e_ w_ => ∃ A c, e_ = .returned (.tuple #[.slice A m.length c, .int .i64 0, .int .i64 0]) ∧ m.length ≤ c ∧ Kd.C k39 w_ A m.length m ∧ Below W.heap.size W w_) := fun W => by have := scan_any T W; rw [hm] at this; exact this
      have HTM : Hid (∀ t ∈ m, TokOk t) := Lib.hid (by have := scanS_ok T; rw [hm] at this; exact this)
      have hmn : m.length ≤ 1024 := by omega
      have CS := fun W A A' c c' hC hc hC' hc' => rsame_any l m (by omega) hme A A' c c' W hC hc hC' hc'
      have CW : ∀ W A c, GW W → Kd.C k39 W A m.length m → m.length ≤ c → Calls Tryd.prog 19 #[.slice A m.length c] W fun e_ w_ => e_ = .returned (.string T) ∧ Below W.heap.size W w_ := fun W A c hg hC hc => by have := write_any m HTM.out (by omega) A c W hg hC hc; rw [HWE.out m hme] at this; exact this
      have CM := fun W A c hC hc => tokens_any m (by omega) A c W hC hc
      clear hm hme hml HBK HLG HWE h2
      go_wp2_with (first
        | (go_at_call 15; (with_reducible refine (P1 _).mono ?_); rintro e_ k4 ⟨A4, c4, rfl, hl4, hC4, hB⟩; replace HB1 := Lib.hid (below_step HB1.out hB); replace HD1 := Lib.hid (Kd.C_below HD1.out hB); have HD4 := Lib.hid hC4; have HL4 := Lib.hid hl4; clear hB hC4 hl4)
        | (go_at_call 18; (with_reducible refine (CT _ HD1.out).mono ?_); rintro e_ k5 ⟨A5, c5, rfl, hl5, hC5, hB⟩; replace HB1 := Lib.hid (below_step HB1.out hB); replace HD1 := Lib.hid (Kd.C_below HD1.out hB); replace HD4 := Lib.hid (Kd.C_below HD4.out hB); have HD5 := Lib.hid hC5; have HL5 := Lib.hid hl5; clear hB hC5 hl5)
        | (go_at_call 18; (with_reducible refine (CM _ _ _ HD4.out HL4.out).mono ?_); rintro e_ k6 ⟨A6, c6, rfl, hl6, hC6, hB⟩; replace HB1 := Lib.hid (below_step HB1.out hB); replace HD1 := Lib.hid (Kd.C_below HD1.out hB); replace HD4 := Lib.hid (Kd.C_below HD4.out hB); replace HD5 := Lib.hid (Kd.C_below HD5.out hB); have HD6 := Lib.hid hC6; have HL6 := Lib.hid hl6; clear hB hC6 hl6)
        | (go_at_call 17; (with_reducible refine (CS _ _ _ _ _ HD5.out HL5.out HD6.out HL6.out).mono ?_); rintro e_ k7 ⟨rfl, hB⟩; replace HB1 := Lib.hid (below_step HB1.out hB); replace HD4 := Lib.hid (Kd.C_below HD4.out hB); clear hB)
        | (go_at_call 19; (with_reducible refine (CW _ _ _ ?_ HD4.out HL4.out).mono ?_); exact gw_below _ _ HB1.out HG.out; rintro e_ k8 ⟨rfl, hB⟩; replace HB1 := Lib.hid (below_step HB1.out hB); clear hB))
      go_ret
      exact ⟨rfl, HB1.out⟩
    · have q2 : decide ((1024 : Int) < (T.size : Int)) = true := decide_eq_true (by omega)
      have P1 : ∀ W, Calls Tryd.prog 15 #[.string T] W (fun e_ w_ => ∃ A c, e_ = .returned (.tuple #[.slice A 0 c, .int .i64 0, .int .i64 4]) ∧ 0 ≤ c ∧ Kd.C k39 w_ A 0 [] ∧ Below W.heap.size W w_) := fun W => by have := scan_any T W; rw [HLG.out h2] at this; exact this
      clear HBK HLG HWE h2
      go_wp2_with (go_at_call 15; (with_reducible refine (P1 _).mono ?_); rintro e_ k4 ⟨A4, c4, rfl, hl4, hC4, hB⟩; replace HB1 := Lib.hid (below_step HB1.out hB); clear hB hC4 hl4)
      go_ret
      exact ⟨rfl, HB1.out⟩
  · have q1 : (e != 0) = true := bne_iff_ne.2 h1
    have hz := HE.out h1
    have hz2 : l.length = 0 := by rw [hz]; rfl
    clear HE h1 hz
    have q2 : ((l.length : Int) == 0) = true := by rw [hz2]; rfl
    clear hz2
    go_wp2
    go_ret
    exact ⟨rfl, HB1.out⟩
end
section
open Go.RowKit
theorem table_at {W : World} {x1 x2 : String × DataW Unit} {rest : List (String × DataW Unit)} (h : laidMet Tryd.prog (x1 :: x2 :: ("internal/strconv.uint64pow10", Lib.tabData .u64 Lib.pow10Tab) :: rest) W) : GW W := by
  obtain ⟨_, hv, _⟩ := h
  obtain ⟨_, _, _, _, _, _, _, _, _, _, hv, _⟩ := hv
  obtain ⟨_, _, _, _, _, _, _, _, _, _, hv, _⟩ := hv
  obtain ⟨g, t, cs, fuel, p, q, h1, h2, h3, h4, _, _⟩ := hv
  obtain rfl : g = 3 := Option.some.inj (h1.symm.trans (by kernel_rfl))
  obtain rfl : t = 178 := Option.some.inj (h2.symm.trans (by kernel_rfl))
  have e := Lib.cells_of_tab (P := Tryd.prog) (t := 178) (e := 36) (n := 20) (by kernel_rfl) (by kernel_rfl) (by kernel_rfl) (by kernel_rfl) h4
  unfold GW Lib.TabIs
  rw [h3, ← e]
end
end Go.Proofs.YtfgfoofojofnmaaDoor.Q
