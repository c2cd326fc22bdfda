/- Plain laws for the document's cutting of a text (the tokens one by one), over the contracts of the program's. No program's walk stands here. -/
import Derived.Test.YtfgfoofojofnmaaDoorL2
import Derived.Test.YtfgfoofojofnmaaDoorQF15
import Derived.Test.YtfgfoofojofnmaaDoorQF41
import Derived.Laws.BitsLemmas
namespace Go.Proofs.YtfgfoofojofnmaaDoor.Q
open Go.RowKit Go.Proofs.YtfgfoofojofnmaaDoorW.PrintWords Go.Proofs.YtfgfoofojofnmaaDoorW.PrintLast Go.Proofs.YtfgfoofojofnmaaDoorW.PrintMore
open Go.Proofs.YtfgfoofojofnmaaDoor.Hand
set_option linter.unusedVariables false
set_option linter.unusedSimpArgs false
theorem head_lt {p : UInt8 → Bool} : ∀ {l : List UInt8} {k : Nat} (h : k < headN p l), p (l[k]'(Nat.lt_of_lt_of_le h (headN_le p l))) = true
  | c :: l, 0, h => by
    by_cases hc : p c = true
    · simpa using hc
    · simp [headN, hc] at h
  | c :: l, k + 1, h => by
    by_cases hc : p c = true
    · have e : headN p (c :: l) = headN p l + 1 := by simp [headN, hc]
      have := head_lt (p := p) (l := l) (k := k) (by omega)
      simpa using this
    · simp [headN, hc] at h
theorem head_at {p : UInt8 → Bool} : ∀ {l : List UInt8} (h : headN p l < l.length), p (l[headN p l]) = false
  | c :: l, h => by
    by_cases hc : p c = true
    · have e : headN p (c :: l) = headN p l + 1 := by simp [headN, hc]
      have := head_at (p := p) (l := l) (by simp only [e, List.length_cons] at h; omega)
      simp only [e, List.getElem_cons_succ]
      exact this
    · have e : headN p (c :: l) = 0 := by simp [headN, hc]
      simp only [e, List.getElem_cons_zero]
      simpa using hc
theorem drop_get (s : ByteArray) (i : Nat) (l : List UInt8) (h : s.data.toList.drop i = l) (k : Nat) (hk : k < l.length) (hlt : i + k < s.size) : s[i + k] = l[k] := by
  subst h
  rw [← get_data s (i + k) hlt]
  simp
/-! ### the quote -/
def quoB (c : UInt8) : Bool := !(c == 39) && !(c == 10)
theorem idx_none (x : UInt8) : ∀ l : List UInt8, (∀ c ∈ l, c ≠ x) → Lib.indexByte l x = -1
  | [], _ => rfl
  | c :: l, h => by
    have hc : (c == x) = false := beq_eq_false_iff_ne.2 (h c (by simp))
    have ih := idx_none x l (fun d hd => h d (by simp [hd]))
    simp [Lib.indexByte, hc, ih]
theorem idx_at (x : UInt8) : ∀ (l : List UInt8) (q : Nat) (hq : q < l.length), (∀ c ∈ l.take q, c ≠ x) → l[q] = x → Lib.indexByte l x = q
  | c :: l, 0, _, _, h => by
    have : c = x := by simpa using h
    simp [Lib.indexByte, this]
  | c :: l, q + 1, hq, ha, h => by
    have hc : (c == x) = false := beq_eq_false_iff_ne.2 (ha c (by simp))
    have ih := idx_at x l q (by simpa using hq) (fun d hd => ha d (by simp [hd])) (by simpa using h)
    have h1 : ((q : Int) == -1) = false := beq_eq_false_iff_ne.2 (by omega)
    simp [Lib.indexByte, hc, ih, h1]
theorem idx_mem (x : UInt8) : ∀ (l : List UInt8), x ∈ l → 0 ≤ Lib.indexByte l x
  | c :: l, h => by
    by_cases hc : c = x
    · simp [Lib.indexByte, hc]
    · have hb : (c == x) = false := beq_eq_false_iff_ne.2 hc
      have hm : x ∈ l := by
        rcases List.mem_cons.mp h with e | e
        · exact absurd e.symm hc
        · exact e
      have ih := idx_mem x l hm
      have h1 : (Lib.indexByte l x == -1) = false := beq_eq_false_iff_ne.2 (by omega)
      simp only [Lib.indexByte, hb, h1, Bool.false_eq_true, if_false]
      omega
theorem idx_is : ∀ (l : List UInt8) (x : UInt8) (h : 0 ≤ Lib.indexByte l x) (hlt : (Lib.indexByte l x).toNat < l.length), l[(Lib.indexByte l x).toNat] = x
  | [], x, h, _ => absurd h (by simp [Lib.indexByte])
  | c :: l, x, h, hlt => by
    by_cases hc : c = x
    · have e : (Lib.indexByte (c :: l) x).toNat = 0 := by simp [Lib.indexByte, hc]
      simp only [e, List.getElem_cons_zero]
      exact hc
    · have hb : (c == x) = false := beq_eq_false_iff_ne.2 hc
      by_cases h1 : (Lib.indexByte l x == -1) = true
      · have e : Lib.indexByte (c :: l) x = -1 := by simp [Lib.indexByte, hb, h1]
        omega
      · have e : Lib.indexByte (c :: l) x = Lib.indexByte l x + 1 := by simp [Lib.indexByte, hb, h1]
        have h2 : Lib.indexByte l x ≠ -1 := by simpa using h1
        have h3 := Lib.indexByte_ge l x
        have h0 : 0 ≤ Lib.indexByte l x := by omega
        have hl2 := idx_lt l x h0
        have ih := idx_is l x h0 hl2
        have e2 : (Lib.indexByte (c :: l) x).toNat = (Lib.indexByte l x).toNat + 1 := by omega
        simp only [e2, List.getElem_cons_succ]
        exact ih
theorem quo_all (r : List UInt8) : ∀ c ∈ r.take (headN quoB r), c ≠ 39 ∧ c ≠ 10 := by
  intro c hc
  have := head_all quoB r c hc
  simpa [quoB] using this
theorem quote_yes (r : List UInt8) (h : headN quoB r < r.length) (h39 : r[headN quoB r] = 39) : oneT 39 r = (3, bs (r.take (headN quoB r)), 0, 0, 0, (headN quoB r : Int) + 2) := by
  have e := idx_at 39 r _ h (fun c hc => (quo_all r c hc).1) h39
  have e10 := idx_none 10 (r.take (headN quoB r)) (fun c hc => (quo_all r c hc).2)
  have : oneL 39 r = some (3, bs (r.take (headN quoB r)), 0, 0, 0, (headN quoB r : Int) + 2) := by
    unfold oneL
    rw [if_neg (by decide), if_neg (by decide), if_pos rfl, e, if_pos (by omega), Int.toNat_natCast, e10, if_neg (by decide)]
    simp only [List.length_take]
    rw [Nat.min_eq_left (by omega)]
  rw [oneT, this]; rfl
theorem quote_no (r : List UInt8) (h : ∀ hq : headN quoB r < r.length, r[headN quoB r] ≠ 39) : oneT 39 r = zeroT := by
  have : oneL 39 r = some zeroT := by
    unfold oneL
    rw [if_neg (by decide), if_neg (by decide), if_pos rfl]
    by_cases hi : 0 ≤ Lib.indexByte r 39
    · rw [if_pos hi]
      by_cases hq : headN quoB r < r.length
      · have h10 : r[headN quoB r] = 10 := by
          have h1 := head_at hq
          have h2 := h hq
          simpa [quoB, h2] using h1
        have hmem : (10 : UInt8) ∈ r.take (Lib.indexByte r 39).toNat := by
          have hlt : headN quoB r < (Lib.indexByte r 39).toNat := by
            rcases Nat.lt_or_ge (headN quoB r) (Lib.indexByte r 39).toNat with hl | hg
            · exact hl
            · exfalso
              have hlt := idx_lt r 39 hi
              have hx : r[(Lib.indexByte r 39).toNat] = 39 := idx_is r 39 hi hlt
              rcases Nat.lt_or_ge (Lib.indexByte r 39).toNat (headN quoB r) with h3 | h3
              · have := head_lt h3
                rw [hx] at this
                exact absurd this (by decide)
              · have e : (Lib.indexByte r 39).toNat = headN quoB r := by omega
                simp only [e] at hx
                exact h hq hx
          rw [← h10]
          exact List.mem_take_iff_getElem.mpr ⟨headN quoB r, by omega, rfl⟩
        rw [if_pos (idx_mem 10 _ hmem)]
      · exfalso
        have hl : headN quoB r = r.length := by have := headN_le quoB r; omega
        have : Lib.indexByte r 39 = -1 := idx_none 39 r (fun c hc => (quo_all r c (by rw [hl, List.take_length]; exact hc)).1)
        omega
    · rw [if_neg hi]
  rw [oneT, this]; rfl
/-! ### sixteen digits -/
theorem wu64 (x : Int) : IntKind.u64.wrap x = x % 18446744073709551616 := by simp [IntKind.wrap, IntKind.bits, IntKind.signed]
theorem or_add (a b : Int) (ha : 0 ≤ a) (ha2 : a < 18446744073709551616) (hm : a % 16 = 0) (h0 : 0 ≤ b) (h1 : b < 16) : Go.bits .or .u64 a b = a + b := by
  have h64 : (2 : Int) ^ 64 = 18446744073709551616 := by decide
  have h4 : (2 : Int) ^ 4 = 16 := by decide
  exact bits_join .u64 64 (by decide) (fun n h h2 => by rw [h64] at h2; rw [wu64]; omega) 4 a b ha (by rw [h4]; exact hm) (by rw [h64]; exact ha2) h0 (by rw [h4]; exact h1) (by rw [h64]; omega)
/-- The number that a byte stands for among sixteen digits. -/
def hexD (c : Nat) : Option Nat := if 48 ≤ c ∧ c ≤ 57 then some (c - 48) else if 97 ≤ c ∧ c ≤ 102 then some (c - 87) else none
def hexF : List UInt8 → Nat → Option Nat
  | [], v => some v
  | c :: l, v => (hexD c.toNat).bind fun d => hexF l ((v * 16 + d) % 18446744073709551616)
def hexR (l : List UInt8) : Int × Int := match hexF l 0 with
  | some v => ((v : Int), 0)
  | none => (0, 9)
theorem bt_at' (l : List UInt8) (i : Nat) (h : i < l.length) : bt (bs l) (i : Int) = (l[i].toNat : Int) := by
  have e := bt_drop (bs l) i l[i] (l.drop (i + 1)) (by rw [bs_list]; exact List.drop_eq_getElem_cons h)
  exact e
theorem sum_parse_loop (l : List UInt8) (hl : l.length = 16) (d : Nat) : ∀ (k i v : Nat), i ≤ 16 → 16 - i = d → 2 * d + 1 ≤ k → v < 18446744073709551616 →
    sum_Parse.l0 k (bs l) (v : Int) 16 (i : Int) = some (match hexF (l.drop i) v with | some v => ((v : Int), 0) | none => (0, 9)) := by
  induction d with
  | zero =>
    intro k i v hi hd hk hv
    obtain ⟨k, rfl⟩ : ∃ m, k = m + 1 := ⟨k - 1, by omega⟩
    simp only [sum_Parse.l0]
    rw [if_neg (by omega), List.drop_eq_nil_of_le (by omega)]
    rfl
  | succ d ih =>
    intro k i v hi hd hk hv
    obtain ⟨k, rfl⟩ : ∃ m, k = m + 2 := ⟨k - 2, by omega⟩
    have hlt : i < l.length := by omega
    have hb : l[i].toNat < 256 := l[i].toNat_lt
    have e1 : Hid (wrap64 ((i : Int) + 1) = ((i + 1 : Nat) : Int)) := Lib.hid (by rw [w64 (by omega) (by omega)]; omega)
    have step : ∀ x : Nat, x < 16 → Go.bits .or .u64 (IntKind.u64.wrap ((v : Int) * 16)) (x : Int) = (((v * 16 + x) % 18446744073709551616 : Nat) : Int) := by
      intro x hx
      rw [wu64, or_add _ _ (by omega) (by omega) (by omega) (by omega) (by omega)]
      omega
    have hdr : l.drop i = l[i] :: l.drop (i + 1) := List.drop_eq_getElem_cons hlt
    simp only [sum_Parse.l0]
    rw [if_pos (by omega), if_pos (by omega), if_pos (by rw [bs_size]; omega), bt_at' l i hlt, hdr]
    simp only [hexF]
    generalize l[i].toNat = c at *
    by_cases h48 : (48 : Int) ≤ (c : Int)
    · rw [if_pos h48]
      simp only [sum_Parse.j1]
      by_cases h57 : (c : Int) ≤ 57
      · rw [if_pos (decide_eq_true h57), e1.out]
        have ed : hexD c = some (c - 48) := by unfold hexD; rw [if_pos ⟨by omega, by omega⟩]
        have ex : ((c : Int) - 48) % 256 = ((c - 48 : Nat) : Int) := by omega
        rw [ed, Option.bind_some, ex, step _ (by omega)]
        exact ih k (i + 1) _ (by omega) (by omega) (by omega) (by omega)
      · rw [if_neg (by simpa using h57)]
        by_cases h97 : (c : Int) ≥ 97
        · rw [if_pos h97]
          by_cases h102 : (c : Int) ≤ 102
          · rw [if_pos h102, e1.out]
            have ed : hexD c = some (c - 87) := by unfold hexD; rw [if_neg (by omega), if_pos ⟨by omega, by omega⟩]
            have ex : ((((c : Int) - 97) % 256) + 10) % 256 = ((c - 87 : Nat) : Int) := by omega
            rw [ed, Option.bind_some, ex, step _ (by omega)]
            exact ih k (i + 1) _ (by omega) (by omega) (by omega) (by omega)
          · rw [if_neg h102]
            have ed : hexD c = none := by unfold hexD; rw [if_neg (by omega), if_neg (by omega)]
            rw [ed, Option.bind_none]
        · rw [if_neg h97]
          have ed : hexD c = none := by unfold hexD; rw [if_neg (by omega), if_neg (by omega)]
          rw [ed, Option.bind_none]
    · rw [if_neg h48]
      simp only [sum_Parse.j1]
      rw [if_neg (by decide), if_neg (by omega)]
      have ed : hexD c = none := by unfold hexD; rw [if_neg (by omega), if_neg (by omega)]
      rw [ed, Option.bind_none]
theorem sum_parse_eq (l : List UInt8) (hl : l.length = 16) : sum_Parse.f 60 (bs l) = some (hexR l) := by
  unfold sum_Parse.f
  rw [if_pos (by rw [bs_size]; omega), bs_size, hl]
  exact sum_parse_loop l hl 16 60 0 0 (by omega) (by omega) (by omega) (by omega)

theorem ref_digit (j : Nat) (hj : j < 16) : forebearref01_digit.f (j : Int) = some (((if j < 10 then 48 + j else 87 + j : Nat) : Int)) := by
  unfold forebearref01_digit.f
  by_cases h : j < 10
  · rw [if_pos (by omega), if_pos h, wu64]
    congr 1
    omega
  · rw [if_neg (by omega), if_neg h, wu64]
    congr 1
    omega
/-- The digit of a byte among the first j; 16: none. -/
def hexJ (c j : Nat) : Nat := match hexD c with
  | some d => if d < j then d else 16
  | none => 16
theorem hexJ_step (c j : Nat) (hj : j < 16) : hexJ c (j + 1) = if (if j < 10 then 48 + j else 87 + j) = c then j else hexJ c j := by
  unfold hexJ hexD
  by_cases h1 : 48 ≤ c ∧ c ≤ 57
  · rw [if_pos h1]
    simp only
    split <;> split <;> split <;> first | omega | (split <;> omega)
  · rw [if_neg h1]
    by_cases h2 : 97 ≤ c ∧ c ≤ 102
    · rw [if_pos h2]
      simp only
      split <;> split <;> split <;> first | omega | (split <;> omega)
    · rw [if_neg h2]
      simp only
      split <;> split <;> omega
theorem ref_search (l : List UInt8) (hl : l.length = 16) (i : Nat) (hi : i < 16) (v : Int) (m : Nat) : ∀ (k j : Nat), 16 - j = m → j ≤ 16 →
    forebearref01_Parse.l1 (k + m) (bs l) v (i : Int) (hexJ (l[i]'(by omega)).toNat j : Nat) (j : Int) = forebearref01_Parse.l1 k (bs l) v (i : Int) (hexJ (l[i]'(by omega)).toNat 16 : Nat) 16 := by
  induction m with
  | zero =>
    intro k j hm hj
    obtain rfl : j = 16 := by omega
    rfl
  | succ m ih =>
    intro k j hm hj
    have e1 : Hid (IntKind.u64.wrap ((j : Int) + 1) = ((j + 1 : Nat) : Int)) := Lib.hid (by rw [wu64]; omega)
    have hb := bt_at' l i (by omega)
    have hs := hexJ_step (l[i]'(by omega)).toNat j (by omega)
    rw [show k + (m + 1) = (k + m) + 1 by omega]
    rw [forebearref01_Parse.l1, if_pos (by omega), ref_digit j (by omega), Option.bind_some, if_pos (by omega), if_pos (by rw [bs_size]; omega), hb, e1.out]
    generalize (l[i]'(by omega)).toNat = c at *
    by_cases hc : (if j < 10 then 48 + j else 87 + j) = c
    · rw [if_pos (by omega)]
      rw [if_pos hc] at hs
      rw [← ih k (j + 1) (by omega) (by omega), hs]
    · rw [if_neg (by omega)]
      rw [if_neg hc] at hs
      rw [← ih k (j + 1) (by omega) (by omega), hs]
theorem hexJ_all (c : Nat) : (hexD c = none ∧ hexJ c 16 = 16) ∨ (∃ d, hexD c = some d ∧ d < 16 ∧ hexJ c 16 = d) := by
  unfold hexJ hexD
  by_cases h1 : 48 ≤ c ∧ c ≤ 57
  · rw [if_pos h1]
    exact .inr ⟨c - 48, rfl, by omega, by simp only; rw [if_pos (by omega)]⟩
  · rw [if_neg h1]
    by_cases h2 : 97 ≤ c ∧ c ≤ 102
    · rw [if_pos h2]
      exact .inr ⟨c - 87, rfl, by omega, by simp only; rw [if_pos (by omega)]⟩
    · rw [if_neg h2]
      exact .inl ⟨rfl, rfl⟩
theorem ref_parse_loop (l : List UInt8) (hl : l.length = 16) (d : Nat) : ∀ (k i v : Nat), i ≤ 16 → 16 - i = d → v < 18446744073709551616 →
    forebearref01_Parse.l0 (k + 18 * d + 1) (bs l) (v : Int) (i : Int) = some (match hexF (l.drop i) v with | some v => ((v : Int), 0) | none => (0, 9)) := by
  induction d with
  | zero =>
    intro k i v hi hd hv
    rw [forebearref01_Parse.l0, if_neg (by omega), List.drop_eq_nil_of_le (by omega)]
    rfl
  | succ d ih =>
    intro k i v hi hd hv
    have hlt : i < l.length := by omega
    have e1 : Hid (wrap64 ((i : Int) + 1) = ((i + 1 : Nat) : Int)) := Lib.hid (by rw [w64 (by omega) (by omega)]; omega)
    have hdr : l.drop i = l[i] :: l.drop (i + 1) := List.drop_eq_getElem_cons hlt
    have hs := ref_search l hl i (by omega) (v : Int) 16 (k + 18 * d + 1 + 1) 0 rfl (by omega)
    have h0 : hexJ (l[i]'hlt).toNat 0 = 16 := by unfold hexJ; split <;> rfl
    rw [h0] at hs
    rw [show k + 18 * (d + 1) + 1 = (k + 18 * d + 1 + 1 + 16) + 1 by omega, forebearref01_Parse.l0, if_pos (by omega)]
    rw [show ((16 : Nat) : Int) = 16 from rfl, show ((0 : Nat) : Int) = 0 from rfl] at hs
    rw [hs, forebearref01_Parse.l1, if_neg (by omega), hdr]
    simp only [hexF]
    rcases hexJ_all (l[i]'hlt).toNat with ⟨ed, ej⟩ | ⟨x, ed, hx, ej⟩
    · rw [ej, ed, if_pos (show ((16 : Nat) : Int) = 16 from rfl), Option.bind_none]
    · rw [ej, ed, if_neg (by omega), Option.bind_some, e1.out, ← ih k (i + 1) _ (by omega) (by omega) (Nat.mod_lt _ (by decide))]
      congr 1
      rw [wu64, wu64]
      omega
theorem ref_parse_eq (l : List UInt8) (hl : l.length = 16) : forebearref01_Parse.f 300 (bs l) = some (hexR l) := by
  unfold forebearref01_Parse.f
  rw [if_pos (by rw [bs_size]; omega)]
  exact ref_parse_loop l hl 16 11 0 0 (by omega) (by omega) (by omega)
/-! ### the signs -/
def signL : List (List UInt8) := [[40], [41], [44], [124], [38], [45], [33], [94], [46, 46], [58, 58]]
def sgAt (l : List UInt8) (j : Nat) : Option (List UInt8) := (signL.take j).foldl (fun acc x => if x.isPrefixOf l then some x else acc) none
theorem sgAt_succ (l : List UInt8) (j : Nat) (h : j < 10) : sgAt l (j + 1) = if (signL.getD j []).isPrefixOf l then some (signL.getD j []) else sgAt l j := by
  unfold sgAt
  have hl : j < signL.length := h
  rw [List.take_succ_eq_append_getElem hl, List.foldl_append]
  simp [List.getD_eq_getElem?_getD, hl]
theorem sg_all (c : UInt8) (r : List UInt8) (h1 : ¬ smallB c = true) (h2 : ¬ digitB c = true) (h3 : c ≠ 39) (h4 : c ≠ 35) :
    (∃ x, sgAt (c :: r) 10 = some x ∧ x ≠ [] ∧ oneT c r = (5, bs x, 0, 0, 0, (x.length : Int))) ∨ (sgAt (c :: r) 10 = none ∧ oneT c r = zeroT) := by
  have E : oneL c r = if (c :: r).take 2 = [46, 46] ∨ (c :: r).take 2 = [58, 58] then some (5, bs ((c :: r).take 2), 0, 0, 0, 2) else if signB c = true then some (5, bs [c], 0, 0, 0, 1) else some zeroT := by
    unfold oneL
    rw [if_neg h1, if_neg h2, if_neg h3, if_neg (fun e => h4 e.1)]
  have T : ∀ t : Tk, oneL c r = some t → oneT c r = t := fun t h => by rw [oneT, h]; rfl
  have P2 : ∀ a : UInt8, [a, a].isPrefixOf (c :: r) = decide ((c :: r).take 2 = [a, a]) := by
    intro a
    rw [Bool.eq_iff_iff, decide_eq_true_iff, List.isPrefixOf_iff_prefix, List.prefix_iff_eq_take]
    exact eq_comm
  by_cases hd : (c :: r).take 2 = [46, 46]
  · left
    have hc : c = 46 := by simpa using congrArg List.head? hd
    refine ⟨[46, 46], ?_, by decide, T _ (by rw [E, if_pos (Or.inl hd), hd]; rfl)⟩
    have p1 := P2 46
    have p2 := P2 58
    rw [hd] at p1 p2
    simp only [sgAt, signL, List.take, List.foldl, p1, p2]
    subst hc
    simp [List.isPrefixOf]
  · by_cases hcc : (c :: r).take 2 = [58, 58]
    · left
      have hc : c = 58 := by simpa using congrArg List.head? hcc
      refine ⟨[58, 58], ?_, by decide, T _ (by rw [E, if_pos (Or.inr hcc), hcc]; rfl)⟩
      have p1 := P2 46
      have p2 := P2 58
      rw [hcc] at p1 p2
      simp only [sgAt, signL, List.take, List.foldl, p1, p2]
      subst hc
      simp [List.isPrefixOf]
    · have E2 : oneL c r = if signB c = true then some (5, bs [c], 0, 0, 0, 1) else some zeroT := by
        rw [E, if_neg (fun e => e.elim hd hcc)]
      have p1 : [46, 46].isPrefixOf (c :: r) = false := by rw [P2 46]; exact decide_eq_false hd
      have p2 : [58, 58].isPrefixOf (c :: r) = false := by rw [P2 58]; exact decide_eq_false hcc
      have S : sgAt (c :: r) 10 = if signB c = true then some [c] else none := by
        simp only [sgAt, signL, List.take, List.foldl, p1, p2]
        simp only [List.isPrefixOf, Bool.and_true]
        unfold signB
        by_cases a1 : c = 40
        · subst a1; decide
        · by_cases a2 : c = 41
          · subst a2; decide
          · by_cases a3 : c = 44
            · subst a3; decide
            · by_cases a4 : c = 124
              · subst a4; decide
              · by_cases a5 : c = 38
                · subst a5; decide
                · by_cases a6 : c = 45
                  · subst a6; decide
                  · by_cases a7 : c = 33
                    · subst a7; decide
                    · by_cases a8 : c = 94
                      · subst a8; decide
                      · have n : ∀ d : UInt8, c ≠ d → (d == c) = false := fun d h => beq_eq_false_iff_ne.2 (Ne.symm h)
                        simp [n 40 a1, n 41 a2, n 44 a3, n 124 a4, n 38 a5, n 45 a6, n 33 a7, n 94 a8, Lib.indexByte]
      by_cases hs : signB c = true
      · left
        exact ⟨[c], by rw [S, if_pos hs], by simp, T _ (by rw [E2, if_pos hs]; rfl)⟩
      · right
        exact ⟨by rw [S, if_neg hs], T _ (by rw [E2, if_neg hs])⟩
theorem extract_take (s : ByteArray) (i n : Nat) (l : List UInt8) (h : s.data.toList.drop i = l) : s.extract i (i + n) = bs (l.take n) := by
  have h1 := bs_extract s.data.toList i (i + n)
  rw [bs_of, List.drop_take, h] at h1
  rw [h1]
  congr 2
  omega
theorem oneT_of {c : UInt8} {r : List UInt8} {t : Tk} (h : oneL c r = some t) : oneT c r = t := by rw [oneT, h]; rfl
theorem one_name (c : UInt8) (r : List UInt8) (h : smallB c = true) (hn : headN nameB (c :: r) ≤ 16) : oneT c r = (1, bs ((c :: r).take (headN nameB (c :: r))), 0, 0, 0, (headN nameB (c :: r) : Int)) := by
  apply oneT_of; unfold oneL; rw [if_pos h, if_pos hn]
theorem one_name_no (c : UInt8) (r : List UInt8) (h : smallB c = true) (hn : ¬ headN nameB (c :: r) ≤ 16) : oneT c r = zeroT := by
  apply oneT_of; unfold oneL; rw [if_pos h, if_neg hn]
/-- The number that digits spell. -/
def dg (l : List UInt8) : Nat := l.foldl (fun a c => a * 10 + (c.toNat - 48)) 0
theorem dg_snoc (l : List UInt8) (c : UInt8) : dg (l ++ [c]) = dg l * 10 + (c.toNat - 48) := by simp [dg]
theorem dg_lt : ∀ (n : Nat) (l : List UInt8), l.length ≤ n → (∀ c ∈ l, digitB c = true) → dg l < 10 ^ n
  | n, [], _, _ => by simp [dg]; exact Nat.pow_pos (by decide)
  | 0, c :: l, h, _ => by simp at h
  | n + 1, c :: l, h, hd => by
    rcases List.eq_nil_or_concat (c :: l) with e | ⟨m, x, e⟩
    · simp at e
    · rw [List.concat_eq_append] at e
      rw [e, dg_snoc]
      rw [e] at h hd
      have := dg_lt n m (by simp at h; omega) (fun y hy => hd y (by simp [hy]))
      have hx := hd x (by simp)
      simp only [digitB, Bool.and_eq_true, decide_eq_true_eq] at hx
      rw [Nat.pow_succ]
      omega
theorem one_num (c : UInt8) (r : List UInt8) (h : smallB c = false) (h2 : digitB c = true) (hn : headN digitB (c :: r) = 1 ∨ (headN digitB (c :: r) ≤ 9 ∧ c ≠ 48)) : oneT c r = (2, ⟨#[]⟩, (dg ((c :: r).take (headN digitB (c :: r))) : Int), 0, 0, (headN digitB (c :: r) : Int)) := by
  apply oneT_of; unfold oneL; rw [if_neg (by rw [h]; decide), if_pos h2, if_pos hn, atoi_digits c r h2]; rfl
theorem one_num_no (c : UInt8) (r : List UInt8) (h : smallB c = false) (h2 : digitB c = true) (hn : ¬ (headN digitB (c :: r) = 1 ∨ (headN digitB (c :: r) ≤ 9 ∧ c ≠ 48))) : oneT c r = zeroT := by
  apply oneT_of; unfold oneL; rw [if_neg (by rw [h]; decide), if_pos h2, if_neg hn]
theorem one_hash_yes (r : List UInt8) (v : Int) (hl : 16 < r.length + 1) (h : hexR (r.take 16) = (v, 0)) : oneT 35 r = (4, ⟨#[]⟩, 0, v, 0, 17) := by
  apply oneT_of; unfold oneL
  rw [if_neg (by decide), if_neg (by decide), if_neg (by decide), if_pos ⟨rfl, hl⟩, sum_parse_eq _ (by simp; omega), h]; rfl
theorem one_hash_bad (r : List UInt8) (v e : Int) (hl : 16 < r.length + 1) (h : hexR (r.take 16) = (v, e)) (he : e ≠ 0) : oneT 35 r = zeroT := by
  apply oneT_of; unfold oneL
  rw [if_neg (by decide), if_neg (by decide), if_neg (by decide), if_pos ⟨rfl, hl⟩, sum_parse_eq _ (by simp; omega), h, Option.bind_some, if_neg he]
theorem one_hash_short (r : List UInt8) (hl : ¬ 16 < r.length + 1) : oneT 35 r = zeroT := by
  apply oneT_of; unfold oneL
  rw [if_neg (by decide), if_neg (by decide), if_neg (by decide), if_neg (fun e => hl e.2), if_neg (by simp), if_neg (by decide)]
end Go.Proofs.YtfgfoofojofnmaaDoor.Q
