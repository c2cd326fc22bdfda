/- Plain laws for the document's cutting of a text (the tokens one by one), over the contracts of the program's. No program's walk stands here. -/
import Derived.Laws.BitsLemmas
import Derived.Test.YtfgfoofojofnmaaDoorG6
import Derived.Test.YtfgfoofojofnmaaDoorGQF15
import Derived.Test.YtfgfoofojofnmaaDoorG16
set_option linter.unusedVariables false
set_option linter.unusedSimpArgs false
namespace Go.Proofs.YtfgfoofojofnmaaDoor.Q
open Go.RowKit Go.Proofs.YtfgfoofojofnmaaDoorW.PrintWords Go.Proofs.YtfgfoofojofnmaaDoorW.PrintLast Go.Proofs.YtfgfoofojofnmaaDoorW.PrintMore
open Go.Proofs.YtfgfoofojofnmaaDoor.Hand
set_option linter.unusedVariables false
set_option linter.unusedSimpArgs false
theorem ref_digit (j : Nat) (hj : j < 16) : forebearref01_digit.f (j : Int) = some (((if j < 10 then 48 + j else 87 + j : Nat) : Int)) := by
  unfold forebearref01_digit.f
  by_cases h : j < 10
  · rw [if_pos (by omega), if_pos h, wu64]
    congr 1
    omega
  · rw [if_neg (by omega), if_neg h, wu64]
    congr 1
    omega
/-- The digit of a byte among the first j; 16: none. -/
def hexJ (c j : Nat) : Nat := match hexD c with
  | some d => if d < j then d else 16
  | none => 16
theorem hexJ_step (c j : Nat) (hj : j < 16) : hexJ c (j + 1) = if (if j < 10 then 48 + j else 87 + j) = c then j else hexJ c j := by
  unfold hexJ hexD
  by_cases h1 : 48 ≤ c ∧ c ≤ 57
  · rw [if_pos h1]
    simp only
    split <;> split <;> split <;> first | omega | (split <;> omega)
  · rw [if_neg h1]
    by_cases h2 : 97 ≤ c ∧ c ≤ 102
    · rw [if_pos h2]
      simp only
      split <;> split <;> split <;> first | omega | (split <;> omega)
    · rw [if_neg h2]
      simp only
      split <;> split <;> omega
theorem ref_search (l : List UInt8) (hl : l.length = 16) (i : Nat) (hi : i < 16) (v : Int) (m : Nat) : ∀ (k j : Nat), 16 - j = m → j ≤ 16 →
    forebearref01_Parse.l1 (k + m) (bs l) v (i : Int) (hexJ (l[i]'(by omega)).toNat j : Nat) (j : Int) = forebearref01_Parse.l1 k (bs l) v (i : Int) (hexJ (l[i]'(by omega)).toNat 16 : Nat) 16 := by
  induction m with
  | zero =>
    intro k j hm hj
    obtain rfl : j = 16 := by omega
    rfl
  | succ m ih =>
    intro k j hm hj
    have e1 : Hid (IntKind.u64.wrap ((j : Int) + 1) = ((j + 1 : Nat) : Int)) := Lib.hid (by rw [wu64]; omega)
    have hb := bt_at' l i (by omega)
    have hs := hexJ_step (l[i]'(by omega)).toNat j (by omega)
    rw [show k + (m + 1) = (k + m) + 1 by omega]
    rw [forebearref01_Parse.l1, if_pos (by omega), ref_digit j (by omega), Option.bind_some, if_pos (by omega), if_pos (by rw [bs_size]; omega), hb, e1.out]
    generalize (l[i]'(by omega)).toNat = c at *
    by_cases hc : (if j < 10 then 48 + j else 87 + j) = c
    · rw [if_pos (by omega)]
      rw [if_pos hc] at hs
      rw [← ih k (j + 1) (by omega) (by omega), hs]
    · rw [if_neg (by omega)]
      rw [if_neg hc] at hs
      rw [← ih k (j + 1) (by omega) (by omega), hs]
theorem hexJ_all (c : Nat) : (hexD c = none ∧ hexJ c 16 = 16) ∨ (∃ d, hexD c = some d ∧ d < 16 ∧ hexJ c 16 = d) := by
  unfold hexJ hexD
  by_cases h1 : 48 ≤ c ∧ c ≤ 57
  · rw [if_pos h1]
    exact .inr ⟨c - 48, rfl, by omega, by simp only; rw [if_pos (by omega)]⟩
  · rw [if_neg h1]
    by_cases h2 : 97 ≤ c ∧ c ≤ 102
    · rw [if_pos h2]
      exact .inr ⟨c - 87, rfl, by omega, by simp only; rw [if_pos (by omega)]⟩
    · rw [if_neg h2]
      exact .inl ⟨rfl, rfl⟩
theorem ref_parse_loop (l : List UInt8) (hl : l.length = 16) (d : Nat) : ∀ (k i v : Nat), i ≤ 16 → 16 - i = d → v < 18446744073709551616 →
    forebearref01_Parse.l0 (k + 18 * d + 1) (bs l) (v : Int) (i : Int) = some (match hexF (l.drop i) v with | some v => ((v : Int), 0) | none => (0, 9)) := by
  induction d with
  | zero =>
    intro k i v hi hd hv
    rw [forebearref01_Parse.l0, if_neg (by omega), List.drop_eq_nil_of_le (by omega)]
    rfl
  | succ d ih =>
    intro k i v hi hd hv
    have hlt : i < l.length := by omega
    have e1 : Hid (wrap64 ((i : Int) + 1) = ((i + 1 : Nat) : Int)) := Lib.hid (by rw [w64 (by omega) (by omega)]; omega)
    have hdr : l.drop i = l[i] :: l.drop (i + 1) := List.drop_eq_getElem_cons hlt
    have hs := ref_search l hl i (by omega) (v : Int) 16 (k + 18 * d + 1 + 1) 0 rfl (by omega)
    have h0 : hexJ (l[i]'hlt).toNat 0 = 16 := by unfold hexJ; split <;> rfl
    rw [h0] at hs
    rw [show k + 18 * (d + 1) + 1 = (k + 18 * d + 1 + 1 + 16) + 1 by omega, forebearref01_Parse.l0, if_pos (by omega)]
    rw [show ((16 : Nat) : Int) = 16 from rfl, show ((0 : Nat) : Int) = 0 from rfl] at hs
    rw [hs, forebearref01_Parse.l1, if_neg (by omega), hdr]
    simp only [hexF]
    rcases hexJ_all (l[i]'hlt).toNat with ⟨ed, ej⟩ | ⟨x, ed, hx, ej⟩
    · rw [ej, ed, if_pos (show ((16 : Nat) : Int) = 16 from rfl), Option.bind_none]
    · rw [ej, ed, if_neg (by omega), Option.bind_some, e1.out, ← ih k (i + 1) _ (by omega) (by omega) (Nat.mod_lt _ (by decide))]
      congr 1
      rw [wu64, wu64]
      omega
theorem ref_parse_eq (l : List UInt8) (hl : l.length = 16) : forebearref01_Parse.f 300 (bs l) = some (hexR l) := by
  unfold forebearref01_Parse.f
  rw [if_pos (by rw [bs_size]; omega)]
  exact ref_parse_loop l hl 16 11 0 0 (by omega) (by omega) (by omega)
/-! ### the signs -/
def signL : List (List UInt8) := [[40], [41], [44], [124], [38], [45], [33], [94], [46, 46], [58, 58]]
def sgAt (l : List UInt8) (j : Nat) : Option (List UInt8) := (signL.take j).foldl (fun acc x => if x.isPrefixOf l then some x else acc) none
theorem sgAt_succ (l : List UInt8) (j : Nat) (h : j < 10) : sgAt l (j + 1) = if (signL.getD j []).isPrefixOf l then some (signL.getD j []) else sgAt l j := by
  unfold sgAt
  have hl : j < signL.length := h
  rw [List.take_succ_eq_append_getElem hl, List.foldl_append]
  simp [List.getD_eq_getElem?_getD, hl]
theorem sg_all (c : UInt8) (r : List UInt8) (h1 : ¬ smallB c = true) (h2 : ¬ digitB c = true) (h3 : c ≠ 39) (h4 : c ≠ 35) :
    (∃ x, sgAt (c :: r) 10 = some x ∧ x ≠ [] ∧ oneT c r = (5, bs x, 0, 0, 0, (x.length : Int))) ∨ (sgAt (c :: r) 10 = none ∧ oneT c r = zeroT) := by
  have E : oneL c r = if (c :: r).take 2 = [46, 46] ∨ (c :: r).take 2 = [58, 58] then some (5, bs ((c :: r).take 2), 0, 0, 0, 2) else if signB c = true then some (5, bs [c], 0, 0, 0, 1) else some zeroT := by
    unfold oneL
    rw [if_neg h1, if_neg h2, if_neg h3, if_neg (fun e => h4 e.1)]
  have T : ∀ t : Tk, oneL c r = some t → oneT c r = t := fun t h => by rw [oneT, h]; rfl
  have P2 : ∀ a : UInt8, [a, a].isPrefixOf (c :: r) = decide ((c :: r).take 2 = [a, a]) := by
    intro a
    rw [Bool.eq_iff_iff, decide_eq_true_iff, List.isPrefixOf_iff_prefix, List.prefix_iff_eq_take]
    exact eq_comm
  by_cases hd : (c :: r).take 2 = [46, 46]
  · left
    have hc : c = 46 := by simpa using congrArg List.head? hd
    refine ⟨[46, 46], ?_, by decide, T _ (by rw [E, if_pos (Or.inl hd), hd]; rfl)⟩
    have p1 := P2 46
    have p2 := P2 58
    rw [hd] at p1 p2
    simp only [sgAt, signL, List.take, List.foldl, p1, p2]
    subst hc
    simp [List.isPrefixOf]
  · by_cases hcc : (c :: r).take 2 = [58, 58]
    · left
      have hc : c = 58 := by simpa using congrArg List.head? hcc
      refine ⟨[58, 58], ?_, by decide, T _ (by rw [E, if_pos (Or.inr hcc), hcc]; rfl)⟩
      have p1 := P2 46
      have p2 := P2 58
      rw [hcc] at p1 p2
      simp only [sgAt, signL, List.take, List.foldl, p1, p2]
      subst hc
      simp [List.isPrefixOf]
    · have E2 : oneL c r = if signB c = true then some (5, bs [c], 0, 0, 0, 1) else some zeroT := by
        rw [E, if_neg (fun e => e.elim hd hcc)]
      have p1 : [46, 46].isPrefixOf (c :: r) = false := by rw [P2 46]; exact decide_eq_false hd
      have p2 : [58, 58].isPrefixOf (c :: r) = false := by rw [P2 58]; exact decide_eq_false hcc
      have S : sgAt (c :: r) 10 = if signB c = true then some [c] else none := by
        simp only [sgAt, signL, List.take, List.foldl, p1, p2]
        simp only [List.isPrefixOf, Bool.and_true]
        unfold signB
        by_cases a1 : c = 40
        · subst a1; decide
        · by_cases a2 : c = 41
          · subst a2; decide
          · by_cases a3 : c = 44
            · subst a3; decide
            · by_cases a4 : c = 124
              · subst a4; decide
              · by_cases a5 : c = 38
                · subst a5; decide
                · by_cases a6 : c = 45
                  · subst a6; decide
                  · by_cases a7 : c = 33
                    · subst a7; decide
                    · by_cases a8 : c = 94
                      · subst a8; decide
                      · have n : ∀ d : UInt8, c ≠ d → (d == c) = false := fun d h => beq_eq_false_iff_ne.2 (Ne.symm h)
                        simp [n 40 a1, n 41 a2, n 44 a3, n 124 a4, n 38 a5, n 45 a6, n 33 a7, n 94 a8, Lib.indexByte]
      by_cases hs : signB c = true
      · left
        exact ⟨[c], by rw [S, if_pos hs], by simp, T _ (by rw [E2, if_pos hs]; rfl)⟩
      · right
        exact ⟨by rw [S, if_neg hs], T _ (by rw [E2, if_neg hs])⟩
/-- A token, as the document has it. -/
def cv (t : S39) : S78 := ⟨t.f0, t.f1, t.f2, t.f3, t.f4⟩
end Go.Proofs.YtfgfoofojofnmaaDoor.Q
