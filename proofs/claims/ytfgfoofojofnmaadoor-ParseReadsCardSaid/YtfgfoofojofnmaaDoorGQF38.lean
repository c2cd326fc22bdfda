import Derived.Test.YtfgfoofojofnmaaDoorGQ0
import Derived.Test.YtfgfoofojofnmaaDoorGQF67
import Derived.Test.YtfgfoofojofnmaaDoorGQF91
import Derived.Test.YtfgfoofojofnmaaDoorGQF74
set_option linter.unusedVariables false
set_option linter.unusedSimpArgs false
-- Written by a program of this session's (wip/tools/hprint.py, over the kit's print.py). Not trusted: Lean checks it.
namespace Go.Proofs.YtfgfoofojofnmaaDoor.Q
open Go.RowKit Go.Proofs.YtfgfoofojofnmaaDoorW.PrintWords Go.Proofs.YtfgfoofojofnmaaDoorW.PrintLast Go.Proofs.YtfgfoofojofnmaaDoorW.PrintMore
attribute [local go_sem] Go.Proofs.YtfgfoofojofnmaaDoor.Hand.w64_mod256 Go.Proofs.YtfgfoofojofnmaaDoor.Hand.w64_mod32 max2_int min2_int max_two min_two max_three min_three max_four min_four   -- for this text's walks alone
set_option linter.unusedVariables false
set_option linter.unusedSimpArgs false

/-! ### lex_one: function 38 -/
open Go.Proofs.YtfgfoofojofnmaaDoor.Hand
theorem pre_head (s : ByteArray) (a b : UInt8) (h2 : 2 ≤ s.size) (e : (s.extract 0 2).toList = [a, b]) : s[0] = a := by
  have h : (s.extract 0 2).data.toList = [a, b] := by rw [← e]; exact (ByteArray.toList_eq _).symm
  have h1 : (s.extract 0 2).data.toList[0]? = some a := by rw [h]; rfl
  rw [ByteArray.data_extract] at h1
  simp only [Array.getElem?_toList, Array.getElem?_extract] at h1
  have h3 : s.data[0]? = some a := by
    have h5 : 0 < min 2 s.size ∧ s.data[0]? = some a := by simpa using h1
    exact h5.2
  have h4 : s.data[0]? = some s[0] := by rw [Array.getElem?_eq_getElem (by have : s.data.size = s.size := rfl; omega)]; rfl
  exact Option.some.inj (h4.symm.trans h3)
theorem pre_first (s : ByteArray) (a b : UInt8) (x : Bool) (h : strings_HasPrefix.f s ⟨#[a, b]⟩ = some x) (h0 : 0 < s.size) (hx : x = true) : s[0] = a := by
  subst hx
  have h2 := pre_two s a b h
  simp only [strings_HasPrefix.f, stringslite_HasPrefix.f] at h
  rw [if_pos (by show (s.size : Int) ≥ 2; omega), if_pos (by show (0 : Int) ≤ 2; decide), if_pos (by show (2 : Int) ≤ (s.size : Int); omega)] at h
  simp only [Option.bind_some, Option.some.injEq, beq_iff_eq] at h
  have e : (s.extract 0 2).toList = [a, b] := h.trans ((ByteArray.toList_eq _).trans rfl)
  have := pre_head s a b h2 e
  exact this

set_option maxHeartbeats 1000000 in
theorem lex_one.calls (a0 : ByteArray) (r1 : Int) (r2 : ByteArray) (r3 : Int) (r4 : Int) (r5 : Int) (r6 : Int) (w : World) (h : lex_one.f a0 = some (r1, r2, r3, r4, r5, r6)) :
    Calls Tryd.prog 38 #[.string a0] w fun e w' => e = .returned (.tuple #[.agg #[.int .i64 r1, .string r2, .int .i64 r3, .int .u64 r4, .int .i64 r5], .int .i64 r6]) ∧ Below w.heap.size w w' := by
  unfold lex_one.f at h
  by_cases hs : a0.size ≤ 140737488351232
  · rw [if_pos hs] at h
    by_cases h0 : 0 < a0.size
    · rw [dif_pos h0] at h
      unfold lex_one.g at h
      by_cases hc : smallB a0[0] = true
      · rw [if_pos hc] at h
        by_cases hn : headN nameB a0.data.toList ≤ 16
        · rw [if_pos hn] at h
          simp only [Option.some.injEq, Prod.mk.injEq] at h
          obtain ⟨rfl, rfl, rfl, rfl, rfl, rfl⟩ := h
          exact one_small a0 w hs h0 hc hn
        · rw [if_neg hn] at h
          simp only [Option.some.injEq, Prod.mk.injEq] at h
          obtain ⟨rfl, rfl, rfl, rfl, rfl, rfl⟩ := h
          exact one_small_no a0 w hs h0 hc hn
      · rw [if_neg hc] at h
        replace hc : smallB a0[0] = false := by simpa using hc
        by_cases hd : digitB a0[0] = true
        · rw [if_pos hd] at h
          by_cases hn : headN digitB a0.data.toList = 1 ∨ (headN digitB a0.data.toList ≤ 9 ∧ a0[0] ≠ 48)
          · rw [if_pos hn] at h
            obtain ⟨v, hv, h⟩ := Option.bind_eq_some_iff.mp h
            simp only [Option.some.injEq, Prod.mk.injEq] at h
            obtain ⟨rfl, rfl, rfl, rfl, rfl, rfl⟩ := h
            by_cases hn1 : headN digitB a0.data.toList = 1
            · exact one_digit1 a0 w hs h0 hc hd hn1 v hv
            · rcases hn with hn | ⟨hn9, hc0⟩
              · exact absurd hn hn1
              · exact one_digit9 a0 w hs h0 hc hd hn1 hn9 hc0 v hv
          · rw [if_neg hn] at h
            simp only [Option.some.injEq, Prod.mk.injEq] at h
            obtain ⟨rfl, rfl, rfl, rfl, rfl, rfl⟩ := h
            by_cases hn9 : headN digitB a0.data.toList ≤ 9
            · have hc0 : a0[0] = 48 := by
                by_cases e : a0[0] = 48
                · exact e
                · exact absurd (Or.inr ⟨hn9, e⟩) hn
              exact one_digit_zero a0 w hs h0 hc hd (fun e => hn (Or.inl e)) hn9 hc0
            · exact one_digit_long a0 w hs h0 hc hd hn9
        · rw [if_neg hd] at h
          replace hd : digitB a0[0] = false := by simpa using hd
          by_cases hq : a0[0] = 39
          · rw [if_pos hq] at h
            by_cases hk : 0 ≤ Lib.indexByte (a0.extract 1 a0.size).data.toList 39
            · rw [if_pos hk] at h
              by_cases hl : 0 ≤ Lib.indexByte ((a0.extract 1 a0.size).extract 0 (Lib.indexByte (a0.extract 1 a0.size).data.toList 39).toNat).data.toList 10
              · rw [if_pos hl] at h
                simp only [Option.some.injEq, Prod.mk.injEq] at h
                obtain ⟨rfl, rfl, rfl, rfl, rfl, rfl⟩ := h
                exact one_quote_line a0 w hs h0 hc hd hq hk hl
              · rw [if_neg hl] at h
                simp only [Option.some.injEq, Prod.mk.injEq] at h
                obtain ⟨rfl, rfl, rfl, rfl, rfl, rfl⟩ := h
                exact one_quote a0 w hs h0 hc hd hq hk hl
            · rw [if_neg hk] at h
              simp only [Option.some.injEq, Prod.mk.injEq] at h
              obtain ⟨rfl, rfl, rfl, rfl, rfl, rfl⟩ := h
              exact one_quote_no a0 w hs h0 hc hd hq hk
          · rw [if_neg hq] at h
            by_cases hh : a0[0] = 35 ∧ 16 < a0.size
            · rw [if_pos hh] at h
              obtain ⟨⟨v, e_⟩, hp, h⟩ := Option.bind_eq_some_iff.mp h
              by_cases he : e_ = 0
              · rw [if_pos he] at h
                simp only [Option.some.injEq, Prod.mk.injEq] at h
                obtain ⟨rfl, rfl, rfl, rfl, rfl, rfl⟩ := h
                exact one_hash a0 w hs h0 hc hd hh.1 hh.2 v e_ hp he
              · rw [if_neg he] at h
                simp only [Option.some.injEq, Prod.mk.injEq] at h
                obtain ⟨rfl, rfl, rfl, rfl, rfl, rfl⟩ := h
                exact one_hash_no a0 w hs h0 hc hd hh.1 hh.2 v e_ hp he
            · rw [if_neg hh] at h
              obtain ⟨x, hx, h⟩ := Option.bind_eq_some_iff.mp h
              by_cases hm : a0[0] = 35
              · have hl : ¬ 16 < a0.size := fun e => hh ⟨hm, e⟩
                have px := pre_first a0 46 46 x hx h0
                have ex : x = false := by cases x with | false => rfl | true => exact absurd (px rfl) (by rw [hm]; exact (by decide : ¬ (35 : UInt8) = 46))
                subst ex
                rw [if_neg (by decide)] at h
                obtain ⟨y, hy, h⟩ := Option.bind_eq_some_iff.mp h
                have py := pre_first a0 58 58 y hy h0
                have ey : y = false := by cases y with | false => rfl | true => exact absurd (py rfl) (by rw [hm]; exact (by decide : ¬ (35 : UInt8) = 58))
                subst ey
                rw [if_neg (by decide)] at h
                have hz : signB a0[0] = false := by rw [hm]; exact (by decide : signB 35 = false)
                rw [if_neg (by rw [hz]; decide)] at h
                simp only [Option.some.injEq, Prod.mk.injEq] at h
                obtain ⟨rfl, rfl, rfl, rfl, rfl, rfl⟩ := h
                exact one_nonem a0 w hs h0 hc hd hq hm hl hx hy hz
              · cases x with
                | true =>
                  rw [if_pos rfl] at h
                  simp only [Option.some.injEq, Prod.mk.injEq] at h
                  obtain ⟨rfl, rfl, rfl, rfl, rfl, rfl⟩ := h
                  exact one_dots a0 w hs h0 hc hd hq hm hx
                | false =>
                  rw [if_neg (by decide)] at h
                  obtain ⟨y, hy, h⟩ := Option.bind_eq_some_iff.mp h
                  cases y with
                  | true =>
                    rw [if_pos rfl] at h
                    simp only [Option.some.injEq, Prod.mk.injEq] at h
                    obtain ⟨rfl, rfl, rfl, rfl, rfl, rfl⟩ := h
                    exact one_colons a0 w hs h0 hc hd hq hm hx hy
                  | false =>
                    rw [if_neg (by decide)] at h
                    by_cases hz : signB a0[0] = true
                    · rw [if_pos hz] at h
                      simp only [Option.some.injEq, Prod.mk.injEq] at h
                      obtain ⟨rfl, rfl, rfl, rfl, rfl, rfl⟩ := h
                      exact one_sign a0 w hs h0 hc hd hq hm hx hy hz
                    · rw [if_neg hz] at h
                      simp only [Option.some.injEq, Prod.mk.injEq] at h
                      obtain ⟨rfl, rfl, rfl, rfl, rfl, rfl⟩ := h
                      exact one_none a0 w hs h0 hc hd hq hm hx hy (by simpa using hz)
    · rw [dif_neg h0] at h
      exact absurd h (by simp)
  · rw [if_neg hs] at h
    exact absurd h (by simp)

end Go.Proofs.YtfgfoofojofnmaaDoor.Q
