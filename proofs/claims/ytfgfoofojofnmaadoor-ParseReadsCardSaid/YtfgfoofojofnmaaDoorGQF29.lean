import Derived.Test.YtfgfoofojofnmaaDoorGQ0
import Derived.Test.YtfgfoofojofnmaaDoorGP9
set_option linter.unusedVariables false
set_option linter.unusedSimpArgs false
-- Written by a program of this session's (wip/tools/hprint.py, over the kit's print.py). Not trusted: Lean checks it.
namespace Go.Proofs.YtfgfoofojofnmaaDoor.Q
open Go.RowKit Go.Proofs.YtfgfoofojofnmaaDoorW.PrintWords Go.Proofs.YtfgfoofojofnmaaDoorW.PrintLast Go.Proofs.YtfgfoofojofnmaaDoorW.PrintMore
attribute [local go_sem] Go.Proofs.YtfgfoofojofnmaaDoor.Hand.w64_mod256 Go.Proofs.YtfgfoofojofnmaaDoor.Hand.w64_mod32 max2_int min2_int max_two min_two max_three min_three max_four min_four   -- for this text's walks alone
set_option linter.unusedVariables false
set_option linter.unusedSimpArgs false

/-! ### parse_Show: function 29 -/
open Go.Proofs.YtfgfoofojofnmaaDoor.Hand
mutual
/-- A tree without hashes and without great numbers. -/
def okB : S44 → Bool
  | ⟨op, s, n, id, ks, _⟩ => (op != 2) && (!(op == 3 || (op == 12 && n != 0)) || (decide (0 ≤ n) && decide (n < 100))) && decide (s.size ≤ 1048576) && decide ((showB op s n id (showM ks)).size ≤ 1000000000) && okBM ks
def okBM : List S44 → Bool
  | [] => true
  | k :: ks => okB k && okBM ks
end
mutual
theorem okB_ok : ∀ x : S44, okB x = true → okT (fun n => 0 ≤ n ∧ n < 100) (fun _ => False) 1000000000 x
  | ⟨op, s, n, id, ks, e⟩, h => by
    rw [okB] at h
    simp only [Bool.and_eq_true, Bool.or_eq_true, Bool.not_eq_true', Bool.or_eq_false_iff, Bool.and_eq_false_iff, bne_iff_ne, beq_eq_false_iff_ne, decide_eq_true_eq] at h
    obtain ⟨⟨⟨⟨h1, h2⟩, h3⟩, h4⟩, h5⟩ := h
    rw [okT]
    refine ⟨fun e => absurd e h1, fun e => ?_, h3, h4, okBM_ok ks h5⟩
    rcases h2 with ⟨h2, h2'⟩ | h2
    · rcases e with e | ⟨e, e'⟩
      · exact absurd e h2
      · rcases h2' with h2' | h2'
        · exact absurd e h2'
        · simp at h2'; exact absurd h2' e'
    · exact h2
theorem okBM_ok : ∀ ks : List S44, okBM ks = true → okM (fun n => 0 ≤ n ∧ n < 100) (fun _ => False) 1000000000 ks
  | [], _ => by rw [okM]; trivial
  | k :: ks, h => by
    rw [okBM, Bool.and_eq_true] at h
    rw [okM]
    exact ⟨okB_ok k h.1, okBM_ok ks h.2⟩
end
theorem show_small : ShowEnv (fun _ => True) (fun n => 0 ≤ n ∧ n < 100) (fun _ => False) where
  below := fun _ _ _ _ => trivial
  itoa := fun W n _ hn => by
    have e1 : ((n.toNat : Nat) : Int) = n := Int.toNat_of_nonneg hn.1
    have C := Tryd.strconv_Itoa_small n.toNat (by omega) W
    rw [e1] at C
    refine C.mono ?_
    rintro e w' ⟨rfl, rfl⟩
    exact ⟨rfl, Below.refl _ _⟩
  itoaS := fun n hn => by
    have h : ∀ m : Nat, m < 100 → (itoaT (m : Int)).size ≤ 100 := by decide +kernel
    have := h n.toNat (by omega)
    rwa [Int.toNat_of_nonneg hn.1] at this
  hash := fun _ _ _ _ h => h.elim
def parse_Show.f (a : Int) (b : ByteArray) (c d : Int) (l : List (S44)) (e : Int) : Option ByteArray := if wt ⟨a, b, c, d, l, e⟩ ≤ 1000000 ∧ okB ⟨a, b, c, d, l, e⟩ = true then some (showT ⟨a, b, c, d, l, e⟩) else none
theorem parse_Show.calls (a0_0 : Int) (a0_1 : ByteArray) (a0_2 : Int) (a0_3 : Int) (A0_4 : Option Addr) (c0_4 : Nat) (l0_4 : List (S44)) (a0_5 : Int) (r : ByteArray) (w : World) (hr0_4 : Kd.C k44 w A0_4 l0_4.length l0_4) (hc0_4 : l0_4.length ≤ c0_4) (h : parse_Show.f a0_0 a0_1 a0_2 a0_3 l0_4 a0_5 = some r) :
    Calls Tryd.prog 29 #[.agg #[.int .i64 a0_0, .string a0_1, .int .i64 a0_2, .int .u64 a0_3, .slice A0_4 l0_4.length c0_4, .int .i64 a0_5]] w fun e w' => e = .returned (.string r) ∧ Below w.heap.size w w' := by
  unfold parse_Show.f at h
  by_cases hw : wt ⟨a0_0, a0_1, a0_2, a0_3, l0_4, a0_5⟩ ≤ 1000000 ∧ okB ⟨a0_0, a0_1, a0_2, a0_3, l0_4, a0_5⟩ = true
  · rw [if_pos hw] at h
    obtain rfl := Option.some.inj h
    exact show_walk show_small 1000000000 (Nat.le_refl _) 1000000 (Nat.le_refl _) ⟨a0_0, a0_1, a0_2, a0_3, l0_4, a0_5⟩ A0_4 c0_4 w hw.1 trivial (okB_ok _ hw.2) hr0_4 hc0_4
  · rw [if_neg hw] at h
    exact absurd h (by simp)

end Go.Proofs.YtfgfoofojofnmaaDoor.Q
