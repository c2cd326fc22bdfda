/- The parts of any lines are as the law says. -/
import Derived.Test.YtanfllomeheiiaaGreatDoorXB3
import Derived.Test.YtanfllomeheiiaaGreatDoorXA13
set_option linter.unusedVariables false
set_option linter.unusedSimpArgs false
namespace Go.Proofs.YtanfllomeheiiaaGreatDoor.X
open Go.XM
def Rng (l : List Ln) : Prop := ∀ x ∈ l, -9223372036854775808 ≤ x.n ∧ x.n ≤ 9223372036854775807
theorem fl_iff {x y : Ln} (hx : -9223372036854775808 ≤ x.n ∧ x.n ≤ 9223372036854775807) (hy : -9223372036854775808 ≤ y.n ∧ y.n ≤ 9223372036854775807) : fl x y = true ↔ flw x y := by
  unfold fl flw
  rw [decide_eq_true_eq]
  refine and_congr_right fun _ => and_congr_right fun _ => ⟨fun h => ?_, fun h => ?_⟩
  · have h1 := h.2
    rw [wrap_i64 (by omega) (by omega)] at h1
    exact ⟨by omega, by rw [wrap_i64 (by omega) (by omega)]; omega⟩
  · have h1 := h.2
    rw [wrap_i64 (by omega) (by omega)] at h1
    exact ⟨by omega, by rw [wrap_i64 (by omega) (by omega)]; omega⟩
theorem rng_at {l : List Ln} (h : Rng l) {i : Nat} (hi : i < l.length) : -9223372036854775808 ≤ (l.getD i zL).n ∧ (l.getD i zL).n ≤ 9223372036854775807 := by
  rw [List.getD_eq_getElem?_getD, List.getElem?_eq_getElem hi]
  exact h _ (List.getElem_mem hi)
theorem set_lt {P : List Pt} {i j : Nat} (h : j < P.length - 1) : (setTo P i).getD j zP = P.getD j zP := by
  unfold setTo
  rw [List.getD_eq_getElem?_getD, List.getElem?_append_left (by simp; omega), List.getElem?_take, if_pos (by omega), ← List.getD_eq_getElem?_getD]
theorem set_last {P : List Pt} {i : Nat} (h : P ≠ []) : (setTo P i).getD (P.length - 1) zP = ⟨(P.getD (P.length - 1) zP).a, i, (P.getD (P.length - 1) zP).l⟩ := by
  have h0 : 0 < P.length := List.length_pos_iff.2 h
  unfold setTo
  rw [List.getD_eq_getElem?_getD, List.getElem?_append_right (by simp)]
  have : P.length - 1 - (P.take (P.length - 1)).length = 0 := by simp
  rw [this]; rfl
theorem app_lt {P : List Pt} {x : Pt} {j : Nat} (h : j < P.length) : (P ++ [x]).getD j zP = P.getD j zP := by
  rw [List.getD_eq_getElem?_getD, List.getElem?_append_left h, ← List.getD_eq_getElem?_getD]
theorem app_last {P : List Pt} {x : Pt} : (P ++ [x]).getD P.length zP = x := by
  rw [List.getD_eq_getElem?_getD, List.getElem?_append_right (Nat.le_refl _), Nat.sub_self]; rfl
theorem atP_congr {P Q : List Pt} {j : Nat} (h : j ≠ 0 → Q.getD (j - 1) zP = P.getD (j - 1) zP) : atP Q j = atP P j := by
  unfold atP
  by_cases hj : j = 0
  · rw [if_pos hj, if_pos hj]
  · rw [if_neg hj, if_neg hj, h hj]
theorem atP_suc {P : List Pt} {j : Nat} (h : 0 < j) : atP P j = (P.getD (j - 1) zP).b + 1 := by
  unfold atP; rw [if_neg (by omega)]
theorem gd {l : List Ln} (hr : Rng l) : ∀ i, i ≤ l.length → Gd l i (pts l i)
  | 0, _ => ⟨fun j h => absurd h (Nat.not_lt_zero _), fun j h => absurd h (Nat.not_lt_zero _), fun j h => absurd h (Nat.not_lt_zero _), fun j h => absurd h (Nat.not_lt_zero _), fun j h => absurd h (Nat.not_lt_zero _), rfl⟩
  | i + 1, hi => by
    have g := gd hr i (by omega)
    by_cases h : pts l i ≠ [] ∧ flw (l.getD (i - 1) zL) (l.getD i zL)
    · rw [pts_set h.1 h.2]
      obtain ⟨hne, hf⟩ := h
      generalize pts l i = P at g hne ⊢
      have h0 : 0 < P.length := List.length_pos_iff.2 hne
      have hb : (P.getD (P.length - 1) zP).b + 1 = i := by rw [← atP_suc h0]; exact g.en
      have hle := g.le (P.length - 1) (by omega)
      have hat : ∀ j, j < P.length → atP (setTo P i) j = atP P j := fun j hj => atP_congr fun h => set_lt (by omega)
      refine ⟨fun j hj => ?_, fun j hj => ?_, fun j hj => ?_, fun j hj k h1 h2 => ?_, fun j hj => ?_, ?_⟩
      · rw [set_len hne] at hj
        rw [hat j hj]
        by_cases e : j = P.length - 1
        · subst e; rw [set_last hne]; exact g.st _ hj
        · rw [set_lt (by omega)]; exact g.st _ hj
      · rw [set_len hne] at hj
        by_cases e : j = P.length - 1
        · subst e; rw [set_last hne]; dsimp only; omega
        · rw [set_lt (by omega)]; have := g.le j hj; omega
      · rw [set_len hne] at hj
        by_cases e : j = P.length - 1
        · subst e; rw [set_last hne]; exact g.ln _ hj
        · rw [set_lt (by omega)]; exact g.ln _ hj
      · rw [set_len hne] at hj
        by_cases e : j = P.length - 1
        · subst e
          rw [set_last hne] at h1 h2
          dsimp only at h1 h2
          by_cases e2 : k = i - 1
          · subst e2
            rw [show i - 1 + 1 = i from by omega]
            exact (fl_iff (rng_at hr (by omega)) (rng_at hr (by omega))).2 hf
          · exact g.fo _ hj k h1 (by omega)
        · rw [set_lt (by omega)] at h1 h2; exact g.fo _ hj k h1 h2
      · rw [set_len hne] at hj
        rw [set_lt (by omega)]
        exact g.br j hj
      · rw [set_len hne, atP_suc h0, set_last hne]
    · have h' : pts l i = [] ∨ ¬ flw (l.getD (i - 1) zL) (l.getD i zL) := by
        by_cases e : pts l i = []
        · exact .inl e
        · exact .inr fun f => h ⟨e, f⟩
      rw [pts_app h']
      generalize pts l i = P at g h' ⊢
      have hlen : (P ++ [(⟨i, i, l.getD i zL⟩ : Pt)]).length = P.length + 1 := by simp
      have hat : ∀ j, j ≤ P.length → atP (P ++ [⟨i, i, l.getD i zL⟩]) j = atP P j := fun j hj => atP_congr fun h => app_lt (by omega)
      refine ⟨fun j hj => ?_, fun j hj => ?_, fun j hj => ?_, fun j hj k h1 h2 => ?_, fun j hj => ?_, ?_⟩
      · rw [hlen] at hj
        rw [hat j (by omega)]
        by_cases e : j = P.length
        · subst e; rw [app_last]; exact g.en.symm
        · rw [app_lt (by omega)]; exact g.st _ (by omega)
      · rw [hlen] at hj
        by_cases e : j = P.length
        · subst e; rw [app_last]; exact ⟨Nat.le_refl _, Nat.lt_succ_self _⟩
        · rw [app_lt (by omega)]; have := g.le j (by omega); omega
      · rw [hlen] at hj
        by_cases e : j = P.length
        · subst e; rw [app_last]
        · rw [app_lt (by omega)]; exact g.ln _ (by omega)
      · rw [hlen] at hj
        by_cases e : j = P.length
        · subst e; rw [app_last] at h1 h2; dsimp only at h1 h2; omega
        · rw [app_lt (by omega)] at h1 h2; exact g.fo _ (by omega) k h1 h2
      · rw [hlen] at hj
        rw [app_lt (by omega)]
        by_cases e : j + 1 = P.length
        · have hb : (P.getD j zP).b + 1 = i := by
            have := atP_suc (P := P) (j := P.length) (by omega)
            rw [g.en, show P.length - 1 = j from by omega] at this
            omega
          have hj2 := g.le j (by omega)
          rw [hb, show (P.getD j zP).b = i - 1 from by omega]
          have hnf : ¬ flw (l.getD (i - 1) zL) (l.getD i zL) := h'.elim (fun e2 => by rw [e2] at e; cases e) id
          cases hc : fl (l.getD (i - 1) zL) (l.getD i zL) with
          | false => rfl
          | true => exact absurd ((fl_iff (rng_at hr (by omega)) (rng_at hr (by omega))).1 hc) hnf
        · exact g.br j (by omega)
      · rw [hlen, atP_suc (by omega), Nat.add_sub_cancel, app_last]
end Go.Proofs.YtanfllomeheiiaaGreatDoor.X
namespace Go.Proofs.YtanfllomeheiiaaGreatDoor.X
open Go.XM
theorem blame_is (l : List Ln) (hl : l.length ≤ 1000000000) (hr : Rng l) : LSpec Tryz.prog 3 [dL l] [] (fun v _ => v = av (.bool true)) :=
  blame_v (ExtOk.cons (sAwake_ok is4 awake_is) (ExtOk.cons sParts_ok (ExtOk.cons sFollows_ok ExtOk.nil))) l hl (gd hr _ (Nat.le_refl _))
end Go.Proofs.YtanfllomeheiiaaGreatDoor.X
