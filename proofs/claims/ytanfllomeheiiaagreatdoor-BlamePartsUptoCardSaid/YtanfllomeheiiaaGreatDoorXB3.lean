/- BlameParts, by the abstract machine. -/
import Derived.Test.YtanfllomeheiiaaGreatDoorXB2
set_option linter.unusedVariables false
set_option linter.unusedSimpArgs false
namespace Go.Proofs.YtanfllomeheiiaaGreatDoor.X
open Go.XM
def atP (P : List Pt) (j : Nat) : Nat := if j = 0 then 0 else (P.getD (j - 1) zP).b + 1
structure Gd (l : List Ln) (i : Nat) (P : List Pt) : Prop where
  st : ∀ j, j < P.length → (P.getD j zP).a = atP P j
  le : ∀ j, j < P.length → (P.getD j zP).a ≤ (P.getD j zP).b ∧ (P.getD j zP).b < i
  ln : ∀ j, j < P.length → (P.getD j zP).l = l.getD (P.getD j zP).a zL
  fo : ∀ j, j < P.length → ∀ k, (P.getD j zP).a ≤ k → k < (P.getD j zP).b → fl (l.getD k zL) (l.getD (k + 1) zL) = true
  br : ∀ j, j + 1 < P.length → fl (l.getD (P.getD j zP).b zL) (l.getD ((P.getD j zP).b + 1) zL) = false
  en : atP P P.length = i
def dIn (l : List Ln) : D := .vs false l.length 3 (rowC encL zL l)
theorem eqU_refl (l : List UInt8) : eqU l l = true := by rw [eqU_eq]; simp
set_option maxRecDepth 100000 in
set_option maxHeartbeats 8000000 in
theorem blame_v (F : FnsOk Tryz.prog ⟨Tr.fn 10 ttx, get [(4, sAwake), (5, sParts), (6, sFollows)], [12, 14], Tryz.f3.ntmps, false⟩) (l : List Ln) (hl : l.length ≤ 1000000000) (hg : Gd l l.length (pts l l.length)) :
    LSpec Tryz.prog 3 [dL l] [] (fun v _ => v = av (.bool true)) := by
  refine LSpec.intro (E := ⟨Tr.fn 10 ttx, get [(4, sAwake), (5, sParts), (6, sFollows)], [12, 14], Tryz.f3.ntmps, false⟩) ttx_ok F mixed Tryz.func3 rfl rfl ?_
  unfold dL
  have hp := pts_len l l.length
  (repeat' (first | refine Chk.mk ?_ ?_ | (refine Br.id ?_; first | refine Br.kt (by with_reducible first | rfl | assumption) ?_ | refine Br.kf (by with_reducible first | rfl | assumption) ?_ | refine Br.kf (show (!true) = false from rfl) ?_ | refine Br.kt (show (!false) = true from rfl) ?_ | refine Br.mk (fun h => ?_) (fun h => ?_)) | (refine (show (noInt _ _ _ && edgesOk _ _) = true from ?_); kernel_rfl)))
  · show l.length * 32 ≤ _
    omega
  refine Exists.intro l (Chk.mk ⟨rfl, fun _ _ _ _ => .refl _, hl⟩ ?_)
  generalize pts l l.length = P at hg hp ⊢
  refine Exists.intro (fun (m : Nat) (s : Slots) (h : Heap) => ∃ (i : Nat), s = [(0, .d (.vs false l.length 3 (rowC encL zL l))), (3, .d (.vs false l.length 3 (rowC encL zL l))), (4, .rs 1001 0 P.length), (5, av (.int .i64 (atP P i))), (6, av (.int .i64 i))] ∧ h = [(1001, .row P.length 5 (rowC encP zP P))] ∧ i ≤ P.length ∧ m = P.length - i) ?_
  refine And.intro ?_ (fun m s h hI => ?_)
  · refine ⟨_, _, _, ?_, 0, rfl, rfl, Nat.zero_le _, rfl⟩
    (refine Weak.of (sub 1001 16) ?_ ?_ (sub_inj rfl) ?_ <;> first | exact (fun _ h => absurd h List.not_mem_nil) | (repeat' (first | exact True.intro | refine And.intro (Exists.intro _ (And.intro rfl ?_)) ?_ | exact ORel.dead | refine ORel.cells ?_ | exact ORel.row rfl (fun _ _ _ _ => DR.refl _) | refine ORel.row rfl ?_ | refine ORel.row ?_ ?_ | (first | exact VR.eq rfl rfl | exact VR.pc rfl rfl | exact VR.pr rfl rfl | exact VR.mp rfl rfl | exact VR.rs rfl rfl rfl rfl | exact VR.nilv | exact VR.nilrs rfl | exact VR.nil | refine VR.agg ?_ | refine VR.tup ?_ | refine VR.cons ?_ ?_ | refine VR.eq (eqI ?_) rfl | refine VR.eq (eqB ?_) rfl | refine VR.eq (eqS ?_) rfl | refine VR.rs rfl rfl rfl ?_ | refine VR.dr (DR.vs (fun e => e) rfl ?_) | refine VR.dr (DR.vs (fun e => (by cases e)) rfl ?_) | refine VR.dr (DR.vs (fun e => e) ?_ ?_) | refine VR.dr (DR.vs (fun e => (by cases e)) ?_ ?_)))))
  · obtain ⟨i, rfl, rfl, hi, rfl⟩ := hI
    by_cases h1 : i < P.length
    · have b1 : decide ((i : Int) < (P.length : Int)) = true := decide_eq_true (by omega)
      have hst := hg.st i h1
      obtain ⟨hle, hlt⟩ := hg.le i h1
      have hln := hg.ln i h1
      have hfo := hg.fo i h1
      have hat : atP P (i + 1) = (P.getD i zP).b + 1 := by simp [atP]
      have hfl : (P.getD i zP).b + 1 < l.length → fl (l.getD (P.getD i zP).b zL) (l.getD ((P.getD i zP).b + 1) zL) = false := fun h => by
        by_cases h3 : i + 1 < P.length
        · exact hg.br i h3
        · have h4 := hg.en
          rw [show P.length = i + 1 from by omega, hat] at h4
          omega
      (repeat' (first | refine Chk.mk ?_ ?_ | (refine Br.id ?_; first | refine Br.kt (by with_reducible first | rfl | assumption) ?_ | refine Br.kf (by with_reducible first | rfl | assumption) ?_ | refine Br.kf (show (!true) = false from rfl) ?_ | refine Br.kt (show (!false) = true from rfl) ?_ | refine Br.mk (fun h => ?_) (fun h => ?_)) | (refine (show (noInt _ _ _ && edgesOk _ _) = true from ?_); kernel_rfl)))
      all_goals (try simp only [Int.toNat_natCast, Nat.zero_add, hln, eqU_refl, decide_true, Bool.and_true, Bool.not_true, Bool.and_self, bne_iff_ne, ne_eq, hst, not_true_eq_false] at *)
      all_goals (try simp only [decide_eq_true_eq, decide_eq_false_iff_not, beq_iff_eq, beq_eq_false_iff_ne, bne_iff_ne, ne_eq, Nat.zero_add, Nat.add_zero, Int.not_lt, Int.not_le, Bool.not_eq_true', Bool.not_eq_false', ge_iff_le, gt_iff_lt] at *)
      all_goals (try (first | omega | exact absurd ‹False› id | exact absurd ‹false = true› (by decide)))
      refine Exists.intro (fun (m : Nat) (s : Slots) (h : Heap) => ∃ (k : Nat), s = [(0, .d (.vs false l.length 3 (rowC encL zL l))), (3, .d (.vs false l.length 3 (rowC encL zL l))), (4, .rs 1001 0 P.length), (6, av (.int .i64 i)), (7, .pc 7 0), (8, av (.int .i64 k))] ∧ h = [(7, .cells [av (.int .i64 (atP P i)), av (.int .i64 (P.getD i zP).b), av (.int .u64 (l.getD (atP P i) zL).c), av (.string (l.getD (atP P i) zL).p), av (.int .i64 (l.getD (atP P i) zL).n)]), (1001, .row P.length 5 (rowC encP zP P))] ∧ atP P i ≤ k ∧ k ≤ (P.getD i zP).b ∧ m = (P.getD i zP).b - k) ?_
      refine And.intro ?_ (fun m s h hI => ?_)
      · refine ⟨_, _, _, ?_, atP P i, rfl, rfl, Nat.le_refl _, by omega, rfl⟩
        (refine Weak.of id ?_ ?_ (fun _ _ _ _ e => e) ?_ <;> first | exact lw_of rfl | (repeat' (first | exact True.intro | refine And.intro (Exists.intro _ (And.intro rfl ?_)) ?_ | exact ORel.dead | refine ORel.cells ?_ | exact ORel.row rfl (fun _ _ _ _ => DR.refl _) | refine ORel.row rfl ?_ | refine ORel.row ?_ ?_ | (first | exact VR.eq rfl rfl | exact VR.pc rfl rfl | exact VR.pr rfl rfl | exact VR.mp rfl rfl | exact VR.rs rfl rfl rfl rfl | exact VR.nilv | exact VR.nilrs rfl | exact VR.nil | refine VR.agg ?_ | refine VR.tup ?_ | refine VR.cons ?_ ?_ | refine VR.eq (eqI ?_) rfl | refine VR.eq (eqB ?_) rfl | refine VR.eq (eqS ?_) rfl | refine VR.rs rfl rfl rfl ?_ | refine VR.dr (DR.vs (fun e => e) rfl ?_) | refine VR.dr (DR.vs (fun e => (by cases e)) rfl ?_) | refine VR.dr (DR.vs (fun e => e) ?_ ?_) | refine VR.dr (DR.vs (fun e => (by cases e)) ?_ ?_)))))
      · obtain ⟨k, rfl, rfl, hk1, hk2, rfl⟩ := hI
        have e1 : IntKind.i64.wrap ((k : Int) + 1) = ((k + 1 : Nat) : Int) := by rw [wrap_i64 (by omega) (by omega)]; rfl
        have e2 : IntKind.i64.wrap (((P.getD i zP).b : Int) + 1) = (((P.getD i zP).b + 1 : Nat) : Int) := by rw [wrap_i64 (by omega) (by omega)]; rfl
        have e3 : IntKind.i64.wrap ((i : Int) + 1) = ((i + 1 : Nat) : Int) := by rw [wrap_i64 (by omega) (by omega)]; rfl
        by_cases h2 : k < (P.getD i zP).b
        · have b2 : decide ((k : Int) < ((P.getD i zP).b : Int)) = true := decide_eq_true (by omega)
          (repeat' (first | refine Chk.mk ?_ ?_ | (refine Br.id ?_; first | refine Br.kt (by with_reducible first | rfl | assumption) ?_ | refine Br.kf (by with_reducible first | rfl | assumption) ?_ | refine Br.kf (show (!true) = false from rfl) ?_ | refine Br.kt (show (!false) = true from rfl) ?_ | refine Br.mk (fun h => ?_) (fun h => ?_)) | (refine (show (noInt _ _ _ && edgesOk _ _) = true from ?_); kernel_rfl)))
          all_goals (try simp only [Int.toNat_natCast, Nat.zero_add, e1] at *)
          · omega
          · omega
          · rename_i h
            have h' : (!fl (l.getD k zL) (l.getD (k + 1) zL)) = true := h
            rw [hfo k hk1 h2] at h'
            cases h'
          · refine goes ⟨k + 1, rfl, rfl, by omega, by omega, rfl⟩ (by omega) ?_
            (refine Weak.of id ?_ ?_ (fun _ _ _ _ e => e) ?_ <;> first | exact lw_of rfl | (repeat' (first | exact True.intro | refine And.intro (Exists.intro _ (And.intro rfl ?_)) ?_ | exact ORel.dead | refine ORel.cells ?_ | exact ORel.row rfl (fun _ _ _ _ => DR.refl _) | refine ORel.row rfl ?_ | refine ORel.row ?_ ?_ | (first | exact VR.eq rfl rfl | exact VR.pc rfl rfl | exact VR.pr rfl rfl | exact VR.mp rfl rfl | exact VR.rs rfl rfl rfl rfl | exact VR.nilv | exact VR.nilrs rfl | exact VR.nil | refine VR.agg ?_ | refine VR.tup ?_ | refine VR.cons ?_ ?_ | refine VR.eq (eqI ?_) rfl | refine VR.eq (eqB ?_) rfl | refine VR.eq (eqS ?_) rfl | refine VR.rs rfl rfl rfl ?_ | refine VR.dr (DR.vs (fun e => e) rfl ?_) | refine VR.dr (DR.vs (fun e => (by cases e)) rfl ?_) | refine VR.dr (DR.vs (fun e => e) ?_ ?_) | refine VR.dr (DR.vs (fun e => (by cases e)) ?_ ?_)))))
            rw [wrap_i64 (by omega) (by omega)]; rfl
        · have b2 : decide ((k : Int) < ((P.getD i zP).b : Int)) = false := decide_eq_false (by omega)
          (repeat' (first | refine Chk.mk ?_ ?_ | (refine Br.id ?_; first | refine Br.kt (by with_reducible first | rfl | assumption) ?_ | refine Br.kf (by with_reducible first | rfl | assumption) ?_ | refine Br.kf (show (!true) = false from rfl) ?_ | refine Br.kt (show (!false) = true from rfl) ?_ | refine Br.mk (fun h => ?_) (fun h => ?_)) | (refine (show (noInt _ _ _ && edgesOk _ _) = true from ?_); kernel_rfl)))
          all_goals (try simp only [Int.toNat_natCast, Nat.zero_add, e2] at *)
          · omega
          · (try simp only [decide_eq_true_eq, decide_eq_false_iff_not, beq_iff_eq, beq_eq_false_iff_ne, bne_iff_ne, ne_eq, Nat.zero_add, Nat.add_zero, Int.not_lt, Int.not_le, Bool.not_eq_true', Bool.not_eq_false', ge_iff_le, gt_iff_lt] at *); omega
          · rename_i h0 h
            have h' : fl (l.getD (P.getD i zP).b zL) (l.getD ((P.getD i zP).b + 1) zL) = true := h
            rw [hfl (by (try simp only [decide_eq_true_eq, decide_eq_false_iff_not, beq_iff_eq, beq_eq_false_iff_ne, bne_iff_ne, ne_eq, Nat.zero_add, Nat.add_zero, Int.not_lt, Int.not_le, Bool.not_eq_true', Bool.not_eq_false', ge_iff_le, gt_iff_lt] at *); omega)] at h'
            cases h'
          · refine goes ⟨i + 1, rfl, rfl, by omega, rfl⟩ (by omega) ?_
            (refine Weak.of id ?_ ?_ (fun _ _ _ _ e => e) ?_ <;> first | exact lw_of rfl | (repeat' (first | exact True.intro | refine And.intro (Exists.intro _ (And.intro rfl ?_)) ?_ | exact ORel.dead | refine ORel.cells ?_ | exact ORel.row rfl (fun _ _ _ _ => DR.refl _) | refine ORel.row rfl ?_ | refine ORel.row ?_ ?_ | (first | exact VR.eq rfl rfl | exact VR.pc rfl rfl | exact VR.pr rfl rfl | exact VR.mp rfl rfl | exact VR.rs rfl rfl rfl rfl | exact VR.nilv | exact VR.nilrs rfl | exact VR.nil | refine VR.agg ?_ | refine VR.tup ?_ | refine VR.cons ?_ ?_ | refine VR.eq (eqI ?_) rfl | refine VR.eq (eqB ?_) rfl | refine VR.eq (eqS ?_) rfl | refine VR.rs rfl rfl rfl ?_ | refine VR.dr (DR.vs (fun e => e) rfl ?_) | refine VR.dr (DR.vs (fun e => (by cases e)) rfl ?_) | refine VR.dr (DR.vs (fun e => e) ?_ ?_) | refine VR.dr (DR.vs (fun e => (by cases e)) ?_ ?_)))))
            · rw [hat, wrap_i64 (by omega) (by omega)]; rfl
            · exact e3
          · refine goes ⟨i + 1, rfl, rfl, by omega, rfl⟩ (by omega) ?_
            (refine Weak.of id ?_ ?_ (fun _ _ _ _ e => e) ?_ <;> first | exact lw_of rfl | (repeat' (first | exact True.intro | refine And.intro (Exists.intro _ (And.intro rfl ?_)) ?_ | exact ORel.dead | refine ORel.cells ?_ | exact ORel.row rfl (fun _ _ _ _ => DR.refl _) | refine ORel.row rfl ?_ | refine ORel.row ?_ ?_ | (first | exact VR.eq rfl rfl | exact VR.pc rfl rfl | exact VR.pr rfl rfl | exact VR.mp rfl rfl | exact VR.rs rfl rfl rfl rfl | exact VR.nilv | exact VR.nilrs rfl | exact VR.nil | refine VR.agg ?_ | refine VR.tup ?_ | refine VR.cons ?_ ?_ | refine VR.eq (eqI ?_) rfl | refine VR.eq (eqB ?_) rfl | refine VR.eq (eqS ?_) rfl | refine VR.rs rfl rfl rfl ?_ | refine VR.dr (DR.vs (fun e => e) rfl ?_) | refine VR.dr (DR.vs (fun e => (by cases e)) rfl ?_) | refine VR.dr (DR.vs (fun e => e) ?_ ?_) | refine VR.dr (DR.vs (fun e => (by cases e)) ?_ ?_)))))
            · rw [hat, wrap_i64 (by omega) (by omega)]; rfl
            · exact e3
    · have b1 : decide ((i : Int) < (P.length : Int)) = false := decide_eq_false (by omega)
      (repeat' (first | refine Chk.mk ?_ ?_ | (refine Br.id ?_; first | refine Br.kt (by with_reducible first | rfl | assumption) ?_ | refine Br.kf (by with_reducible first | rfl | assumption) ?_ | refine Br.kf (show (!true) = false from rfl) ?_ | refine Br.kt (show (!false) = true from rfl) ?_ | refine Br.mk (fun h => ?_) (fun h => ?_)) | (refine (show (noInt _ _ _ && edgesOk _ _) = true from ?_); kernel_rfl)))
      refine Exists.intro (fun (m : Nat) (s : Slots) (h : Heap) => ∃ (q : Nat), s = [(0, .d (.vs false l.length 3 (rowC encL zL l))), (3, .d (.vs false l.length 3 (rowC encL zL l))), (5, av (.int .i64 (atP P i))), (9, av (.int .i64 q))] ∧ h = [] ∧ q ≤ l.length ∧ m = l.length - q) ?_
      refine And.intro ?_ (fun m s h hI => ?_)
      · refine ⟨_, _, _, ?_, 0, rfl, rfl, Nat.zero_le _, rfl⟩
        (refine Weak.of id ?_ ?_ (fun _ _ _ _ e => e) ?_ <;> first | exact lw_of rfl | (repeat' (first | exact True.intro | refine And.intro (Exists.intro _ (And.intro rfl ?_)) ?_ | exact ORel.dead | refine ORel.cells ?_ | exact ORel.row rfl (fun _ _ _ _ => DR.refl _) | refine ORel.row rfl ?_ | refine ORel.row ?_ ?_ | (first | exact VR.eq rfl rfl | exact VR.pc rfl rfl | exact VR.pr rfl rfl | exact VR.mp rfl rfl | exact VR.rs rfl rfl rfl rfl | exact VR.nilv | exact VR.nilrs rfl | exact VR.nil | refine VR.agg ?_ | refine VR.tup ?_ | refine VR.cons ?_ ?_ | refine VR.eq (eqI ?_) rfl | refine VR.eq (eqB ?_) rfl | refine VR.eq (eqS ?_) rfl | refine VR.rs rfl rfl rfl ?_ | refine VR.dr (DR.vs (fun e => e) rfl ?_) | refine VR.dr (DR.vs (fun e => (by cases e)) rfl ?_) | refine VR.dr (DR.vs (fun e => e) ?_ ?_) | refine VR.dr (DR.vs (fun e => (by cases e)) ?_ ?_)))))
      · obtain ⟨q, rfl, rfl, hq, rfl⟩ := hI
        have e1 : IntKind.i64.wrap ((q : Int) + 1) = ((q + 1 : Nat) : Int) := by rw [wrap_i64 (by omega) (by omega)]; rfl
        (repeat' (first | refine Chk.mk ?_ ?_ | (refine Br.id ?_; first | refine Br.kt (by with_reducible first | rfl | assumption) ?_ | refine Br.kf (by with_reducible first | rfl | assumption) ?_ | refine Br.kf (show (!true) = false from rfl) ?_ | refine Br.kt (show (!false) = true from rfl) ?_ | refine Br.mk (fun h => ?_) (fun h => ?_)) | (refine (show (noInt _ _ _ && edgesOk _ _) = true from ?_); kernel_rfl)))
        · show 0 ≤ (q : Int) ∧ (q : Int) < (l.length : Int)
          (try simp only [decide_eq_true_eq, decide_eq_false_iff_not, beq_iff_eq, beq_eq_false_iff_ne, bne_iff_ne, ne_eq, Nat.zero_add, Nat.add_zero, Int.not_lt, Int.not_le, Bool.not_eq_true', Bool.not_eq_false', ge_iff_le, gt_iff_lt] at *)
          omega
        · show 0 ≤ (q : Int) ∧ (q : Int) < (l.length : Int)
          (try simp only [decide_eq_true_eq, decide_eq_false_iff_not, beq_iff_eq, beq_eq_false_iff_ne, bne_iff_ne, ne_eq, Nat.zero_add, Nat.add_zero, Int.not_lt, Int.not_le, Bool.not_eq_true', Bool.not_eq_false', ge_iff_le, gt_iff_lt] at *)
          omega
        · rename_i h
          simp [eqU_refl] at h
        · refine goes ⟨q + 1, rfl, rfl, by (try simp only [decide_eq_true_eq, decide_eq_false_iff_not, beq_iff_eq, beq_eq_false_iff_ne, bne_iff_ne, ne_eq, Nat.zero_add, Nat.add_zero, Int.not_lt, Int.not_le, Bool.not_eq_true', Bool.not_eq_false', ge_iff_le, gt_iff_lt] at *); omega, rfl⟩ (by (try simp only [decide_eq_true_eq, decide_eq_false_iff_not, beq_iff_eq, beq_eq_false_iff_ne, bne_iff_ne, ne_eq, Nat.zero_add, Nat.add_zero, Int.not_lt, Int.not_le, Bool.not_eq_true', Bool.not_eq_false', ge_iff_le, gt_iff_lt] at *); omega) ?_
          (refine Weak.of id ?_ ?_ (fun _ _ _ _ e => e) ?_ <;> first | exact lw_of rfl | (repeat' (first | exact True.intro | refine And.intro (Exists.intro _ (And.intro rfl ?_)) ?_ | exact ORel.dead | refine ORel.cells ?_ | exact ORel.row rfl (fun _ _ _ _ => DR.refl _) | refine ORel.row rfl ?_ | refine ORel.row ?_ ?_ | (first | exact VR.eq rfl rfl | exact VR.pc rfl rfl | exact VR.pr rfl rfl | exact VR.mp rfl rfl | exact VR.rs rfl rfl rfl rfl | exact VR.nilv | exact VR.nilrs rfl | exact VR.nil | refine VR.agg ?_ | refine VR.tup ?_ | refine VR.cons ?_ ?_ | refine VR.eq (eqI ?_) rfl | refine VR.eq (eqB ?_) rfl | refine VR.eq (eqS ?_) rfl | refine VR.rs rfl rfl rfl ?_ | refine VR.dr (DR.vs (fun e => e) rfl ?_) | refine VR.dr (DR.vs (fun e => (by cases e)) rfl ?_) | refine VR.dr (DR.vs (fun e => e) ?_ ?_) | refine VR.dr (DR.vs (fun e => (by cases e)) ?_ ?_)))))
          exact e1
        · refine eqB ?_
          have : atP P i = l.length := by rw [show i = P.length from by omega]; exact hg.en
          rw [this]; simp
end Go.Proofs.YtanfllomeheiiaaGreatDoor.X
