/- The document's Parse: by the abstract machine. -/
import Derived.Test.YtfgfoofojofnmaaDoorG14
set_option linter.unusedVariables false
set_option linter.unusedSimpArgs false
namespace Go.Proofs.YtfgfoofojofnmaaDoor.V
open Go.VM
open Go.Proofs.YtfgfoofojofnmaaDoor.Q Go.Proofs.YtfgfoofojofnmaaDoor.Hand
theorem sT (c : UInt8) : (⟨#[c]⟩ : ByteArray).toList = [c] := l1 c
attribute [local irreducible] scanS Mc.rdS Mc.cl
set_option maxRecDepth 100000 in
set_option maxHeartbeats 8000000 in
theorem parse_v (at_ : ByteArray) (L : List S39) (p c : Int) (hS : scanS at_ = (L, p, c)) (ha : at_.size ≤ 140737488355328) (hL : L.length ≤ 1024) (hT : ∀ t ∈ L, TokOk t) (R : Mc.Out) (hR0 : c = 0 → R = Mc.mach at_.size L true [] []) (hR1 : c ≠ 0 → R = (z44, p, c)) (F : FnsOk Tryd.prog ⟨tt, [(16, sScan), (31, sDepth 1000000), (56, sClose), (57, sLeaf), (58, sOp), (59, sLevel), (60, sRanged), (61, sReduce), (62, sInCall)], [117, 123, 124, 173, 191, 199, 200, 78, 136, 148, 225], Tryd.f27.ntmps⟩) : LSpec Tryd.prog 27 [av (.string at_)] [] (PaPost R) := by
  refine LSpec.intro (E := ⟨tt, [(16, sScan), (31, sDepth 1000000), (56, sClose), (57, sLeaf), (58, sOp), (59, sLevel), (60, sRanged), (61, sReduce), (62, sInCall)], [117, 123, 124, 173, 191, 199, 200, 78, 136, 148, 225], Tryd.f27.ntmps⟩) tt_ok F mixed Tryd.func27 rfl rfl ?_
  refine Exists.intro (L, p, c) (Chk.mk hS ?_)
  (repeat' (first | refine Chk.mk ?_ ?_ | (refine Br.id ?_; first | refine Br.kt (by with_reducible first | rfl | assumption) ?_ | refine Br.kf (by with_reducible first | rfl | assumption) ?_ | refine Br.kf (show (!true) = false from rfl) ?_ | refine Br.kt (show (!false) = true from rfl) ?_ | refine Br.mk (fun h => ?_) (fun h => ?_)) | (refine (show (noInt _ _ _ && edgesOk _ _) = true from ?_); kernel_rfl)))
  · exact pa_err (h := []) (hR1 (by simpa using h))
  · refine Exists.intro (fun (m : Nat) (s : Slots) (h : Heap) => ∃ (i : Nat) (want : Bool) (ns : List S44) (l : List S104) (q : Nat), s = [(0, av (.string at_)), (2, .pc 2 0), (5, .d (.vs false L.length 5 (rowC encK zK L))), (8, .pc 8 0), (9, av (.bool want)), (10, av (.int .i64 i))] ∧ h = [(2, .cells cells0), (8, .cells [.d (.vs false ns.length 6 (rowC encN z44 ns.reverse)), .rs 1001 0 q]), (1001, .row l.length 5 (rowC encW zW l))] ∧ PaInv at_ L R m i want ns l q) ?_
    refine And.intro ?_ (fun m s h hI => ?_)
    · refine ⟨_, _, _, Weak.trans (Weak.row (r := 1001) (k := 5) (rowC encW zW []) rfl) ?_, 0, true, [], [], 0, rfl, rfl, ⟨Nat.zero_le _, Nat.le_refl _, Nat.le_refl _, Nat.le_refl _, rfl, rfl, ?_⟩⟩
      · (refine Weak.of id ?_ ?_ (fun _ _ _ _ e => e) ?_ <;> first | exact lw_of rfl | (repeat' (first | exact True.intro | refine And.intro (Exists.intro _ (And.intro rfl ?_)) ?_ | exact ORel.dead | refine ORel.cells ?_ | exact ORel.row rfl (fun _ _ _ _ => DR.refl _) | refine ORel.row rfl ?_ | refine ORel.row ?_ ?_ | (first | exact VR.eq rfl rfl | exact VR.pc rfl rfl | exact VR.pr rfl rfl | exact VR.mp rfl rfl | exact VR.rs rfl rfl rfl rfl | exact VR.nilv | exact VR.nilrs rfl | exact VR.nil | refine VR.agg ?_ | refine VR.tup ?_ | refine VR.cons ?_ ?_ | refine VR.eq (eqI ?_) rfl | refine VR.eq (eqB ?_) rfl | refine VR.eq (eqS ?_) rfl | refine VR.rs rfl rfl rfl ?_ | refine VR.dr (DR.vs (fun e => e) rfl ?_) | refine VR.dr (DR.vs (fun e => (by cases e)) rfl ?_) | refine VR.dr (DR.vs (fun e => e) ?_ ?_) | refine VR.dr (DR.vs (fun e => (by cases e)) ?_ ?_)))))
      · exact (hR0 (by simpa using h)).symm
    · obtain ⟨i, want, ns, l, q, rfl, rfl, hI⟩ := hI
      clear hR0 hR1 hS F
      have e1 : IntKind.i64.wrap ((i : Int) + 1) = ((i + 1 : Nat) : Int) := by rw [wrap_i64 (by have := hI.hi; omega) (by have := hI.hi; omega)]; rfl
      have e2 : IntKind.i64.wrap (((i + 1 : Nat) : Int) + 1) = ((i + 2 : Nat) : Int) := by rw [wrap_i64 (by have := hI.hi; omega) (by have := hI.hi; omega)]; omega
      have e3 : IntKind.i64.wrap (((i + 2 : Nat) : Int) + 1) = ((i + 3 : Nat) : Int) := by rw [wrap_i64 (by have := hI.hi; omega) (by have := hI.hi; omega)]; omega
      obtain ⟨hi, hq, hl, hwt, hm, hsh, heq⟩ := hI
      have hnl := len_wt ns
      by_cases h1 : i < L.length
      · have b1 : decide ((i : Int) < (L.length : Int)) = true := decide_eq_true (by omega)
        by_cases h2 : i + 1 < L.length
        · have b2 : decide (IntKind.i64.wrap ((i : Int) + 1) < (L.length : Int)) = true := by rw [e1]; exact decide_eq_true (by omega)
          cases want
          · --B1
            have hn1 : 1 ≤ ns.length := Mc.sh_pos _ _ hsh
            obtain ⟨a, r, rfl⟩ : ∃ a r, ns = a :: r := by cases ns with
              | nil => simp at hn1
              | cons a r => exact ⟨a, r, rfl⟩
            have hnp := Mc.sh_np _ _ hsh
            have e4 : IntKind.i64.wrap (((a :: r).length : Int) - 1) = (r.length : Int) := by rw [wrap_i64 (by simp only [List.length_cons] at *; omega) (by simp only [List.length_cons] at *; omega)]; simp
            have he : (a :: r).reverse.getD r.length z44 = a := by rw [List.reverse_cons]; exact get_end (by simp)
            (repeat' (first | refine Chk.mk ?_ ?_ | (refine Br.id ?_; first | refine Br.kt (by with_reducible first | rfl | assumption) ?_ | refine Br.kf (by with_reducible first | rfl | assumption) ?_ | refine Br.kf (show (!true) = false from rfl) ?_ | refine Br.kt (show (!false) = true from rfl) ?_ | refine Br.mk (fun h => ?_) (fun h => ?_)) | (refine (show (noInt _ _ _ && edgesOk _ _) = true from ?_); kernel_rfl)))
            all_goals try (try simp only [decide_eq_true_eq, decide_eq_false_iff_not, beq_iff_eq, beq_eq_false_iff_ne, bne_iff_ne, ne_eq, Nat.zero_add, Nat.add_zero, Int.not_lt, Int.not_le, Bool.not_eq_true', Bool.not_eq_false', ge_iff_le, gt_iff_lt] at *)
            all_goals try simp only [e1, e2, e3, e4, he, Int.toNat_natCast, Nat.sub_zero, sT, bne_eq_false_iff_eq] at *
            all_goals try (simp only [List.length_cons] at *; omega)
            all_goals try exact absurd ‹true = false› (by decide)
            · exact pa_err (h := []) (heq.symm.trans (kNosign h1 ‹_›))
            · exact pa_err (h := []) (heq.symm.trans (kUpz h2 ‹_› ‹_› ‹_› ‹_›))
            · refine goes ⟨i + 2, false, ⟨12, ⟨#[]⟩, (L.getD (i + 1) zK).f2, 0, [a], (L.getD i zK).f4⟩ :: r, l, q, rfl, rfl, ⟨by omega, hq, by omega, ?_, rfl, hsh, ?_⟩⟩ ?_ ?_
              · rw [wtM] at *; rw [wt, wtM, wtM]; omega
              · rw [← kUpn h2 ‹_› ‹_› ‹_› ‹_›]; exact heq
              · omega
              · (refine Weak.of id ?_ ?_ (fun _ _ _ _ e => e) ?_ <;> first | exact lw_of rfl | (repeat' (first | exact True.intro | refine And.intro (Exists.intro _ (And.intro rfl ?_)) ?_ | exact ORel.dead | refine ORel.cells ?_ | exact ORel.row rfl (fun _ _ _ _ => DR.refl _) | refine ORel.row rfl ?_ | refine ORel.row ?_ ?_ | (first | exact VR.eq rfl rfl | exact VR.pc rfl rfl | exact VR.pr rfl rfl | exact VR.mp rfl rfl | exact VR.rs rfl rfl rfl rfl | exact VR.nilv | exact VR.nilrs rfl | exact VR.nil | refine VR.agg ?_ | refine VR.tup ?_ | refine VR.cons ?_ ?_ | refine VR.eq (eqI ?_) rfl | refine VR.eq (eqB ?_) rfl | refine VR.eq (eqS ?_) rfl | refine VR.rs rfl rfl rfl ?_ | refine VR.dr (DR.vs (fun e => e) rfl ?_) | refine VR.dr (DR.vs (fun e => (by cases e)) rfl ?_) | refine VR.dr (DR.vs (fun e => e) ?_ ?_) | refine VR.dr (DR.vs (fun e => (by cases e)) ?_ ?_)))))
                · exact wN (by omega)
                · intro x y hx hy
                  rw [List.reverse_cons (a := (⟨12, ⟨#[]⟩, (L.getD (i + 1) zK).f2, 0, [a], (L.getD i zK).f4⟩ : S44))]
                  refine dr_push (by simp) (fun i j hi => by rw [List.reverse_cons]; exact row_pre (by simpa using hi)) ?_ hx hy
                  refine six (DR.refl _) (DR.refl _) (DR.refl _) (DR.refl _) ?_ (DR.refl _)
                  exact kids (l := [a]) rfl rfl
            · refine goes ⟨i + 1, false, nd 12 [a] (L.getD i zK).f4 :: r, l, q, rfl, rfl, ⟨by omega, hq, by omega, ?_, rfl, hsh, ?_⟩⟩ ?_ ?_
              · rw [wtM] at *; rw [wt_nd, wtM, wtM]; omega
              · rw [← kUp0 h1 ‹_› ‹_› ‹_›]; exact heq
              · omega
              · (refine Weak.of id ?_ ?_ (fun _ _ _ _ e => e) ?_ <;> first | exact lw_of rfl | (repeat' (first | exact True.intro | refine And.intro (Exists.intro _ (And.intro rfl ?_)) ?_ | exact ORel.dead | refine ORel.cells ?_ | exact ORel.row rfl (fun _ _ _ _ => DR.refl _) | refine ORel.row rfl ?_ | refine ORel.row ?_ ?_ | (first | exact VR.eq rfl rfl | exact VR.pc rfl rfl | exact VR.pr rfl rfl | exact VR.mp rfl rfl | exact VR.rs rfl rfl rfl rfl | exact VR.nilv | exact VR.nilrs rfl | exact VR.nil | refine VR.agg ?_ | refine VR.tup ?_ | refine VR.cons ?_ ?_ | refine VR.eq (eqI ?_) rfl | refine VR.eq (eqB ?_) rfl | refine VR.eq (eqS ?_) rfl | refine VR.rs rfl rfl rfl ?_ | refine VR.dr (DR.vs (fun e => e) rfl ?_) | refine VR.dr (DR.vs (fun e => (by cases e)) rfl ?_) | refine VR.dr (DR.vs (fun e => e) ?_ ?_) | refine VR.dr (DR.vs (fun e => (by cases e)) ?_ ?_)))))
                · exact wN (by omega)
                · intro x y hx hy
                  rw [List.reverse_cons (a := nd 12 [a] (L.getD i zK).f4)]
                  refine dr_push (by simp) (fun i j hi => by rw [List.reverse_cons]; exact row_pre (by simpa using hi)) ?_ hx hy
                  refine six (DR.refl _) (DR.refl _) (DR.refl _) (DR.refl _) ?_ (DR.refl _)
                  exact kids (l := [a]) rfl rfl
            · obtain ⟨k, hk, hk2, _⟩ := rd_take (levelT (Mc.opT (L.getD i zK).f1.toList)) l q (a :: r) hq hnp
              have hkl : (Mc.rdS (levelT (Mc.opT (L.getD i zK).f1.toList)) (a :: r) (l.take q).reverse).2.length = k := by rw [hk2, List.length_reverse, List.length_take]; omega
              have hkw := rd_wt (levelT (Mc.opT (L.getD i zK).f1.toList)) (l.take q).reverse (a :: r)
              rw [hkl, List.length_reverse, List.length_take] at hkw
              have hks := Mc.sh_rd (levelT (Mc.opT (L.getD i zK).f1.toList)) (l.take q).reverse (a :: r) hsh
              have hop := kOp (ev := (at_.size : Int)) (ns := a :: r) (ws := (l.take q).reverse) h1 ‹_› ‹_› (by first | exact .inl ‹_› | exact .inr ‹_›)
              refine Exists.intro (a :: r) (Exists.intro l (Chk.mk ⟨⟨by simp, fun _ _ _ _ => .refl _, rfl, fun _ _ _ _ => .refl _, hq, by omega, by simp only [List.length_reverse, List.length_cons] at *; omega⟩, hnp⟩ ?_))
              rw [hkl]
              generalize Mc.rdS (levelT (Mc.opT (L.getD i zK).f1.toList)) (a :: r) (l.take q).reverse = rr at hk2 hkl hkw hks hop ⊢
              (repeat' (first | refine Chk.mk ?_ ?_ | (refine Br.id ?_; first | refine Br.kt (by with_reducible first | rfl | assumption) ?_ | refine Br.kf (by with_reducible first | rfl | assumption) ?_ | refine Br.kf (show (!true) = false from rfl) ?_ | refine Br.kt (show (!false) = true from rfl) ?_ | refine Br.mk (fun h => ?_) (fun h => ?_)) | (refine (show (noInt _ _ _ && edgesOk _ _) = true from ?_); kernel_rfl)))
              · dsimp only; omega
              · refine goes ⟨i + 1, true, rr.1, l.take k ++ [Mc.wO (Mc.opT (L.getD i zK).f1.toList) (L.getD i zK)], k + 1, rfl, rfl, ⟨by omega, by rw [getApp (by omega)]; exact Nat.le_refl _, by rw [getApp (by omega)]; omega, by omega, rfl, ?_, ?_⟩⟩ ?_ ?_
                · rw [take_push (by omega), ← hk2]; exact sh_op opT_ne hks
                · rw [take_push (by omega), ← hk2, ← hop]; exact heq
                · omega
                · (refine Weak.of (sub 1001 226) ?_ ?_ (sub_inj rfl) ?_ <;> first | exact (fun _ h => absurd h List.not_mem_nil) | (repeat' (first | exact True.intro | refine And.intro (Exists.intro _ (And.intro rfl ?_)) ?_ | exact ORel.dead | refine ORel.cells ?_ | exact ORel.row rfl (fun _ _ _ _ => DR.refl _) | refine ORel.row rfl ?_ | refine ORel.row ?_ ?_ | (first | exact VR.eq rfl rfl | exact VR.pc rfl rfl | exact VR.pr rfl rfl | exact VR.mp rfl rfl | exact VR.rs rfl rfl rfl rfl | exact VR.nilv | exact VR.nilrs rfl | exact VR.nil | refine VR.agg ?_ | refine VR.tup ?_ | refine VR.cons ?_ ?_ | refine VR.eq (eqI ?_) rfl | refine VR.eq (eqB ?_) rfl | refine VR.eq (eqS ?_) rfl | refine VR.rs rfl rfl rfl ?_ | refine VR.dr (DR.vs (fun e => e) rfl ?_) | refine VR.dr (DR.vs (fun e => (by cases e)) rfl ?_) | refine VR.dr (DR.vs (fun e => e) ?_ ?_) | refine VR.dr (DR.vs (fun e => (by cases e)) ?_ ?_)))))
                  · exact wN (by omega)
                  · exact List.length_reverse
                  · exact fun _ _ _ _ => DR.refl _
                  · exact (getApp (by omega)).symm
                  · exact fun x y hx hy => dr_pushW (by omega) (five (DR.refl _) (DR.refl _) (DR.refl _) (DR.refl _) (DR.refl _)) hx hy
            · have r1 : (Mc.opT (L.getD i zK).f1.toList != 0) = true := bne_iff_ne.2 ‹_›
              have r2 : (levelT (Mc.opT (L.getD i zK).f1.toList) != 3) = false := by simpa using ‹levelT _ = 3›
              refine Exists.intro l (Chk.mk ⟨rfl, fun _ _ _ _ => .refl _, hq, by omega⟩ ?_)
              rcases hrg : Mc.rng (l.take q).reverse with _ | _
              · (repeat' (first | refine Chk.mk ?_ ?_ | (refine Br.id ?_; first | refine Br.kt (by with_reducible first | rfl | assumption) ?_ | refine Br.kf (by with_reducible first | rfl | assumption) ?_ | refine Br.kf (show (!true) = false from rfl) ?_ | refine Br.kt (show (!false) = true from rfl) ?_ | refine Br.mk (fun h => ?_) (fun h => ?_)) | (refine (show (noInt _ _ _ && edgesOk _ _) = true from ?_); kernel_rfl)))
                obtain ⟨k, hk, hk2, _⟩ := rd_take (levelT (Mc.opT (L.getD i zK).f1.toList)) l q (a :: r) hq hnp
                have hkl : (Mc.rdS (levelT (Mc.opT (L.getD i zK).f1.toList)) (a :: r) (l.take q).reverse).2.length = k := by rw [hk2, List.length_reverse, List.length_take]; omega
                have hkw := rd_wt (levelT (Mc.opT (L.getD i zK).f1.toList)) (l.take q).reverse (a :: r)
                rw [hkl, List.length_reverse, List.length_take] at hkw
                have hks := Mc.sh_rd (levelT (Mc.opT (L.getD i zK).f1.toList)) (l.take q).reverse (a :: r) hsh
                have hop := kOp (ev := (at_.size : Int)) (ns := a :: r) (ws := (l.take q).reverse) h1 ‹_› ‹_› (by first | exact .inl ‹_› | exact .inr ‹_›)
                refine Exists.intro (a :: r) (Exists.intro l (Chk.mk ⟨⟨by simp, fun _ _ _ _ => .refl _, rfl, fun _ _ _ _ => .refl _, hq, by omega, by simp only [List.length_reverse, List.length_cons] at *; omega⟩, hnp⟩ ?_))
                rw [hkl]
                generalize Mc.rdS (levelT (Mc.opT (L.getD i zK).f1.toList)) (a :: r) (l.take q).reverse = rr at hk2 hkl hkw hks hop ⊢
                (repeat' (first | refine Chk.mk ?_ ?_ | (refine Br.id ?_; first | refine Br.kt (by with_reducible first | rfl | assumption) ?_ | refine Br.kf (by with_reducible first | rfl | assumption) ?_ | refine Br.kf (show (!true) = false from rfl) ?_ | refine Br.kt (show (!false) = true from rfl) ?_ | refine Br.mk (fun h => ?_) (fun h => ?_)) | (refine (show (noInt _ _ _ && edgesOk _ _) = true from ?_); kernel_rfl)))
                · dsimp only; omega
                · refine goes ⟨i + 1, true, rr.1, l.take k ++ [Mc.wO (Mc.opT (L.getD i zK).f1.toList) (L.getD i zK)], k + 1, rfl, rfl, ⟨by omega, by rw [getApp (by omega)]; exact Nat.le_refl _, by rw [getApp (by omega)]; omega, by omega, rfl, ?_, ?_⟩⟩ ?_ ?_
                  · rw [take_push (by omega), ← hk2]; exact sh_op opT_ne hks
                  · rw [take_push (by omega), ← hk2, ← hop]; exact heq
                  · omega
                  · (refine Weak.of (sub 1001 226) ?_ ?_ (sub_inj rfl) ?_ <;> first | exact (fun _ h => absurd h List.not_mem_nil) | (repeat' (first | exact True.intro | refine And.intro (Exists.intro _ (And.intro rfl ?_)) ?_ | exact ORel.dead | refine ORel.cells ?_ | exact ORel.row rfl (fun _ _ _ _ => DR.refl _) | refine ORel.row rfl ?_ | refine ORel.row ?_ ?_ | (first | exact VR.eq rfl rfl | exact VR.pc rfl rfl | exact VR.pr rfl rfl | exact VR.mp rfl rfl | exact VR.rs rfl rfl rfl rfl | exact VR.nilv | exact VR.nilrs rfl | exact VR.nil | refine VR.agg ?_ | refine VR.tup ?_ | refine VR.cons ?_ ?_ | refine VR.eq (eqI ?_) rfl | refine VR.eq (eqB ?_) rfl | refine VR.eq (eqS ?_) rfl | refine VR.rs rfl rfl rfl ?_ | refine VR.dr (DR.vs (fun e => e) rfl ?_) | refine VR.dr (DR.vs (fun e => (by cases e)) rfl ?_) | refine VR.dr (DR.vs (fun e => e) ?_ ?_) | refine VR.dr (DR.vs (fun e => (by cases e)) ?_ ?_)))))
                    · exact wN (by omega)
                    · exact List.length_reverse
                    · exact fun _ _ _ _ => DR.refl _
                    · exact (getApp (by omega)).symm
                    · exact fun x y hx hy => dr_pushW (by omega) (five (DR.refl _) (DR.refl _) (DR.refl _) (DR.refl _) (DR.refl _)) hx hy
              · have HO : ¬ (Mc.opT (L.getD i zK).f1.toList ≠ 0 ∧ (levelT (Mc.opT (L.getD i zK).f1.toList) ≠ 3 ∨ Mc.rng (l.take q).reverse = false)) := fun e => by
                  rcases e.2 with e2 | e2
                  · exact e2 ‹_›
                  · rw [hrg] at e2; cases e2
                (repeat' (first | refine Chk.mk ?_ ?_ | (refine Br.id ?_; first | refine Br.kt (by with_reducible first | rfl | assumption) ?_ | refine Br.kf (by with_reducible first | rfl | assumption) ?_ | refine Br.kf (show (!true) = false from rfl) ?_ | refine Br.kt (show (!false) = true from rfl) ?_ | refine Br.mk (fun h => ?_) (fun h => ?_)) | (refine (show (noInt _ _ _ && edgesOk _ _) = true from ?_); kernel_rfl)))
                all_goals try (try simp only [decide_eq_true_eq, decide_eq_false_iff_not, beq_iff_eq, beq_eq_false_iff_ne, bne_iff_ne, ne_eq, Nat.zero_add, Nat.add_zero, Int.not_lt, Int.not_le, Bool.not_eq_true', Bool.not_eq_false', ge_iff_le, gt_iff_lt] at *)
                all_goals try simp only [sT] at *
                · refine Exists.intro (a :: r) (Exists.intro l (Chk.mk ⟨⟨by simp, fun _ _ _ _ => .refl _, rfl, fun _ _ _ _ => .refl _, hq, by omega, by simp only [List.length_reverse, List.length_cons] at *; omega⟩, hnp, Mc.sh_hcl hsh⟩ ?_))
                  have hcl := kClose (ev := (at_.size : Int)) (ns := a :: r) (ws := (l.take q).reverse) h1 ‹_› ‹_›
                  rcases hc : Mc.cl (a :: r) (l.take q).reverse with _ | pc
                  · rw [hc] at hcl
                    rw [show cloR (a :: r) (l.take q).reverse = (((Mc.rdS 1 (a :: r) (l.take q).reverse).1, []), false) from by unfold cloR; rw [hc]]
                    dsimp only
                    (repeat' (first | refine Chk.mk ?_ ?_ | (refine Br.id ?_; first | refine Br.kt (by with_reducible first | rfl | assumption) ?_ | refine Br.kf (by with_reducible first | rfl | assumption) ?_ | refine Br.kf (show (!true) = false from rfl) ?_ | refine Br.kt (show (!false) = true from rfl) ?_ | refine Br.mk (fun h => ?_) (fun h => ?_)) | (refine (show (noInt _ _ _ && edgesOk _ _) = true from ?_); kernel_rfl)))
                    exact pa_err (h := []) (heq.symm.trans hcl)
                  · rw [hc] at hcl
                    obtain ⟨k, hk, hk2⟩ := cl_take hq hnp hc
                    have hkl : pc.2.length = k := by rw [hk2, List.length_reverse, List.length_take]; omega
                    have hcw := cl_wt hc
                    rw [List.length_reverse, List.length_take] at hcw
                    rw [cloR_some hc]
                    dsimp only
                    rw [hkl]
                    (repeat' (first | refine Chk.mk ?_ ?_ | (refine Br.id ?_; first | refine Br.kt (by with_reducible first | rfl | assumption) ?_ | refine Br.kf (by with_reducible first | rfl | assumption) ?_ | refine Br.kf (show (!true) = false from rfl) ?_ | refine Br.kt (show (!false) = true from rfl) ?_ | refine Br.mk (fun h => ?_) (fun h => ?_)) | (refine (show (noInt _ _ _ && edgesOk _ _) = true from ?_); kernel_rfl)))
                    refine goes ⟨i + 1, false, pc.1, l, k, rfl, rfl, ⟨by omega, by omega, by omega, by omega, rfl, ?_, ?_⟩⟩ ?_ ?_
                    · rw [← hk2]; exact Mc.sh_close hsh hc
                    · rw [← hk2, ← heq, hcl]
                    · omega
                    · (refine Weak.of id ?_ ?_ (fun _ _ _ _ e => e) ?_ <;> first | exact lw_of rfl | (repeat' (first | exact True.intro | refine And.intro (Exists.intro _ (And.intro rfl ?_)) ?_ | exact ORel.dead | refine ORel.cells ?_ | exact ORel.row rfl (fun _ _ _ _ => DR.refl _) | refine ORel.row rfl ?_ | refine ORel.row ?_ ?_ | (first | exact VR.eq rfl rfl | exact VR.pc rfl rfl | exact VR.pr rfl rfl | exact VR.mp rfl rfl | exact VR.rs rfl rfl rfl rfl | exact VR.nilv | exact VR.nilrs rfl | exact VR.nil | refine VR.agg ?_ | refine VR.tup ?_ | refine VR.cons ?_ ?_ | refine VR.eq (eqI ?_) rfl | refine VR.eq (eqB ?_) rfl | refine VR.eq (eqS ?_) rfl | refine VR.rs rfl rfl rfl ?_ | refine VR.dr (DR.vs (fun e => e) rfl ?_) | refine VR.dr (DR.vs (fun e => (by cases e)) rfl ?_) | refine VR.dr (DR.vs (fun e => e) ?_ ?_) | refine VR.dr (DR.vs (fun e => (by cases e)) ?_ ?_)))))
                      · exact wN (by omega)
                      · exact List.length_reverse
                      · exact fun _ _ _ _ => DR.refl _
                · have r3 : ((L.getD i zK).f1.toList == [44]) = true := beq_iff_eq.2 ‹_›
                  refine Exists.intro l (Chk.mk ⟨rfl, fun _ _ _ _ => .refl _, hq, by omega⟩ ?_)
                  (repeat' (first | refine Chk.mk ?_ ?_ | (refine Br.id ?_; first | refine Br.kt (by with_reducible first | rfl | assumption) ?_ | refine Br.kf (by with_reducible first | rfl | assumption) ?_ | refine Br.kf (show (!true) = false from rfl) ?_ | refine Br.kt (show (!false) = true from rfl) ?_ | refine Br.mk (fun h => ?_) (fun h => ?_)) | (refine (show (noInt _ _ _ && edgesOk _ _) = true from ?_); kernel_rfl)))
                  all_goals try (try simp only [decide_eq_true_eq, decide_eq_false_iff_not, beq_iff_eq, beq_eq_false_iff_ne, bne_iff_ne, ne_eq, Nat.zero_add, Nat.add_zero, Int.not_lt, Int.not_le, Bool.not_eq_true', Bool.not_eq_false', ge_iff_le, gt_iff_lt] at *)
                  · obtain ⟨k, hk, hk2, _⟩ := rd_take 1 l q (a :: r) hq hnp
                    have hkl : (Mc.rdS 1 (a :: r) (l.take q).reverse).2.length = k := by rw [hk2, List.length_reverse, List.length_take]; omega
                    have hkw := rd_wt 1 (l.take q).reverse (a :: r)
                    rw [hkl, List.length_reverse, List.length_take] at hkw
                    have hks := Mc.sh_comma hsh ‹_›
                    have hop := kComma (ev := (at_.size : Int)) (ns := a :: r) (ws := (l.take q).reverse) h1 ‹_› ‹_› ‹_›
                    refine Exists.intro (a :: r) (Exists.intro l (Chk.mk ⟨⟨by simp, fun _ _ _ _ => .refl _, rfl, fun _ _ _ _ => .refl _, hq, by omega, by simp only [List.length_reverse, List.length_cons] at *; omega⟩, hnp⟩ ?_))
                    rw [hkl]
                    generalize Mc.rdS 1 (a :: r) (l.take q).reverse = rr at hk2 hkl hkw hks hop ⊢
                    (repeat' (first | refine Chk.mk ?_ ?_ | (refine Br.id ?_; first | refine Br.kt (by with_reducible first | rfl | assumption) ?_ | refine Br.kf (by with_reducible first | rfl | assumption) ?_ | refine Br.kf (show (!true) = false from rfl) ?_ | refine Br.kt (show (!false) = true from rfl) ?_ | refine Br.mk (fun h => ?_) (fun h => ?_)) | (refine (show (noInt _ _ _ && edgesOk _ _) = true from ?_); kernel_rfl)))
                    refine goes ⟨i + 1, true, rr.1, l, k, rfl, rfl, ⟨by omega, by omega, by omega, by omega, rfl, ?_, ?_⟩⟩ ?_ ?_
                    · rw [← hk2]; exact hks
                    · rw [← hk2, ← hop]; exact heq
                    · omega
                    · (refine Weak.of id ?_ ?_ (fun _ _ _ _ e => e) ?_ <;> first | exact lw_of rfl | (repeat' (first | exact True.intro | refine And.intro (Exists.intro _ (And.intro rfl ?_)) ?_ | exact ORel.dead | refine ORel.cells ?_ | exact ORel.row rfl (fun _ _ _ _ => DR.refl _) | refine ORel.row rfl ?_ | refine ORel.row ?_ ?_ | (first | exact VR.eq rfl rfl | exact VR.pc rfl rfl | exact VR.pr rfl rfl | exact VR.mp rfl rfl | exact VR.rs rfl rfl rfl rfl | exact VR.nilv | exact VR.nilrs rfl | exact VR.nil | refine VR.agg ?_ | refine VR.tup ?_ | refine VR.cons ?_ ?_ | refine VR.eq (eqI ?_) rfl | refine VR.eq (eqB ?_) rfl | refine VR.eq (eqS ?_) rfl | refine VR.rs rfl rfl rfl ?_ | refine VR.dr (DR.vs (fun e => e) rfl ?_) | refine VR.dr (DR.vs (fun e => (by cases e)) rfl ?_) | refine VR.dr (DR.vs (fun e => e) ?_ ?_) | refine VR.dr (DR.vs (fun e => (by cases e)) ?_ ?_)))))
                      · exact wN (by omega)
                      · exact List.length_reverse
                      · exact fun _ _ _ _ => DR.refl _
                  · exact pa_err (h := []) (heq.symm.trans (kBad h1 ‹_› ‹_› HO ‹_› (fun e => absurd e.2 (by rw [‹Mc.inC _ = false›]; decide))))
                · exact pa_err (h := []) (heq.symm.trans (kBad h1 ‹_› ‹_› HO ‹_› (fun e => absurd e.1 ‹_›)))
            · refine Exists.intro (a :: r) (Exists.intro l (Chk.mk ⟨⟨by simp, fun _ _ _ _ => .refl _, rfl, fun _ _ _ _ => .refl _, hq, by omega, by simp only [List.length_reverse, List.length_cons] at *; omega⟩, hnp, Mc.sh_hcl hsh⟩ ?_))
              have hcl := kClose (ev := (at_.size : Int)) (ns := a :: r) (ws := (l.take q).reverse) h1 ‹_› ‹_›
              rcases hc : Mc.cl (a :: r) (l.take q).reverse with _ | pc
              · rw [hc] at hcl
                rw [show cloR (a :: r) (l.take q).reverse = (((Mc.rdS 1 (a :: r) (l.take q).reverse).1, []), false) from by unfold cloR; rw [hc]]
                dsimp only
                (repeat' (first | refine Chk.mk ?_ ?_ | (refine Br.id ?_; first | refine Br.kt (by with_reducible first | rfl | assumption) ?_ | refine Br.kf (by with_reducible first | rfl | assumption) ?_ | refine Br.kf (show (!true) = false from rfl) ?_ | refine Br.kt (show (!false) = true from rfl) ?_ | refine Br.mk (fun h => ?_) (fun h => ?_)) | (refine (show (noInt _ _ _ && edgesOk _ _) = true from ?_); kernel_rfl)))
                exact pa_err (h := []) (heq.symm.trans hcl)
              · rw [hc] at hcl
                obtain ⟨k, hk, hk2⟩ := cl_take hq hnp hc
                have hkl : pc.2.length = k := by rw [hk2, List.length_reverse, List.length_take]; omega
                have hcw := cl_wt hc
                rw [List.length_reverse, List.length_take] at hcw
                rw [cloR_some hc]
                dsimp only
                rw [hkl]
                (repeat' (first | refine Chk.mk ?_ ?_ | (refine Br.id ?_; first | refine Br.kt (by with_reducible first | rfl | assumption) ?_ | refine Br.kf (by with_reducible first | rfl | assumption) ?_ | refine Br.kf (show (!true) = false from rfl) ?_ | refine Br.kt (show (!false) = true from rfl) ?_ | refine Br.mk (fun h => ?_) (fun h => ?_)) | (refine (show (noInt _ _ _ && edgesOk _ _) = true from ?_); kernel_rfl)))
                refine goes ⟨i + 1, false, pc.1, l, k, rfl, rfl, ⟨by omega, by omega, by omega, by omega, rfl, ?_, ?_⟩⟩ ?_ ?_
                · rw [← hk2]; exact Mc.sh_close hsh hc
                · rw [← hk2, ← heq, hcl]
                · omega
                · (refine Weak.of id ?_ ?_ (fun _ _ _ _ e => e) ?_ <;> first | exact lw_of rfl | (repeat' (first | exact True.intro | refine And.intro (Exists.intro _ (And.intro rfl ?_)) ?_ | exact ORel.dead | refine ORel.cells ?_ | exact ORel.row rfl (fun _ _ _ _ => DR.refl _) | refine ORel.row rfl ?_ | refine ORel.row ?_ ?_ | (first | exact VR.eq rfl rfl | exact VR.pc rfl rfl | exact VR.pr rfl rfl | exact VR.mp rfl rfl | exact VR.rs rfl rfl rfl rfl | exact VR.nilv | exact VR.nilrs rfl | exact VR.nil | refine VR.agg ?_ | refine VR.tup ?_ | refine VR.cons ?_ ?_ | refine VR.eq (eqI ?_) rfl | refine VR.eq (eqB ?_) rfl | refine VR.eq (eqS ?_) rfl | refine VR.rs rfl rfl rfl ?_ | refine VR.dr (DR.vs (fun e => e) rfl ?_) | refine VR.dr (DR.vs (fun e => (by cases e)) rfl ?_) | refine VR.dr (DR.vs (fun e => e) ?_ ?_) | refine VR.dr (DR.vs (fun e => (by cases e)) ?_ ?_)))))
                  · exact wN (by omega)
                  · exact List.length_reverse
                  · exact fun _ _ _ _ => DR.refl _
            · have r3 : ((L.getD i zK).f1.toList == [44]) = true := beq_iff_eq.2 ‹_›
              refine Exists.intro l (Chk.mk ⟨rfl, fun _ _ _ _ => .refl _, hq, by omega⟩ ?_)
              (repeat' (first | refine Chk.mk ?_ ?_ | (refine Br.id ?_; first | refine Br.kt (by with_reducible first | rfl | assumption) ?_ | refine Br.kf (by with_reducible first | rfl | assumption) ?_ | refine Br.kf (show (!true) = false from rfl) ?_ | refine Br.kt (show (!false) = true from rfl) ?_ | refine Br.mk (fun h => ?_) (fun h => ?_)) | (refine (show (noInt _ _ _ && edgesOk _ _) = true from ?_); kernel_rfl)))
              all_goals try (try simp only [decide_eq_true_eq, decide_eq_false_iff_not, beq_iff_eq, beq_eq_false_iff_ne, bne_iff_ne, ne_eq, Nat.zero_add, Nat.add_zero, Int.not_lt, Int.not_le, Bool.not_eq_true', Bool.not_eq_false', ge_iff_le, gt_iff_lt] at *)
              · obtain ⟨k, hk, hk2, _⟩ := rd_take 1 l q (a :: r) hq hnp
                have hkl : (Mc.rdS 1 (a :: r) (l.take q).reverse).2.length = k := by rw [hk2, List.length_reverse, List.length_take]; omega
                have hkw := rd_wt 1 (l.take q).reverse (a :: r)
                rw [hkl, List.length_reverse, List.length_take] at hkw
                have hks := Mc.sh_comma hsh ‹_›
                have hop := kComma (ev := (at_.size : Int)) (ns := a :: r) (ws := (l.take q).reverse) h1 ‹_› ‹_› ‹_›
                refine Exists.intro (a :: r) (Exists.intro l (Chk.mk ⟨⟨by simp, fun _ _ _ _ => .refl _, rfl, fun _ _ _ _ => .refl _, hq, by omega, by simp only [List.length_reverse, List.length_cons] at *; omega⟩, hnp⟩ ?_))
                rw [hkl]
                generalize Mc.rdS 1 (a :: r) (l.take q).reverse = rr at hk2 hkl hkw hks hop ⊢
                (repeat' (first | refine Chk.mk ?_ ?_ | (refine Br.id ?_; first | refine Br.kt (by with_reducible first | rfl | assumption) ?_ | refine Br.kf (by with_reducible first | rfl | assumption) ?_ | refine Br.kf (show (!true) = false from rfl) ?_ | refine Br.kt (show (!false) = true from rfl) ?_ | refine Br.mk (fun h => ?_) (fun h => ?_)) | (refine (show (noInt _ _ _ && edgesOk _ _) = true from ?_); kernel_rfl)))
                refine goes ⟨i + 1, true, rr.1, l, k, rfl, rfl, ⟨by omega, by omega, by omega, by omega, rfl, ?_, ?_⟩⟩ ?_ ?_
                · rw [← hk2]; exact hks
                · rw [← hk2, ← hop]; exact heq
                · omega
                · (refine Weak.of id ?_ ?_ (fun _ _ _ _ e => e) ?_ <;> first | exact lw_of rfl | (repeat' (first | exact True.intro | refine And.intro (Exists.intro _ (And.intro rfl ?_)) ?_ | exact ORel.dead | refine ORel.cells ?_ | exact ORel.row rfl (fun _ _ _ _ => DR.refl _) | refine ORel.row rfl ?_ | refine ORel.row ?_ ?_ | (first | exact VR.eq rfl rfl | exact VR.pc rfl rfl | exact VR.pr rfl rfl | exact VR.mp rfl rfl | exact VR.rs rfl rfl rfl rfl | exact VR.nilv | exact VR.nilrs rfl | exact VR.nil | refine VR.agg ?_ | refine VR.tup ?_ | refine VR.cons ?_ ?_ | refine VR.eq (eqI ?_) rfl | refine VR.eq (eqB ?_) rfl | refine VR.eq (eqS ?_) rfl | refine VR.rs rfl rfl rfl ?_ | refine VR.dr (DR.vs (fun e => e) rfl ?_) | refine VR.dr (DR.vs (fun e => (by cases e)) rfl ?_) | refine VR.dr (DR.vs (fun e => e) ?_ ?_) | refine VR.dr (DR.vs (fun e => (by cases e)) ?_ ?_)))))
                  · exact wN (by omega)
                  · exact List.length_reverse
                  · exact fun _ _ _ _ => DR.refl _
              · exact pa_err (h := []) (heq.symm.trans (kBad h1 ‹_› ‹_› (fun e => e.1 ‹Mc.opT _ = 0›) ‹_› (fun e => absurd e.2 (by rw [‹Mc.inC _ = false›]; decide))))
            · exact pa_err (h := []) (heq.symm.trans (kBad h1 ‹_› ‹_› (fun e => e.1 ‹Mc.opT _ = 0›) ‹_› (fun e => absurd e.1 ‹_›)))
          · --B2
            (repeat' (first | refine Chk.mk ?_ ?_ | (refine Br.id ?_; first | refine Br.kt (by with_reducible first | rfl | assumption) ?_ | refine Br.kf (by with_reducible first | rfl | assumption) ?_ | refine Br.kf (show (!true) = false from rfl) ?_ | refine Br.kt (show (!false) = true from rfl) ?_ | refine Br.mk (fun h => ?_) (fun h => ?_)) | (refine (show (noInt _ _ _ && edgesOk _ _) = true from ?_); kernel_rfl)))
            all_goals try (try simp only [decide_eq_true_eq, decide_eq_false_iff_not, beq_iff_eq, beq_eq_false_iff_ne, bne_iff_ne, ne_eq, Nat.zero_add, Nat.add_zero, Int.not_lt, Int.not_le, Bool.not_eq_true', Bool.not_eq_false', ge_iff_le, gt_iff_lt] at *)
            all_goals try simp only [e1, e2, e3, Int.toNat_natCast, sT, bne_eq_false_iff_eq] at *
            all_goals try omega
            · have hne := nameOk_ne (tok_mem hT h1) ‹_›
              obtain ⟨pc, hpc, hps⟩ := Mc.sh_call0 (t := L.getD i zK) hsh hne
              have hw1 : ((l.take q ++ [Mc.wC (L.getD i zK) ns]).take (q + 1)).reverse = Mc.wC (L.getD i zK) ns :: (l.take q).reverse := take_push hq
              have hnp : NP ns.length (Mc.wC (L.getD i zK) ns :: (l.take q).reverse) := Or.inl rfl
              refine Exists.intro ns (Exists.intro (l.take q ++ [Mc.wC (L.getD i zK) ns]) (Chk.mk ⟨⟨by rw [List.length_reverse], fun _ _ _ _ => .refl _, (getApp hq).symm, ?_, Nat.le_refl _, by omega, by omega⟩, ?_, ?_⟩ ?_))
              · exact fun x y hx hy => dr_pushW hq (five (DR.refl _) (DR.refl _) (DR.refl _) (DR.refl _) (DR.refl _)) hx hy
              · rw [hw1]; exact hnp
              · rw [hw1]; exact fun x r e => by
                  rw [rd_stop (.inl rfl)] at e
                  injection e with e _
                  subst e
                  rw [rd_stop (.inl rfl)]
                  exact ⟨by show (0 : Int) ≤ (ns.length : Int); omega, Nat.le_refl _⟩
              · obtain ⟨k, hk, hk2⟩ := cl_take (l := l.take q ++ [Mc.wC (L.getD i zK) ns]) (m := q + 1) (by rw [getApp hq]; exact Nat.le_refl _) (by rw [hw1]; exact hnp) (by rw [hw1]; exact hpc)
                have hkl : pc.2.length = k := by rw [hk2, List.length_reverse, List.length_take, getApp hq]; omega
                have hcw := cl_wt hpc
                rw [List.length_cons, List.length_reverse, List.length_take] at hcw
                rw [hw1, cloR_some hpc]
                dsimp only
                rw [hkl]
                (repeat' (first | refine Chk.mk ?_ ?_ | (refine Br.id ?_; first | refine Br.kt (by with_reducible first | rfl | assumption) ?_ | refine Br.kf (by with_reducible first | rfl | assumption) ?_ | refine Br.kf (show (!true) = false from rfl) ?_ | refine Br.kt (show (!false) = true from rfl) ?_ | refine Br.mk (fun h => ?_) (fun h => ?_)) | (refine (show (noInt _ _ _ && edgesOk _ _) = true from ?_); kernel_rfl)))
                refine goes ⟨i + 3, false, pc.1, l.take q ++ [Mc.wC (L.getD i zK) ns], k, rfl, rfl, ⟨by omega, by rw [getApp hq]; omega, by rw [getApp hq]; omega, by omega, rfl, ?_, ?_⟩⟩ ?_ ?_
                · rw [← hk2]; exact hps
                · rw [← heq, kCall0 (by omega) ‹_› ‹_› ‹_› ‹_› ‹_›, hpc, ← hk2]
                · omega
                · (refine Weak.of (sub 1001 79) ?_ ?_ (sub_inj rfl) ?_ <;> first | exact (fun _ h => absurd h List.not_mem_nil) | (repeat' (first | exact True.intro | refine And.intro (Exists.intro _ (And.intro rfl ?_)) ?_ | exact ORel.dead | refine ORel.cells ?_ | exact ORel.row rfl (fun _ _ _ _ => DR.refl _) | refine ORel.row rfl ?_ | refine ORel.row ?_ ?_ | (first | exact VR.eq rfl rfl | exact VR.pc rfl rfl | exact VR.pr rfl rfl | exact VR.mp rfl rfl | exact VR.rs rfl rfl rfl rfl | exact VR.nilv | exact VR.nilrs rfl | exact VR.nil | refine VR.agg ?_ | refine VR.tup ?_ | refine VR.cons ?_ ?_ | refine VR.eq (eqI ?_) rfl | refine VR.eq (eqB ?_) rfl | refine VR.eq (eqS ?_) rfl | refine VR.rs rfl rfl rfl ?_ | refine VR.dr (DR.vs (fun e => e) rfl ?_) | refine VR.dr (DR.vs (fun e => (by cases e)) rfl ?_) | refine VR.dr (DR.vs (fun e => e) ?_ ?_) | refine VR.dr (DR.vs (fun e => (by cases e)) ?_ ?_)))))
                  · rw [wN (by omega)]; exact wN (by omega)
                  · exact List.length_reverse
                  · exact fun _ _ _ _ => DR.refl _
                  · exact (getApp hq).symm
                  · exact fun _ _ _ _ => DR.refl _
            · refine goes ⟨i + 2, true, ns, l.take q ++ [Mc.wC (L.getD i zK) ns], q + 1, rfl, rfl, ⟨by omega, by rw [getApp hq]; exact Nat.le_refl _, by rw [getApp hq]; omega, by omega, rfl, ?_, ?_⟩⟩ ?_ ?_
              · rw [take_push hq]; exact sh_push rfl rfl hsh
              · rw [take_push hq, ← kCall h2 ‹_› ‹_› ‹_› (fun e => by exact ‹¬ _› e.2)]; exact heq
              · omega
              · (refine Weak.of (sub 1001 79) ?_ ?_ (sub_inj rfl) ?_ <;> first | exact (fun _ h => absurd h List.not_mem_nil) | (repeat' (first | exact True.intro | refine And.intro (Exists.intro _ (And.intro rfl ?_)) ?_ | exact ORel.dead | refine ORel.cells ?_ | exact ORel.row rfl (fun _ _ _ _ => DR.refl _) | refine ORel.row rfl ?_ | refine ORel.row ?_ ?_ | (first | exact VR.eq rfl rfl | exact VR.pc rfl rfl | exact VR.pr rfl rfl | exact VR.mp rfl rfl | exact VR.rs rfl rfl rfl rfl | exact VR.nilv | exact VR.nilrs rfl | exact VR.nil | refine VR.agg ?_ | refine VR.tup ?_ | refine VR.cons ?_ ?_ | refine VR.eq (eqI ?_) rfl | refine VR.eq (eqB ?_) rfl | refine VR.eq (eqS ?_) rfl | refine VR.rs rfl rfl rfl ?_ | refine VR.dr (DR.vs (fun e => e) rfl ?_) | refine VR.dr (DR.vs (fun e => (by cases e)) rfl ?_) | refine VR.dr (DR.vs (fun e => e) ?_ ?_) | refine VR.dr (DR.vs (fun e => (by cases e)) ?_ ?_)))))
                · exact wN (by omega)
                · exact (getApp hq).symm
                · exact fun x y hx hy => dr_pushW hq (five (DR.refl _) (DR.refl _) (DR.refl _) (DR.refl _) (DR.refl _)) hx hy
            · refine goes ⟨i + 2, true, ns, l.take q ++ [Mc.wC (L.getD i zK) ns], q + 1, rfl, rfl, ⟨by omega, by rw [getApp hq]; exact Nat.le_refl _, by rw [getApp hq]; omega, by omega, rfl, ?_, ?_⟩⟩ ?_ ?_
              · rw [take_push hq]; exact sh_push rfl rfl hsh
              · rw [take_push hq, ← kCall h2 ‹_› ‹_› ‹_› (fun e => by exact ‹¬ _› e.1)]; exact heq
              · omega
              · (refine Weak.of (sub 1001 79) ?_ ?_ (sub_inj rfl) ?_ <;> first | exact (fun _ h => absurd h List.not_mem_nil) | (repeat' (first | exact True.intro | refine And.intro (Exists.intro _ (And.intro rfl ?_)) ?_ | exact ORel.dead | refine ORel.cells ?_ | exact ORel.row rfl (fun _ _ _ _ => DR.refl _) | refine ORel.row rfl ?_ | refine ORel.row ?_ ?_ | (first | exact VR.eq rfl rfl | exact VR.pc rfl rfl | exact VR.pr rfl rfl | exact VR.mp rfl rfl | exact VR.rs rfl rfl rfl rfl | exact VR.nilv | exact VR.nilrs rfl | exact VR.nil | refine VR.agg ?_ | refine VR.tup ?_ | refine VR.cons ?_ ?_ | refine VR.eq (eqI ?_) rfl | refine VR.eq (eqB ?_) rfl | refine VR.eq (eqS ?_) rfl | refine VR.rs rfl rfl rfl ?_ | refine VR.dr (DR.vs (fun e => e) rfl ?_) | refine VR.dr (DR.vs (fun e => (by cases e)) rfl ?_) | refine VR.dr (DR.vs (fun e => e) ?_ ?_) | refine VR.dr (DR.vs (fun e => (by cases e)) ?_ ?_)))))
                · exact wN (by omega)
                · exact (getApp hq).symm
                · exact fun x y hx hy => dr_pushW hq (five (DR.refl _) (DR.refl _) (DR.refl _) (DR.refl _) (DR.refl _)) hx hy
            · refine goes ⟨i + 2, true, ns, l.take q ++ [Mc.wC (L.getD i zK) ns], q + 1, rfl, rfl, ⟨by omega, by rw [getApp hq]; exact Nat.le_refl _, by rw [getApp hq]; omega, by omega, rfl, ?_, ?_⟩⟩ ?_ ?_
              · rw [take_push hq]; exact sh_push rfl rfl hsh
              · rw [take_push hq, ← kCall h2 ‹_› ‹_› ‹_› (fun e => by rw [getK (by omega)] at e; exact absurd e.1 (by decide))]; exact heq
              · omega
              · (refine Weak.of (sub 1001 79) ?_ ?_ (sub_inj rfl) ?_ <;> first | exact (fun _ h => absurd h List.not_mem_nil) | (repeat' (first | exact True.intro | refine And.intro (Exists.intro _ (And.intro rfl ?_)) ?_ | exact ORel.dead | refine ORel.cells ?_ | exact ORel.row rfl (fun _ _ _ _ => DR.refl _) | refine ORel.row rfl ?_ | refine ORel.row ?_ ?_ | (first | exact VR.eq rfl rfl | exact VR.pc rfl rfl | exact VR.pr rfl rfl | exact VR.mp rfl rfl | exact VR.rs rfl rfl rfl rfl | exact VR.nilv | exact VR.nilrs rfl | exact VR.nil | refine VR.agg ?_ | refine VR.tup ?_ | refine VR.cons ?_ ?_ | refine VR.eq (eqI ?_) rfl | refine VR.eq (eqB ?_) rfl | refine VR.eq (eqS ?_) rfl | refine VR.rs rfl rfl rfl ?_ | refine VR.dr (DR.vs (fun e => e) rfl ?_) | refine VR.dr (DR.vs (fun e => (by cases e)) rfl ?_) | refine VR.dr (DR.vs (fun e => e) ?_ ?_) | refine VR.dr (DR.vs (fun e => (by cases e)) ?_ ?_)))))
                · exact wN (by omega)
                · exact (getApp hq).symm
                · exact fun x y hx hy => dr_pushW hq (five (DR.refl _) (DR.refl _) (DR.refl _) (DR.refl _) (DR.refl _)) hx hy
            · refine goes ⟨i + 1, false, leafN (L.getD i zK) :: ns, l, q, rfl, rfl, ⟨by omega, hq, by omega, ?_, rfl, hsh, ?_⟩⟩ ?_ ?_
              · rw [wtM, leafN, wt, wtM]; omega
              · rw [← kLeaf h1 ‹_› (fun e => by exact ‹¬ (L.getD (i + 1) zK).f1.toList = [40]› e.2.2)]; exact heq
              · omega
              · (refine Weak.of id ?_ ?_ (fun _ _ _ _ e => e) ?_ <;> first | exact lw_of rfl | (repeat' (first | exact True.intro | refine And.intro (Exists.intro _ (And.intro rfl ?_)) ?_ | exact ORel.dead | refine ORel.cells ?_ | exact ORel.row rfl (fun _ _ _ _ => DR.refl _) | refine ORel.row rfl ?_ | refine ORel.row ?_ ?_ | (first | exact VR.eq rfl rfl | exact VR.pc rfl rfl | exact VR.pr rfl rfl | exact VR.mp rfl rfl | exact VR.rs rfl rfl rfl rfl | exact VR.nilv | exact VR.nilrs rfl | exact VR.nil | refine VR.agg ?_ | refine VR.tup ?_ | refine VR.cons ?_ ?_ | refine VR.eq (eqI ?_) rfl | refine VR.eq (eqB ?_) rfl | refine VR.eq (eqS ?_) rfl | refine VR.rs rfl rfl rfl ?_ | refine VR.dr (DR.vs (fun e => e) rfl ?_) | refine VR.dr (DR.vs (fun e => (by cases e)) rfl ?_) | refine VR.dr (DR.vs (fun e => e) ?_ ?_) | refine VR.dr (DR.vs (fun e => (by cases e)) ?_ ?_)))))
                · exact wN (by omega)
                · intro x y hx hy
                  rw [List.reverse_cons]
                  exact dr_push (by rw [List.length_reverse]) (fun _ _ _ => rfl) (dr_leaf (L.getD i zK)) hx hy
            · refine goes ⟨i + 1, false, leafN (L.getD i zK) :: ns, l, q, rfl, rfl, ⟨by omega, hq, by omega, ?_, rfl, hsh, ?_⟩⟩ ?_ ?_
              · rw [wtM, leafN, wt, wtM]; omega
              · rw [← kLeaf h1 ‹_› (fun e => by exact ‹¬ (L.getD (i + 1) zK).f0 = 5› e.2.1)]; exact heq
              · omega
              · (refine Weak.of id ?_ ?_ (fun _ _ _ _ e => e) ?_ <;> first | exact lw_of rfl | (repeat' (first | exact True.intro | refine And.intro (Exists.intro _ (And.intro rfl ?_)) ?_ | exact ORel.dead | refine ORel.cells ?_ | exact ORel.row rfl (fun _ _ _ _ => DR.refl _) | refine ORel.row rfl ?_ | refine ORel.row ?_ ?_ | (first | exact VR.eq rfl rfl | exact VR.pc rfl rfl | exact VR.pr rfl rfl | exact VR.mp rfl rfl | exact VR.rs rfl rfl rfl rfl | exact VR.nilv | exact VR.nilrs rfl | exact VR.nil | refine VR.agg ?_ | refine VR.tup ?_ | refine VR.cons ?_ ?_ | refine VR.eq (eqI ?_) rfl | refine VR.eq (eqB ?_) rfl | refine VR.eq (eqS ?_) rfl | refine VR.rs rfl rfl rfl ?_ | refine VR.dr (DR.vs (fun e => e) rfl ?_) | refine VR.dr (DR.vs (fun e => (by cases e)) rfl ?_) | refine VR.dr (DR.vs (fun e => e) ?_ ?_) | refine VR.dr (DR.vs (fun e => (by cases e)) ?_ ?_)))))
                · exact wN (by omega)
                · intro x y hx hy
                  rw [List.reverse_cons]
                  exact dr_push (by rw [List.length_reverse]) (fun _ _ _ => rfl) (dr_leaf (L.getD i zK)) hx hy
            · refine goes ⟨i + 1, false, leafN (L.getD i zK) :: ns, l, q, rfl, rfl, ⟨by omega, hq, by omega, ?_, rfl, hsh, ?_⟩⟩ ?_ ?_
              · rw [wtM, leafN, wt, wtM]; omega
              · rw [← kLeaf h1 ‹_› (fun e => by exact ‹¬ (L.getD i zK).f0 = 1› e.1)]; exact heq
              · omega
              · (refine Weak.of id ?_ ?_ (fun _ _ _ _ e => e) ?_ <;> first | exact lw_of rfl | (repeat' (first | exact True.intro | refine And.intro (Exists.intro _ (And.intro rfl ?_)) ?_ | exact ORel.dead | refine ORel.cells ?_ | exact ORel.row rfl (fun _ _ _ _ => DR.refl _) | refine ORel.row rfl ?_ | refine ORel.row ?_ ?_ | (first | exact VR.eq rfl rfl | exact VR.pc rfl rfl | exact VR.pr rfl rfl | exact VR.mp rfl rfl | exact VR.rs rfl rfl rfl rfl | exact VR.nilv | exact VR.nilrs rfl | exact VR.nil | refine VR.agg ?_ | refine VR.tup ?_ | refine VR.cons ?_ ?_ | refine VR.eq (eqI ?_) rfl | refine VR.eq (eqB ?_) rfl | refine VR.eq (eqS ?_) rfl | refine VR.rs rfl rfl rfl ?_ | refine VR.dr (DR.vs (fun e => e) rfl ?_) | refine VR.dr (DR.vs (fun e => (by cases e)) rfl ?_) | refine VR.dr (DR.vs (fun e => e) ?_ ?_) | refine VR.dr (DR.vs (fun e => (by cases e)) ?_ ?_)))))
                · exact wN (by omega)
                · intro x y hx hy
                  rw [List.reverse_cons]
                  exact dr_push (by rw [List.length_reverse]) (fun _ _ _ => rfl) (dr_leaf (L.getD i zK)) hx hy
            · refine goes ⟨i + 1, true, ns, l.take q ++ [Mc.wB ns], q + 1, rfl, rfl, ⟨by omega, by rw [getApp hq]; exact Nat.le_refl _, by rw [getApp hq]; omega, by omega, rfl, ?_, ?_⟩⟩ ?_ ?_
              · rw [take_push hq]; exact sh_push rfl rfl hsh
              · rw [take_push hq, ← kOpen h1 ‹_› ‹_›]; exact heq
              · omega
              · (refine Weak.of (sub 1001 137) ?_ ?_ (sub_inj rfl) ?_ <;> first | exact (fun _ h => absurd h List.not_mem_nil) | (repeat' (first | exact True.intro | refine And.intro (Exists.intro _ (And.intro rfl ?_)) ?_ | exact ORel.dead | refine ORel.cells ?_ | exact ORel.row rfl (fun _ _ _ _ => DR.refl _) | refine ORel.row rfl ?_ | refine ORel.row ?_ ?_ | (first | exact VR.eq rfl rfl | exact VR.pc rfl rfl | exact VR.pr rfl rfl | exact VR.mp rfl rfl | exact VR.rs rfl rfl rfl rfl | exact VR.nilv | exact VR.nilrs rfl | exact VR.nil | refine VR.agg ?_ | refine VR.tup ?_ | refine VR.cons ?_ ?_ | refine VR.eq (eqI ?_) rfl | refine VR.eq (eqB ?_) rfl | refine VR.eq (eqS ?_) rfl | refine VR.rs rfl rfl rfl ?_ | refine VR.dr (DR.vs (fun e => e) rfl ?_) | refine VR.dr (DR.vs (fun e => (by cases e)) rfl ?_) | refine VR.dr (DR.vs (fun e => e) ?_ ?_) | refine VR.dr (DR.vs (fun e => (by cases e)) ?_ ?_)))))
                · exact wN (by omega)
                · exact (getApp hq).symm
                · exact fun x y hx hy => dr_pushW hq (five (DR.refl _) (DR.refl _) (DR.refl _) (DR.refl _) (DR.refl _)) hx hy
            · refine goes ⟨i + 1, true, ns, l.take q ++ [Mc.wO 11 (L.getD i zK)], q + 1, rfl, rfl, ⟨by omega, by rw [getApp hq]; exact Nat.le_refl _, by rw [getApp hq]; omega, by omega, rfl, ?_, ?_⟩⟩ ?_ ?_
              · rw [take_push hq]; show Mc.Sh (ns.length + 1) _; rw [Mc.sh_not rfl rfl]; exact ⟨by omega, hsh⟩
              · rw [take_push hq, ← kNot h1 ‹_› ‹_›]; exact heq
              · omega
              · (refine Weak.of (sub 1001 149) ?_ ?_ (sub_inj rfl) ?_ <;> first | exact (fun _ h => absurd h List.not_mem_nil) | (repeat' (first | exact True.intro | refine And.intro (Exists.intro _ (And.intro rfl ?_)) ?_ | exact ORel.dead | refine ORel.cells ?_ | exact ORel.row rfl (fun _ _ _ _ => DR.refl _) | refine ORel.row rfl ?_ | refine ORel.row ?_ ?_ | (first | exact VR.eq rfl rfl | exact VR.pc rfl rfl | exact VR.pr rfl rfl | exact VR.mp rfl rfl | exact VR.rs rfl rfl rfl rfl | exact VR.nilv | exact VR.nilrs rfl | exact VR.nil | refine VR.agg ?_ | refine VR.tup ?_ | refine VR.cons ?_ ?_ | refine VR.eq (eqI ?_) rfl | refine VR.eq (eqB ?_) rfl | refine VR.eq (eqS ?_) rfl | refine VR.rs rfl rfl rfl ?_ | refine VR.dr (DR.vs (fun e => e) rfl ?_) | refine VR.dr (DR.vs (fun e => (by cases e)) rfl ?_) | refine VR.dr (DR.vs (fun e => e) ?_ ?_) | refine VR.dr (DR.vs (fun e => (by cases e)) ?_ ?_)))))
                · exact wN (by omega)
                · exact (getApp hq).symm
                · exact fun x y hx hy => dr_pushW hq (five (DR.refl _) (DR.refl _) (DR.refl _) (DR.refl _) (DR.refl _)) hx hy
            · exact pa_err (h := []) (heq.symm.trans (kWant h1 ‹_› ‹_› ‹_›))
        · have b2 : decide (IntKind.i64.wrap ((i : Int) + 1) < (L.length : Int)) = false := by rw [e1]; exact decide_eq_false (by omega)
          cases want
          · have hz : L.getD (i + 1) zK = zK := getK h2
            have hn1 : 1 ≤ ns.length := Mc.sh_pos _ _ hsh
            obtain ⟨a, r, rfl⟩ : ∃ a r, ns = a :: r := by cases ns with
              | nil => simp at hn1
              | cons a r => exact ⟨a, r, rfl⟩
            have hnp := Mc.sh_np _ _ hsh
            have e4 : IntKind.i64.wrap (((a :: r).length : Int) - 1) = (r.length : Int) := by rw [wrap_i64 (by simp only [List.length_cons] at *; omega) (by simp only [List.length_cons] at *; omega)]; simp
            have he : (a :: r).reverse.getD r.length z44 = a := by rw [List.reverse_cons]; exact get_end (by simp)
            (repeat' (first | refine Chk.mk ?_ ?_ | (refine Br.id ?_; first | refine Br.kt (by with_reducible first | rfl | assumption) ?_ | refine Br.kf (by with_reducible first | rfl | assumption) ?_ | refine Br.kf (show (!true) = false from rfl) ?_ | refine Br.kt (show (!false) = true from rfl) ?_ | refine Br.mk (fun h => ?_) (fun h => ?_)) | (refine (show (noInt _ _ _ && edgesOk _ _) = true from ?_); kernel_rfl)))
            all_goals try (try simp only [decide_eq_true_eq, decide_eq_false_iff_not, beq_iff_eq, beq_eq_false_iff_ne, bne_iff_ne, ne_eq, Nat.zero_add, Nat.add_zero, Int.not_lt, Int.not_le, Bool.not_eq_true', Bool.not_eq_false', ge_iff_le, gt_iff_lt] at *)
            all_goals try simp only [e1, e2, e3, e4, he, Int.toNat_natCast, Nat.sub_zero, sT, bne_eq_false_iff_eq] at *
            all_goals try (simp only [List.length_cons] at *; omega)
            all_goals try exact absurd ‹true = false› (by decide)
            · exact pa_err (h := []) (heq.symm.trans (kNosign h1 ‹_›))
            · refine goes ⟨i + 1, false, nd 12 [a] (L.getD i zK).f4 :: r, l, q, rfl, rfl, ⟨by omega, hq, by omega, ?_, rfl, hsh, ?_⟩⟩ ?_ ?_
              · rw [wtM] at *; rw [wt_nd, wtM, wtM]; omega
              · rw [← kUp0 h1 ‹_› ‹_› (by rw [hz]; decide)]; exact heq
              · omega
              · (refine Weak.of id ?_ ?_ (fun _ _ _ _ e => e) ?_ <;> first | exact lw_of rfl | (repeat' (first | exact True.intro | refine And.intro (Exists.intro _ (And.intro rfl ?_)) ?_ | exact ORel.dead | refine ORel.cells ?_ | exact ORel.row rfl (fun _ _ _ _ => DR.refl _) | refine ORel.row rfl ?_ | refine ORel.row ?_ ?_ | (first | exact VR.eq rfl rfl | exact VR.pc rfl rfl | exact VR.pr rfl rfl | exact VR.mp rfl rfl | exact VR.rs rfl rfl rfl rfl | exact VR.nilv | exact VR.nilrs rfl | exact VR.nil | refine VR.agg ?_ | refine VR.tup ?_ | refine VR.cons ?_ ?_ | refine VR.eq (eqI ?_) rfl | refine VR.eq (eqB ?_) rfl | refine VR.eq (eqS ?_) rfl | refine VR.rs rfl rfl rfl ?_ | refine VR.dr (DR.vs (fun e => e) rfl ?_) | refine VR.dr (DR.vs (fun e => (by cases e)) rfl ?_) | refine VR.dr (DR.vs (fun e => e) ?_ ?_) | refine VR.dr (DR.vs (fun e => (by cases e)) ?_ ?_)))))
                · exact wN (by omega)
                · intro x y hx hy
                  rw [List.reverse_cons (a := nd 12 [a] (L.getD i zK).f4)]
                  refine dr_push (by simp) (fun i j hi => by rw [List.reverse_cons]; exact row_pre (by simpa using hi)) ?_ hx hy
                  refine six (DR.refl _) (DR.refl _) (DR.refl _) (DR.refl _) ?_ (DR.refl _)
                  exact kids (l := [a]) rfl rfl
            · obtain ⟨k, hk, hk2, _⟩ := rd_take (levelT (Mc.opT (L.getD i zK).f1.toList)) l q (a :: r) hq hnp
              have hkl : (Mc.rdS (levelT (Mc.opT (L.getD i zK).f1.toList)) (a :: r) (l.take q).reverse).2.length = k := by rw [hk2, List.length_reverse, List.length_take]; omega
              have hkw := rd_wt (levelT (Mc.opT (L.getD i zK).f1.toList)) (l.take q).reverse (a :: r)
              rw [hkl, List.length_reverse, List.length_take] at hkw
              have hks := Mc.sh_rd (levelT (Mc.opT (L.getD i zK).f1.toList)) (l.take q).reverse (a :: r) hsh
              have hop := kOp (ev := (at_.size : Int)) (ns := a :: r) (ws := (l.take q).reverse) h1 ‹_› ‹_› (by first | exact .inl ‹_› | exact .inr ‹_›)
              refine Exists.intro (a :: r) (Exists.intro l (Chk.mk ⟨⟨by simp, fun _ _ _ _ => .refl _, rfl, fun _ _ _ _ => .refl _, hq, by omega, by simp only [List.length_reverse, List.length_cons] at *; omega⟩, hnp⟩ ?_))
              rw [hkl]
              generalize Mc.rdS (levelT (Mc.opT (L.getD i zK).f1.toList)) (a :: r) (l.take q).reverse = rr at hk2 hkl hkw hks hop ⊢
              (repeat' (first | refine Chk.mk ?_ ?_ | (refine Br.id ?_; first | refine Br.kt (by with_reducible first | rfl | assumption) ?_ | refine Br.kf (by with_reducible first | rfl | assumption) ?_ | refine Br.kf (show (!true) = false from rfl) ?_ | refine Br.kt (show (!false) = true from rfl) ?_ | refine Br.mk (fun h => ?_) (fun h => ?_)) | (refine (show (noInt _ _ _ && edgesOk _ _) = true from ?_); kernel_rfl)))
              · dsimp only; omega
              · refine goes ⟨i + 1, true, rr.1, l.take k ++ [Mc.wO (Mc.opT (L.getD i zK).f1.toList) (L.getD i zK)], k + 1, rfl, rfl, ⟨by omega, by rw [getApp (by omega)]; exact Nat.le_refl _, by rw [getApp (by omega)]; omega, by omega, rfl, ?_, ?_⟩⟩ ?_ ?_
                · rw [take_push (by omega), ← hk2]; exact sh_op opT_ne hks
                · rw [take_push (by omega), ← hk2, ← hop]; exact heq
                · omega
                · (refine Weak.of (sub 1001 226) ?_ ?_ (sub_inj rfl) ?_ <;> first | exact (fun _ h => absurd h List.not_mem_nil) | (repeat' (first | exact True.intro | refine And.intro (Exists.intro _ (And.intro rfl ?_)) ?_ | exact ORel.dead | refine ORel.cells ?_ | exact ORel.row rfl (fun _ _ _ _ => DR.refl _) | refine ORel.row rfl ?_ | refine ORel.row ?_ ?_ | (first | exact VR.eq rfl rfl | exact VR.pc rfl rfl | exact VR.pr rfl rfl | exact VR.mp rfl rfl | exact VR.rs rfl rfl rfl rfl | exact VR.nilv | exact VR.nilrs rfl | exact VR.nil | refine VR.agg ?_ | refine VR.tup ?_ | refine VR.cons ?_ ?_ | refine VR.eq (eqI ?_) rfl | refine VR.eq (eqB ?_) rfl | refine VR.eq (eqS ?_) rfl | refine VR.rs rfl rfl rfl ?_ | refine VR.dr (DR.vs (fun e => e) rfl ?_) | refine VR.dr (DR.vs (fun e => (by cases e)) rfl ?_) | refine VR.dr (DR.vs (fun e => e) ?_ ?_) | refine VR.dr (DR.vs (fun e => (by cases e)) ?_ ?_)))))
                  · exact wN (by omega)
                  · exact List.length_reverse
                  · exact fun _ _ _ _ => DR.refl _
                  · exact (getApp (by omega)).symm
                  · exact fun x y hx hy => dr_pushW (by omega) (five (DR.refl _) (DR.refl _) (DR.refl _) (DR.refl _) (DR.refl _)) hx hy
            · have r1 : (Mc.opT (L.getD i zK).f1.toList != 0) = true := bne_iff_ne.2 ‹_›
              have r2 : (levelT (Mc.opT (L.getD i zK).f1.toList) != 3) = false := by simpa using ‹levelT _ = 3›
              refine Exists.intro l (Chk.mk ⟨rfl, fun _ _ _ _ => .refl _, hq, by omega⟩ ?_)
              rcases hrg : Mc.rng (l.take q).reverse with _ | _
              · (repeat' (first | refine Chk.mk ?_ ?_ | (refine Br.id ?_; first | refine Br.kt (by with_reducible first | rfl | assumption) ?_ | refine Br.kf (by with_reducible first | rfl | assumption) ?_ | refine Br.kf (show (!true) = false from rfl) ?_ | refine Br.kt (show (!false) = true from rfl) ?_ | refine Br.mk (fun h => ?_) (fun h => ?_)) | (refine (show (noInt _ _ _ && edgesOk _ _) = true from ?_); kernel_rfl)))
                obtain ⟨k, hk, hk2, _⟩ := rd_take (levelT (Mc.opT (L.getD i zK).f1.toList)) l q (a :: r) hq hnp
                have hkl : (Mc.rdS (levelT (Mc.opT (L.getD i zK).f1.toList)) (a :: r) (l.take q).reverse).2.length = k := by rw [hk2, List.length_reverse, List.length_take]; omega
                have hkw := rd_wt (levelT (Mc.opT (L.getD i zK).f1.toList)) (l.take q).reverse (a :: r)
                rw [hkl, List.length_reverse, List.length_take] at hkw
                have hks := Mc.sh_rd (levelT (Mc.opT (L.getD i zK).f1.toList)) (l.take q).reverse (a :: r) hsh
                have hop := kOp (ev := (at_.size : Int)) (ns := a :: r) (ws := (l.take q).reverse) h1 ‹_› ‹_› (by first | exact .inl ‹_› | exact .inr ‹_›)
                refine Exists.intro (a :: r) (Exists.intro l (Chk.mk ⟨⟨by simp, fun _ _ _ _ => .refl _, rfl, fun _ _ _ _ => .refl _, hq, by omega, by simp only [List.length_reverse, List.length_cons] at *; omega⟩, hnp⟩ ?_))
                rw [hkl]
                generalize Mc.rdS (levelT (Mc.opT (L.getD i zK).f1.toList)) (a :: r) (l.take q).reverse = rr at hk2 hkl hkw hks hop ⊢
                (repeat' (first | refine Chk.mk ?_ ?_ | (refine Br.id ?_; first | refine Br.kt (by with_reducible first | rfl | assumption) ?_ | refine Br.kf (by with_reducible first | rfl | assumption) ?_ | refine Br.kf (show (!true) = false from rfl) ?_ | refine Br.kt (show (!false) = true from rfl) ?_ | refine Br.mk (fun h => ?_) (fun h => ?_)) | (refine (show (noInt _ _ _ && edgesOk _ _) = true from ?_); kernel_rfl)))
                · dsimp only; omega
                · refine goes ⟨i + 1, true, rr.1, l.take k ++ [Mc.wO (Mc.opT (L.getD i zK).f1.toList) (L.getD i zK)], k + 1, rfl, rfl, ⟨by omega, by rw [getApp (by omega)]; exact Nat.le_refl _, by rw [getApp (by omega)]; omega, by omega, rfl, ?_, ?_⟩⟩ ?_ ?_
                  · rw [take_push (by omega), ← hk2]; exact sh_op opT_ne hks
                  · rw [take_push (by omega), ← hk2, ← hop]; exact heq
                  · omega
                  · (refine Weak.of (sub 1001 226) ?_ ?_ (sub_inj rfl) ?_ <;> first | exact (fun _ h => absurd h List.not_mem_nil) | (repeat' (first | exact True.intro | refine And.intro (Exists.intro _ (And.intro rfl ?_)) ?_ | exact ORel.dead | refine ORel.cells ?_ | exact ORel.row rfl (fun _ _ _ _ => DR.refl _) | refine ORel.row rfl ?_ | refine ORel.row ?_ ?_ | (first | exact VR.eq rfl rfl | exact VR.pc rfl rfl | exact VR.pr rfl rfl | exact VR.mp rfl rfl | exact VR.rs rfl rfl rfl rfl | exact VR.nilv | exact VR.nilrs rfl | exact VR.nil | refine VR.agg ?_ | refine VR.tup ?_ | refine VR.cons ?_ ?_ | refine VR.eq (eqI ?_) rfl | refine VR.eq (eqB ?_) rfl | refine VR.eq (eqS ?_) rfl | refine VR.rs rfl rfl rfl ?_ | refine VR.dr (DR.vs (fun e => e) rfl ?_) | refine VR.dr (DR.vs (fun e => (by cases e)) rfl ?_) | refine VR.dr (DR.vs (fun e => e) ?_ ?_) | refine VR.dr (DR.vs (fun e => (by cases e)) ?_ ?_)))))
                    · exact wN (by omega)
                    · exact List.length_reverse
                    · exact fun _ _ _ _ => DR.refl _
                    · exact (getApp (by omega)).symm
                    · exact fun x y hx hy => dr_pushW (by omega) (five (DR.refl _) (DR.refl _) (DR.refl _) (DR.refl _) (DR.refl _)) hx hy
              · have HO : ¬ (Mc.opT (L.getD i zK).f1.toList ≠ 0 ∧ (levelT (Mc.opT (L.getD i zK).f1.toList) ≠ 3 ∨ Mc.rng (l.take q).reverse = false)) := fun e => by
                  rcases e.2 with e2 | e2
                  · exact e2 ‹_›
                  · rw [hrg] at e2; cases e2
                (repeat' (first | refine Chk.mk ?_ ?_ | (refine Br.id ?_; first | refine Br.kt (by with_reducible first | rfl | assumption) ?_ | refine Br.kf (by with_reducible first | rfl | assumption) ?_ | refine Br.kf (show (!true) = false from rfl) ?_ | refine Br.kt (show (!false) = true from rfl) ?_ | refine Br.mk (fun h => ?_) (fun h => ?_)) | (refine (show (noInt _ _ _ && edgesOk _ _) = true from ?_); kernel_rfl)))
                all_goals try (try simp only [decide_eq_true_eq, decide_eq_false_iff_not, beq_iff_eq, beq_eq_false_iff_ne, bne_iff_ne, ne_eq, Nat.zero_add, Nat.add_zero, Int.not_lt, Int.not_le, Bool.not_eq_true', Bool.not_eq_false', ge_iff_le, gt_iff_lt] at *)
                all_goals try simp only [sT] at *
                · refine Exists.intro (a :: r) (Exists.intro l (Chk.mk ⟨⟨by simp, fun _ _ _ _ => .refl _, rfl, fun _ _ _ _ => .refl _, hq, by omega, by simp only [List.length_reverse, List.length_cons] at *; omega⟩, hnp, Mc.sh_hcl hsh⟩ ?_))
                  have hcl := kClose (ev := (at_.size : Int)) (ns := a :: r) (ws := (l.take q).reverse) h1 ‹_› ‹_›
                  rcases hc : Mc.cl (a :: r) (l.take q).reverse with _ | pc
                  · rw [hc] at hcl
                    rw [show cloR (a :: r) (l.take q).reverse = (((Mc.rdS 1 (a :: r) (l.take q).reverse).1, []), false) from by unfold cloR; rw [hc]]
                    dsimp only
                    (repeat' (first | refine Chk.mk ?_ ?_ | (refine Br.id ?_; first | refine Br.kt (by with_reducible first | rfl | assumption) ?_ | refine Br.kf (by with_reducible first | rfl | assumption) ?_ | refine Br.kf (show (!true) = false from rfl) ?_ | refine Br.kt (show (!false) = true from rfl) ?_ | refine Br.mk (fun h => ?_) (fun h => ?_)) | (refine (show (noInt _ _ _ && edgesOk _ _) = true from ?_); kernel_rfl)))
                    exact pa_err (h := []) (heq.symm.trans hcl)
                  · rw [hc] at hcl
                    obtain ⟨k, hk, hk2⟩ := cl_take hq hnp hc
                    have hkl : pc.2.length = k := by rw [hk2, List.length_reverse, List.length_take]; omega
                    have hcw := cl_wt hc
                    rw [List.length_reverse, List.length_take] at hcw
                    rw [cloR_some hc]
                    dsimp only
                    rw [hkl]
                    (repeat' (first | refine Chk.mk ?_ ?_ | (refine Br.id ?_; first | refine Br.kt (by with_reducible first | rfl | assumption) ?_ | refine Br.kf (by with_reducible first | rfl | assumption) ?_ | refine Br.kf (show (!true) = false from rfl) ?_ | refine Br.kt (show (!false) = true from rfl) ?_ | refine Br.mk (fun h => ?_) (fun h => ?_)) | (refine (show (noInt _ _ _ && edgesOk _ _) = true from ?_); kernel_rfl)))
                    refine goes ⟨i + 1, false, pc.1, l, k, rfl, rfl, ⟨by omega, by omega, by omega, by omega, rfl, ?_, ?_⟩⟩ ?_ ?_
                    · rw [← hk2]; exact Mc.sh_close hsh hc
                    · rw [← hk2, ← heq, hcl]
                    · omega
                    · (refine Weak.of id ?_ ?_ (fun _ _ _ _ e => e) ?_ <;> first | exact lw_of rfl | (repeat' (first | exact True.intro | refine And.intro (Exists.intro _ (And.intro rfl ?_)) ?_ | exact ORel.dead | refine ORel.cells ?_ | exact ORel.row rfl (fun _ _ _ _ => DR.refl _) | refine ORel.row rfl ?_ | refine ORel.row ?_ ?_ | (first | exact VR.eq rfl rfl | exact VR.pc rfl rfl | exact VR.pr rfl rfl | exact VR.mp rfl rfl | exact VR.rs rfl rfl rfl rfl | exact VR.nilv | exact VR.nilrs rfl | exact VR.nil | refine VR.agg ?_ | refine VR.tup ?_ | refine VR.cons ?_ ?_ | refine VR.eq (eqI ?_) rfl | refine VR.eq (eqB ?_) rfl | refine VR.eq (eqS ?_) rfl | refine VR.rs rfl rfl rfl ?_ | refine VR.dr (DR.vs (fun e => e) rfl ?_) | refine VR.dr (DR.vs (fun e => (by cases e)) rfl ?_) | refine VR.dr (DR.vs (fun e => e) ?_ ?_) | refine VR.dr (DR.vs (fun e => (by cases e)) ?_ ?_)))))
                      · exact wN (by omega)
                      · exact List.length_reverse
                      · exact fun _ _ _ _ => DR.refl _
                · have r3 : ((L.getD i zK).f1.toList == [44]) = true := beq_iff_eq.2 ‹_›
                  refine Exists.intro l (Chk.mk ⟨rfl, fun _ _ _ _ => .refl _, hq, by omega⟩ ?_)
                  (repeat' (first | refine Chk.mk ?_ ?_ | (refine Br.id ?_; first | refine Br.kt (by with_reducible first | rfl | assumption) ?_ | refine Br.kf (by with_reducible first | rfl | assumption) ?_ | refine Br.kf (show (!true) = false from rfl) ?_ | refine Br.kt (show (!false) = true from rfl) ?_ | refine Br.mk (fun h => ?_) (fun h => ?_)) | (refine (show (noInt _ _ _ && edgesOk _ _) = true from ?_); kernel_rfl)))
                  all_goals try (try simp only [decide_eq_true_eq, decide_eq_false_iff_not, beq_iff_eq, beq_eq_false_iff_ne, bne_iff_ne, ne_eq, Nat.zero_add, Nat.add_zero, Int.not_lt, Int.not_le, Bool.not_eq_true', Bool.not_eq_false', ge_iff_le, gt_iff_lt] at *)
                  · obtain ⟨k, hk, hk2, _⟩ := rd_take 1 l q (a :: r) hq hnp
                    have hkl : (Mc.rdS 1 (a :: r) (l.take q).reverse).2.length = k := by rw [hk2, List.length_reverse, List.length_take]; omega
                    have hkw := rd_wt 1 (l.take q).reverse (a :: r)
                    rw [hkl, List.length_reverse, List.length_take] at hkw
                    have hks := Mc.sh_comma hsh ‹_›
                    have hop := kComma (ev := (at_.size : Int)) (ns := a :: r) (ws := (l.take q).reverse) h1 ‹_› ‹_› ‹_›
                    refine Exists.intro (a :: r) (Exists.intro l (Chk.mk ⟨⟨by simp, fun _ _ _ _ => .refl _, rfl, fun _ _ _ _ => .refl _, hq, by omega, by simp only [List.length_reverse, List.length_cons] at *; omega⟩, hnp⟩ ?_))
                    rw [hkl]
                    generalize Mc.rdS 1 (a :: r) (l.take q).reverse = rr at hk2 hkl hkw hks hop ⊢
                    (repeat' (first | refine Chk.mk ?_ ?_ | (refine Br.id ?_; first | refine Br.kt (by with_reducible first | rfl | assumption) ?_ | refine Br.kf (by with_reducible first | rfl | assumption) ?_ | refine Br.kf (show (!true) = false from rfl) ?_ | refine Br.kt (show (!false) = true from rfl) ?_ | refine Br.mk (fun h => ?_) (fun h => ?_)) | (refine (show (noInt _ _ _ && edgesOk _ _) = true from ?_); kernel_rfl)))
                    refine goes ⟨i + 1, true, rr.1, l, k, rfl, rfl, ⟨by omega, by omega, by omega, by omega, rfl, ?_, ?_⟩⟩ ?_ ?_
                    · rw [← hk2]; exact hks
                    · rw [← hk2, ← hop]; exact heq
                    · omega
                    · (refine Weak.of id ?_ ?_ (fun _ _ _ _ e => e) ?_ <;> first | exact lw_of rfl | (repeat' (first | exact True.intro | refine And.intro (Exists.intro _ (And.intro rfl ?_)) ?_ | exact ORel.dead | refine ORel.cells ?_ | exact ORel.row rfl (fun _ _ _ _ => DR.refl _) | refine ORel.row rfl ?_ | refine ORel.row ?_ ?_ | (first | exact VR.eq rfl rfl | exact VR.pc rfl rfl | exact VR.pr rfl rfl | exact VR.mp rfl rfl | exact VR.rs rfl rfl rfl rfl | exact VR.nilv | exact VR.nilrs rfl | exact VR.nil | refine VR.agg ?_ | refine VR.tup ?_ | refine VR.cons ?_ ?_ | refine VR.eq (eqI ?_) rfl | refine VR.eq (eqB ?_) rfl | refine VR.eq (eqS ?_) rfl | refine VR.rs rfl rfl rfl ?_ | refine VR.dr (DR.vs (fun e => e) rfl ?_) | refine VR.dr (DR.vs (fun e => (by cases e)) rfl ?_) | refine VR.dr (DR.vs (fun e => e) ?_ ?_) | refine VR.dr (DR.vs (fun e => (by cases e)) ?_ ?_)))))
                      · exact wN (by omega)
                      · exact List.length_reverse
                      · exact fun _ _ _ _ => DR.refl _
                  · exact pa_err (h := []) (heq.symm.trans (kBad h1 ‹_› ‹_› HO ‹_› (fun e => absurd e.2 (by rw [‹Mc.inC _ = false›]; decide))))
                · exact pa_err (h := []) (heq.symm.trans (kBad h1 ‹_› ‹_› HO ‹_› (fun e => absurd e.1 ‹_›)))
            · refine Exists.intro (a :: r) (Exists.intro l (Chk.mk ⟨⟨by simp, fun _ _ _ _ => .refl _, rfl, fun _ _ _ _ => .refl _, hq, by omega, by simp only [List.length_reverse, List.length_cons] at *; omega⟩, hnp, Mc.sh_hcl hsh⟩ ?_))
              have hcl := kClose (ev := (at_.size : Int)) (ns := a :: r) (ws := (l.take q).reverse) h1 ‹_› ‹_›
              rcases hc : Mc.cl (a :: r) (l.take q).reverse with _ | pc
              · rw [hc] at hcl
                rw [show cloR (a :: r) (l.take q).reverse = (((Mc.rdS 1 (a :: r) (l.take q).reverse).1, []), false) from by unfold cloR; rw [hc]]
                dsimp only
                (repeat' (first | refine Chk.mk ?_ ?_ | (refine Br.id ?_; first | refine Br.kt (by with_reducible first | rfl | assumption) ?_ | refine Br.kf (by with_reducible first | rfl | assumption) ?_ | refine Br.kf (show (!true) = false from rfl) ?_ | refine Br.kt (show (!false) = true from rfl) ?_ | refine Br.mk (fun h => ?_) (fun h => ?_)) | (refine (show (noInt _ _ _ && edgesOk _ _) = true from ?_); kernel_rfl)))
                exact pa_err (h := []) (heq.symm.trans hcl)
              · rw [hc] at hcl
                obtain ⟨k, hk, hk2⟩ := cl_take hq hnp hc
                have hkl : pc.2.length = k := by rw [hk2, List.length_reverse, List.length_take]; omega
                have hcw := cl_wt hc
                rw [List.length_reverse, List.length_take] at hcw
                rw [cloR_some hc]
                dsimp only
                rw [hkl]
                (repeat' (first | refine Chk.mk ?_ ?_ | (refine Br.id ?_; first | refine Br.kt (by with_reducible first | rfl | assumption) ?_ | refine Br.kf (by with_reducible first | rfl | assumption) ?_ | refine Br.kf (show (!true) = false from rfl) ?_ | refine Br.kt (show (!false) = true from rfl) ?_ | refine Br.mk (fun h => ?_) (fun h => ?_)) | (refine (show (noInt _ _ _ && edgesOk _ _) = true from ?_); kernel_rfl)))
                refine goes ⟨i + 1, false, pc.1, l, k, rfl, rfl, ⟨by omega, by omega, by omega, by omega, rfl, ?_, ?_⟩⟩ ?_ ?_
                · rw [← hk2]; exact Mc.sh_close hsh hc
                · rw [← hk2, ← heq, hcl]
                · omega
                · (refine Weak.of id ?_ ?_ (fun _ _ _ _ e => e) ?_ <;> first | exact lw_of rfl | (repeat' (first | exact True.intro | refine And.intro (Exists.intro _ (And.intro rfl ?_)) ?_ | exact ORel.dead | refine ORel.cells ?_ | exact ORel.row rfl (fun _ _ _ _ => DR.refl _) | refine ORel.row rfl ?_ | refine ORel.row ?_ ?_ | (first | exact VR.eq rfl rfl | exact VR.pc rfl rfl | exact VR.pr rfl rfl | exact VR.mp rfl rfl | exact VR.rs rfl rfl rfl rfl | exact VR.nilv | exact VR.nilrs rfl | exact VR.nil | refine VR.agg ?_ | refine VR.tup ?_ | refine VR.cons ?_ ?_ | refine VR.eq (eqI ?_) rfl | refine VR.eq (eqB ?_) rfl | refine VR.eq (eqS ?_) rfl | refine VR.rs rfl rfl rfl ?_ | refine VR.dr (DR.vs (fun e => e) rfl ?_) | refine VR.dr (DR.vs (fun e => (by cases e)) rfl ?_) | refine VR.dr (DR.vs (fun e => e) ?_ ?_) | refine VR.dr (DR.vs (fun e => (by cases e)) ?_ ?_)))))
                  · exact wN (by omega)
                  · exact List.length_reverse
                  · exact fun _ _ _ _ => DR.refl _
            · have r3 : ((L.getD i zK).f1.toList == [44]) = true := beq_iff_eq.2 ‹_›
              refine Exists.intro l (Chk.mk ⟨rfl, fun _ _ _ _ => .refl _, hq, by omega⟩ ?_)
              (repeat' (first | refine Chk.mk ?_ ?_ | (refine Br.id ?_; first | refine Br.kt (by with_reducible first | rfl | assumption) ?_ | refine Br.kf (by with_reducible first | rfl | assumption) ?_ | refine Br.kf (show (!true) = false from rfl) ?_ | refine Br.kt (show (!false) = true from rfl) ?_ | refine Br.mk (fun h => ?_) (fun h => ?_)) | (refine (show (noInt _ _ _ && edgesOk _ _) = true from ?_); kernel_rfl)))
              all_goals try (try simp only [decide_eq_true_eq, decide_eq_false_iff_not, beq_iff_eq, beq_eq_false_iff_ne, bne_iff_ne, ne_eq, Nat.zero_add, Nat.add_zero, Int.not_lt, Int.not_le, Bool.not_eq_true', Bool.not_eq_false', ge_iff_le, gt_iff_lt] at *)
              · obtain ⟨k, hk, hk2, _⟩ := rd_take 1 l q (a :: r) hq hnp
                have hkl : (Mc.rdS 1 (a :: r) (l.take q).reverse).2.length = k := by rw [hk2, List.length_reverse, List.length_take]; omega
                have hkw := rd_wt 1 (l.take q).reverse (a :: r)
                rw [hkl, List.length_reverse, List.length_take] at hkw
                have hks := Mc.sh_comma hsh ‹_›
                have hop := kComma (ev := (at_.size : Int)) (ns := a :: r) (ws := (l.take q).reverse) h1 ‹_› ‹_› ‹_›
                refine Exists.intro (a :: r) (Exists.intro l (Chk.mk ⟨⟨by simp, fun _ _ _ _ => .refl _, rfl, fun _ _ _ _ => .refl _, hq, by omega, by simp only [List.length_reverse, List.length_cons] at *; omega⟩, hnp⟩ ?_))
                rw [hkl]
                generalize Mc.rdS 1 (a :: r) (l.take q).reverse = rr at hk2 hkl hkw hks hop ⊢
                (repeat' (first | refine Chk.mk ?_ ?_ | (refine Br.id ?_; first | refine Br.kt (by with_reducible first | rfl | assumption) ?_ | refine Br.kf (by with_reducible first | rfl | assumption) ?_ | refine Br.kf (show (!true) = false from rfl) ?_ | refine Br.kt (show (!false) = true from rfl) ?_ | refine Br.mk (fun h => ?_) (fun h => ?_)) | (refine (show (noInt _ _ _ && edgesOk _ _) = true from ?_); kernel_rfl)))
                refine goes ⟨i + 1, true, rr.1, l, k, rfl, rfl, ⟨by omega, by omega, by omega, by omega, rfl, ?_, ?_⟩⟩ ?_ ?_
                · rw [← hk2]; exact hks
                · rw [← hk2, ← hop]; exact heq
                · omega
                · (refine Weak.of id ?_ ?_ (fun _ _ _ _ e => e) ?_ <;> first | exact lw_of rfl | (repeat' (first | exact True.intro | refine And.intro (Exists.intro _ (And.intro rfl ?_)) ?_ | exact ORel.dead | refine ORel.cells ?_ | exact ORel.row rfl (fun _ _ _ _ => DR.refl _) | refine ORel.row rfl ?_ | refine ORel.row ?_ ?_ | (first | exact VR.eq rfl rfl | exact VR.pc rfl rfl | exact VR.pr rfl rfl | exact VR.mp rfl rfl | exact VR.rs rfl rfl rfl rfl | exact VR.nilv | exact VR.nilrs rfl | exact VR.nil | refine VR.agg ?_ | refine VR.tup ?_ | refine VR.cons ?_ ?_ | refine VR.eq (eqI ?_) rfl | refine VR.eq (eqB ?_) rfl | refine VR.eq (eqS ?_) rfl | refine VR.rs rfl rfl rfl ?_ | refine VR.dr (DR.vs (fun e => e) rfl ?_) | refine VR.dr (DR.vs (fun e => (by cases e)) rfl ?_) | refine VR.dr (DR.vs (fun e => e) ?_ ?_) | refine VR.dr (DR.vs (fun e => (by cases e)) ?_ ?_)))))
                  · exact wN (by omega)
                  · exact List.length_reverse
                  · exact fun _ _ _ _ => DR.refl _
              · exact pa_err (h := []) (heq.symm.trans (kBad h1 ‹_› ‹_› (fun e => e.1 ‹Mc.opT _ = 0›) ‹_› (fun e => absurd e.2 (by rw [‹Mc.inC _ = false›]; decide))))
            · exact pa_err (h := []) (heq.symm.trans (kBad h1 ‹_› ‹_› (fun e => e.1 ‹Mc.opT _ = 0›) ‹_› (fun e => absurd e.1 ‹_›)))
          · have hz : L.getD (i + 1) zK = zK := getK h2
            (repeat' (first | refine Chk.mk ?_ ?_ | (refine Br.id ?_; first | refine Br.kt (by with_reducible first | rfl | assumption) ?_ | refine Br.kf (by with_reducible first | rfl | assumption) ?_ | refine Br.kf (show (!true) = false from rfl) ?_ | refine Br.kt (show (!false) = true from rfl) ?_ | refine Br.mk (fun h => ?_) (fun h => ?_)) | (refine (show (noInt _ _ _ && edgesOk _ _) = true from ?_); kernel_rfl)))
            all_goals try (try simp only [decide_eq_true_eq, decide_eq_false_iff_not, beq_iff_eq, beq_eq_false_iff_ne, bne_iff_ne, ne_eq, Nat.zero_add, Nat.add_zero, Int.not_lt, Int.not_le, Bool.not_eq_true', Bool.not_eq_false', ge_iff_le, gt_iff_lt] at *)
            all_goals try simp only [e1, e2, e3, Int.toNat_natCast, sT, bne_eq_false_iff_eq] at *
            all_goals try omega
            · refine goes ⟨i + 1, false, leafN (L.getD i zK) :: ns, l, q, rfl, rfl, ⟨by omega, hq, by omega, ?_, rfl, hsh, ?_⟩⟩ ?_ ?_
              · rw [wtM, leafN, wt, wtM]; omega
              · rw [← kLeaf h1 ‹_› (fun e => by rw [hz] at e; exact absurd e.2.1 (by decide))]; exact heq
              · omega
              · (refine Weak.of id ?_ ?_ (fun _ _ _ _ e => e) ?_ <;> first | exact lw_of rfl | (repeat' (first | exact True.intro | refine And.intro (Exists.intro _ (And.intro rfl ?_)) ?_ | exact ORel.dead | refine ORel.cells ?_ | exact ORel.row rfl (fun _ _ _ _ => DR.refl _) | refine ORel.row rfl ?_ | refine ORel.row ?_ ?_ | (first | exact VR.eq rfl rfl | exact VR.pc rfl rfl | exact VR.pr rfl rfl | exact VR.mp rfl rfl | exact VR.rs rfl rfl rfl rfl | exact VR.nilv | exact VR.nilrs rfl | exact VR.nil | refine VR.agg ?_ | refine VR.tup ?_ | refine VR.cons ?_ ?_ | refine VR.eq (eqI ?_) rfl | refine VR.eq (eqB ?_) rfl | refine VR.eq (eqS ?_) rfl | refine VR.rs rfl rfl rfl ?_ | refine VR.dr (DR.vs (fun e => e) rfl ?_) | refine VR.dr (DR.vs (fun e => (by cases e)) rfl ?_) | refine VR.dr (DR.vs (fun e => e) ?_ ?_) | refine VR.dr (DR.vs (fun e => (by cases e)) ?_ ?_)))))
                · exact wN (by omega)
                · intro x y hx hy
                  rw [List.reverse_cons]
                  exact dr_push (by rw [List.length_reverse]) (fun _ _ _ => rfl) (dr_leaf (L.getD i zK)) hx hy
            · refine goes ⟨i + 1, false, leafN (L.getD i zK) :: ns, l, q, rfl, rfl, ⟨by omega, hq, by omega, ?_, rfl, hsh, ?_⟩⟩ ?_ ?_
              · rw [wtM, leafN, wt, wtM]; omega
              · rw [← kLeaf h1 ‹_› (fun e => by rw [hz] at e; exact absurd e.2.1 (by decide))]; exact heq
              · omega
              · (refine Weak.of id ?_ ?_ (fun _ _ _ _ e => e) ?_ <;> first | exact lw_of rfl | (repeat' (first | exact True.intro | refine And.intro (Exists.intro _ (And.intro rfl ?_)) ?_ | exact ORel.dead | refine ORel.cells ?_ | exact ORel.row rfl (fun _ _ _ _ => DR.refl _) | refine ORel.row rfl ?_ | refine ORel.row ?_ ?_ | (first | exact VR.eq rfl rfl | exact VR.pc rfl rfl | exact VR.pr rfl rfl | exact VR.mp rfl rfl | exact VR.rs rfl rfl rfl rfl | exact VR.nilv | exact VR.nilrs rfl | exact VR.nil | refine VR.agg ?_ | refine VR.tup ?_ | refine VR.cons ?_ ?_ | refine VR.eq (eqI ?_) rfl | refine VR.eq (eqB ?_) rfl | refine VR.eq (eqS ?_) rfl | refine VR.rs rfl rfl rfl ?_ | refine VR.dr (DR.vs (fun e => e) rfl ?_) | refine VR.dr (DR.vs (fun e => (by cases e)) rfl ?_) | refine VR.dr (DR.vs (fun e => e) ?_ ?_) | refine VR.dr (DR.vs (fun e => (by cases e)) ?_ ?_)))))
                · exact wN (by omega)
                · intro x y hx hy
                  rw [List.reverse_cons]
                  exact dr_push (by rw [List.length_reverse]) (fun _ _ _ => rfl) (dr_leaf (L.getD i zK)) hx hy
            · refine goes ⟨i + 1, true, ns, l.take q ++ [Mc.wB ns], q + 1, rfl, rfl, ⟨by omega, by rw [getApp hq]; exact Nat.le_refl _, by rw [getApp hq]; omega, by omega, rfl, ?_, ?_⟩⟩ ?_ ?_
              · rw [take_push hq]; exact sh_push rfl rfl hsh
              · rw [take_push hq, ← kOpen h1 ‹_› ‹_›]; exact heq
              · omega
              · (refine Weak.of (sub 1001 137) ?_ ?_ (sub_inj rfl) ?_ <;> first | exact (fun _ h => absurd h List.not_mem_nil) | (repeat' (first | exact True.intro | refine And.intro (Exists.intro _ (And.intro rfl ?_)) ?_ | exact ORel.dead | refine ORel.cells ?_ | exact ORel.row rfl (fun _ _ _ _ => DR.refl _) | refine ORel.row rfl ?_ | refine ORel.row ?_ ?_ | (first | exact VR.eq rfl rfl | exact VR.pc rfl rfl | exact VR.pr rfl rfl | exact VR.mp rfl rfl | exact VR.rs rfl rfl rfl rfl | exact VR.nilv | exact VR.nilrs rfl | exact VR.nil | refine VR.agg ?_ | refine VR.tup ?_ | refine VR.cons ?_ ?_ | refine VR.eq (eqI ?_) rfl | refine VR.eq (eqB ?_) rfl | refine VR.eq (eqS ?_) rfl | refine VR.rs rfl rfl rfl ?_ | refine VR.dr (DR.vs (fun e => e) rfl ?_) | refine VR.dr (DR.vs (fun e => (by cases e)) rfl ?_) | refine VR.dr (DR.vs (fun e => e) ?_ ?_) | refine VR.dr (DR.vs (fun e => (by cases e)) ?_ ?_)))))
                · exact wN (by omega)
                · exact (getApp hq).symm
                · exact fun x y hx hy => dr_pushW hq (five (DR.refl _) (DR.refl _) (DR.refl _) (DR.refl _) (DR.refl _)) hx hy
            · refine goes ⟨i + 1, true, ns, l.take q ++ [Mc.wO 11 (L.getD i zK)], q + 1, rfl, rfl, ⟨by omega, by rw [getApp hq]; exact Nat.le_refl _, by rw [getApp hq]; omega, by omega, rfl, ?_, ?_⟩⟩ ?_ ?_
              · rw [take_push hq]; show Mc.Sh (ns.length + 1) _; rw [Mc.sh_not rfl rfl]; exact ⟨by omega, hsh⟩
              · rw [take_push hq, ← kNot h1 ‹_› ‹_›]; exact heq
              · omega
              · (refine Weak.of (sub 1001 149) ?_ ?_ (sub_inj rfl) ?_ <;> first | exact (fun _ h => absurd h List.not_mem_nil) | (repeat' (first | exact True.intro | refine And.intro (Exists.intro _ (And.intro rfl ?_)) ?_ | exact ORel.dead | refine ORel.cells ?_ | exact ORel.row rfl (fun _ _ _ _ => DR.refl _) | refine ORel.row rfl ?_ | refine ORel.row ?_ ?_ | (first | exact VR.eq rfl rfl | exact VR.pc rfl rfl | exact VR.pr rfl rfl | exact VR.mp rfl rfl | exact VR.rs rfl rfl rfl rfl | exact VR.nilv | exact VR.nilrs rfl | exact VR.nil | refine VR.agg ?_ | refine VR.tup ?_ | refine VR.cons ?_ ?_ | refine VR.eq (eqI ?_) rfl | refine VR.eq (eqB ?_) rfl | refine VR.eq (eqS ?_) rfl | refine VR.rs rfl rfl rfl ?_ | refine VR.dr (DR.vs (fun e => e) rfl ?_) | refine VR.dr (DR.vs (fun e => (by cases e)) rfl ?_) | refine VR.dr (DR.vs (fun e => e) ?_ ?_) | refine VR.dr (DR.vs (fun e => (by cases e)) ?_ ?_)))))
                · exact wN (by omega)
                · exact (getApp hq).symm
                · exact fun x y hx hy => dr_pushW hq (five (DR.refl _) (DR.refl _) (DR.refl _) (DR.refl _) (DR.refl _)) hx hy
            · exact pa_err (h := []) (heq.symm.trans (kWant h1 ‹_› ‹_› ‹_›))
      · have b1 : decide ((i : Int) < (L.length : Int)) = false := decide_eq_false (by omega)
        cases want
        · obtain rfl : i = L.length := by omega
          rw [List.drop_length, Mc.m_nil] at heq
          have hnp := Mc.sh_np _ _ hsh
          (repeat' (first | refine Chk.mk ?_ ?_ | (refine Br.id ?_; first | refine Br.kt (by with_reducible first | rfl | assumption) ?_ | refine Br.kf (by with_reducible first | rfl | assumption) ?_ | refine Br.kf (show (!true) = false from rfl) ?_ | refine Br.kt (show (!false) = true from rfl) ?_ | refine Br.mk (fun h => ?_) (fun h => ?_)) | (refine (show (noInt _ _ _ && edgesOk _ _) = true from ?_); kernel_rfl)))
          obtain ⟨k, hk, hk2, _⟩ := rd_take 1 l q ns hq hnp
          have hkl : (Mc.rdS 1 ns (l.take q).reverse).2.length = k := by rw [hk2, List.length_reverse, List.length_take]; omega
          have hkw := rd_wt 1 (l.take q).reverse ns
          have hks := Mc.sh_rd 1 (l.take q).reverse ns hsh
          refine Exists.intro ns (Exists.intro l (Chk.mk ⟨⟨by simp, fun _ _ _ _ => .refl _, rfl, fun _ _ _ _ => .refl _, hq, by omega, by omega⟩, hnp⟩ ?_))
          rw [hkl]
          unfold Mc.endM at heq
          rw [if_neg (by decide)] at heq
          rw [List.length_reverse, List.length_take] at hkw
          generalize Mc.rdS 1 ns (l.take q).reverse = rr at hk2 hkl hkw hks heq ⊢
          obtain ⟨ns1, ws1⟩ := rr
          dsimp only at hk2 hkl hkw hks heq ⊢
          rcases Nat.eq_zero_or_pos k with h0 | h0
          · subst h0
            obtain rfl : ws1 = [] := List.length_eq_zero_iff.1 hkl
            rw [if_pos rfl] at heq
            have hl1 : ns1.length = 1 := hks
            obtain ⟨x, rfl⟩ : ∃ x, ns1 = [x] := List.length_eq_one_iff.1 hl1
            (repeat' (first | refine Chk.mk ?_ ?_ | (refine Br.id ?_; first | refine Br.kt (by with_reducible first | rfl | assumption) ?_ | refine Br.kf (by with_reducible first | rfl | assumption) ?_ | refine Br.kf (show (!true) = false from rfl) ?_ | refine Br.kt (show (!false) = true from rfl) ?_ | refine Br.mk (fun h => ?_) (fun h => ?_)) | (refine (show (noInt _ _ _ && edgesOk _ _) = true from ?_); kernel_rfl)))
            · exact ⟨Int.le_refl 0, show (0 : Int) < 1 by decide⟩
            · refine Exists.intro x (Chk.mk ⟨rfl, ?_⟩ ?_)
              · rw [wtM, wtM] at hkw; omega
              · (repeat' (first | refine Chk.mk ?_ ?_ | (refine Br.id ?_; first | refine Br.kt (by with_reducible first | rfl | assumption) ?_ | refine Br.kf (by with_reducible first | rfl | assumption) ?_ | refine Br.kf (show (!true) = false from rfl) ?_ | refine Br.kt (show (!false) = true from rfl) ?_ | refine Br.mk (fun h => ?_) (fun h => ?_)) | (refine (show (noInt _ _ _ && edgesOk _ _) = true from ?_); kernel_rfl)))
                · refine pa_err (h := []) (heq.symm.trans ?_)
                  dsimp only
                  (try simp only [decide_eq_true_eq, decide_eq_false_iff_not, beq_iff_eq, beq_eq_false_iff_ne, bne_iff_ne, ne_eq, Nat.zero_add, Nat.add_zero, Int.not_lt, Int.not_le, Bool.not_eq_true', Bool.not_eq_false', ge_iff_le, gt_iff_lt] at *)
                  rw [if_pos (by omega)]
                · exact ⟨Int.le_refl 0, show (0 : Int) < 1 by decide⟩
                · (try simp only [decide_eq_true_eq, decide_eq_false_iff_not, beq_iff_eq, beq_eq_false_iff_ne, bne_iff_ne, ne_eq, Nat.zero_add, Nat.add_zero, Int.not_lt, Int.not_le, Bool.not_eq_true', Bool.not_eq_false', ge_iff_le, gt_iff_lt] at *)
                  rw [if_neg (by omega)] at heq
                  subst heq
                  exact ⟨_, DR.refl _, rfl⟩
          · have hb : decide ((k : Int) > 0) = true := decide_eq_true (by omega)
            (repeat' (first | refine Chk.mk ?_ ?_ | (refine Br.id ?_; first | refine Br.kt (by with_reducible first | rfl | assumption) ?_ | refine Br.kf (by with_reducible first | rfl | assumption) ?_ | refine Br.kf (show (!true) = false from rfl) ?_ | refine Br.kt (show (!false) = true from rfl) ?_ | refine Br.mk (fun h => ?_) (fun h => ?_)) | (refine (show (noInt _ _ _ && edgesOk _ _) = true from ?_); kernel_rfl)))
            refine pa_err (h := []) (heq.symm.trans ?_)
            rw [if_neg (fun e => by subst e; simp at hkl; omega)]; rfl
        · obtain rfl : i = L.length := by omega
          rw [List.drop_length, Mc.m_nil] at heq
          (repeat' (first | refine Chk.mk ?_ ?_ | (refine Br.id ?_; first | refine Br.kt (by with_reducible first | rfl | assumption) ?_ | refine Br.kf (by with_reducible first | rfl | assumption) ?_ | refine Br.kf (show (!true) = false from rfl) ?_ | refine Br.kt (show (!false) = true from rfl) ?_ | refine Br.mk (fun h => ?_) (fun h => ?_)) | (refine (show (noInt _ _ _ && edgesOk _ _) = true from ?_); kernel_rfl)))
          exact pa_err (h := []) heq.symm
end Go.Proofs.YtfgfoofojofnmaaDoor.V
