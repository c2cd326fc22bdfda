/- blame.Parts, by the abstract machine. -/
import Derived.Test.YtanfllomeheiiaaGreatDoorXU
import Derived.Test.YtanfllomeheiiaaGreatDoorXTO
set_option linter.unusedVariables false
set_option linter.unusedSimpArgs false
namespace Go.Proofs.YtanfllomeheiiaaGreatDoor.X
open Go.XM
structure Ln where
  c : Int
  p : ByteArray
  n : Int
structure Pt where
  a : Nat
  b : Nat
  l : Ln
def zL : Ln := ⟨0, ⟨#[]⟩, 0⟩
def zP : Pt := ⟨0, 0, zL⟩
def encL (x : Ln) : Nat → D
  | 0 => .a (.int .u64 x.c)
  | 1 => .a (.string x.p)
  | 2 => .a (.int .i64 x.n)
  | _ => default
def encP (x : Pt) : Nat → D
  | 0 => .a (.int .i64 x.a)
  | 1 => .a (.int .i64 x.b)
  | 2 => .a (.int .u64 x.l.c)
  | 3 => .a (.string x.l.p)
  | 4 => .a (.int .i64 x.l.n)
  | _ => default
def dL (l : List Ln) : AV := .d (.vs false l.length 3 (rowC encL zL l))
/-- Does the second line stand right behind the first? -/
def flw (x y : Ln) : Prop := x.c = y.c ∧ x.p = y.p ∧ x.n < y.n ∧ IntKind.i64.wrap (y.n - 1) = x.n
def setTo (l : List Pt) (i : Nat) : List Pt := l.take (l.length - 1) ++ [⟨(l.getD (l.length - 1) zP).a, i, (l.getD (l.length - 1) zP).l⟩]
open Classical in
noncomputable def pts (l : List Ln) : Nat → List Pt
  | 0 => []
  | i + 1 => if pts l i ≠ [] ∧ flw (l.getD (i - 1) zL) (l.getD i zL) then setTo (pts l i) i else pts l i ++ [⟨i, i, l.getD i zL⟩]
theorem pts_len (l : List Ln) : ∀ i, (pts l i).length ≤ i
  | 0 => Nat.le_refl _
  | i + 1 => by
    have := pts_len l i
    unfold pts
    split
    · rename_i h
      have : 0 < (pts l i).length := List.length_pos_iff.2 h.1
      simp [setTo]; omega
    · simp; omega
theorem pts_set {l : List Ln} {i : Nat} (h : pts l i ≠ []) (h2 : flw (l.getD (i - 1) zL) (l.getD i zL)) : pts l (i + 1) = setTo (pts l i) i := by
  rw [pts, if_pos ⟨h, h2⟩]
theorem pts_app {l : List Ln} {i : Nat} (h : pts l i = [] ∨ ¬ flw (l.getD (i - 1) zL) (l.getD i zL)) : pts l (i + 1) = pts l i ++ [⟨i, i, l.getD i zL⟩] := by
  rw [pts, if_neg (fun q => h.elim q.1 (fun f => f q.2))]
theorem set_len {l : List Pt} {i : Nat} (h : l ≠ []) : (setTo l i).length = l.length := by
  have : 0 < l.length := List.length_pos_iff.2 h
  simp [setTo]; omega
theorem set_row {l : List Pt} {i : Nat} (h : l ≠ []) {x y : Nat} (hx : x < l.length) (hy : y < 5) : DR (putC (rowC encP zP l) (l.length - 1) (0 + (1, 1, false).fst) [D.a (Value.int IntKind.i64 (i : Int))] x y) (rowC encP zP (setTo l i) x y) := by
  have h0 : 0 < l.length := List.length_pos_iff.2 h
  refine DR.of ?_
  unfold putC
  show (if x = l.length - 1 ∧ 1 ≤ y ∧ y < 1 + 1 then _ else encP (l.getD x zP) y) = encP ((setTo l i).getD x zP) y
  unfold setTo
  by_cases hl : x = l.length - 1
  · have e : (l.take (l.length - 1) ++ [(⟨(l.getD (l.length - 1) zP).a, i, (l.getD (l.length - 1) zP).l⟩ : Pt)]).getD x zP = ⟨(l.getD (l.length - 1) zP).a, i, (l.getD (l.length - 1) zP).l⟩ := by
      rw [List.getD_eq_getElem?_getD, List.getElem?_append_right (by simp; omega)]
      have : x - (l.take (l.length - 1)).length = 0 := by simp; omega
      rw [this]; rfl
    rw [e]
    subst hl
    rcases y with _ | _ | _ | _ | _ | y
    · rw [if_neg (by omega)]; rfl
    · rw [if_pos (by omega)]; rfl
    · rw [if_neg (by omega)]; rfl
    · rw [if_neg (by omega)]; rfl
    · rw [if_neg (by omega)]; rfl
    · omega
  · rw [if_neg (fun q => hl q.1)]
    have e : (l.take (l.length - 1) ++ [(⟨(l.getD (l.length - 1) zP).a, i, (l.getD (l.length - 1) zP).l⟩ : Pt)]).getD x zP = l.getD x zP := by
      rw [List.getD_eq_getElem?_getD, List.getD_eq_getElem?_getD, List.getElem?_append_left (by simp; omega), List.getElem?_take, if_pos (by omega), List.getD_eq_getElem?_getD]
    rw [e]
theorem five {p : Nat → Prop} (h0 : p 0) (h1 : p 1) (h2 : p 2) (h3 : p 3) (h4 : p 4) : ∀ j, j < 5 → p j := fun j hj => by
  rcases j with _ | _ | _ | _ | _ | j
  · exact h0
  · exact h1
  · exact h2
  · exact h3
  · exact h4
  · omega
def PartsPost (l : List Ln) (v : AV) (h : Heap) : Prop := v = .rs 1001 0 (pts l l.length).length ∧ get h 1001 = some (.row (pts l l.length).length 5 (rowC encP zP (pts l l.length)))
set_option maxRecDepth 100000 in
set_option maxHeartbeats 4000000 in
theorem parts_v (l : List Ln) (hl : l.length ≤ 1000000000) : LSpec Tryz.prog 5 [dL l] [] (PartsPost l) := by
  refine LSpec.intro (E := ⟨Tr.fn 10 ttx, fun _ => none, [62], Tryz.f5.ntmps, false⟩) ttx_ok (fun _ _ h => by cases h) mixed Tryz.func5 rfl rfl ?_
  unfold dL
  refine Exists.intro (fun (m : Nat) (s : Slots) (h : Heap) => ∃ (i : Nat), s = [(0, .d (.vs false l.length 3 (rowC encL zL l))), (3, .rs 1001 0 (pts l i).length), (8, .d (.vs false l.length 3 (rowC encL zL l))), (9, av (.int .i64 l.length)), (10, av (.int .i64 i))] ∧ h = [(1001, .row (pts l i).length 5 (rowC encP zP (pts l i)))] ∧ i ≤ l.length ∧ m = l.length - i) ?_
  refine And.intro ?_ (fun m s h hI => ?_)
  · refine ⟨_, _, _, Weak.trans (Weak.row (r := 1001) (k := 5) (rowC encP zP []) rfl) ?_, 0, rfl, rfl, Nat.zero_le _, rfl⟩
    (refine Weak.of id ?_ ?_ (fun _ _ _ _ e => e) ?_ <;> first | exact lw_of rfl | (repeat' (first | exact True.intro | refine And.intro (Exists.intro _ (And.intro rfl ?_)) ?_ | exact ORel.dead | refine ORel.cells ?_ | exact ORel.row rfl (fun _ _ _ _ => DR.refl _) | refine ORel.row rfl ?_ | refine ORel.row ?_ ?_ | (first | exact VR.eq rfl rfl | exact VR.pc rfl rfl | exact VR.pr rfl rfl | exact VR.mp rfl rfl | exact VR.rs rfl rfl rfl rfl | exact VR.nilv | exact VR.nilrs rfl | exact VR.nil | refine VR.agg ?_ | refine VR.tup ?_ | refine VR.cons ?_ ?_ | refine VR.eq (eqI ?_) rfl | refine VR.eq (eqB ?_) rfl | refine VR.eq (eqS ?_) rfl | refine VR.rs rfl rfl rfl ?_ | refine VR.dr (DR.vs (fun e => e) rfl ?_) | refine VR.dr (DR.vs (fun e => (by cases e)) rfl ?_) | refine VR.dr (DR.vs (fun e => e) ?_ ?_) | refine VR.dr (DR.vs (fun e => (by cases e)) ?_ ?_)))))
  · obtain ⟨i, rfl, rfl, hi, rfl⟩ := hI
    have e1 : IntKind.i64.wrap ((i : Int) + 1) = ((i + 1 : Nat) : Int) := by rw [wrap_i64 (by omega) (by omega)]; rfl
    have hp := pts_len l i
    have e2 : IntKind.i64.wrap (((pts l i).length : Int) - 1) = ((pts l i).length : Int) - 1 := wrap_i64 (by omega) (by omega)
    have e3 : IntKind.i64.wrap ((i : Int) - 1) = (i : Int) - 1 := wrap_i64 (by omega) (by omega)
    have e4 : ((i : Int) - 1).toNat = i - 1 := by omega
    have e5 : (((pts l i).length : Int) - 1).toNat = (pts l i).length - 1 := by omega
    (repeat' (first | refine Chk.mk ?_ ?_ | (refine Br.id ?_; first | refine Br.kt (by with_reducible first | rfl | assumption) ?_ | refine Br.kf (by with_reducible first | rfl | assumption) ?_ | refine Br.kf (show (!true) = false from rfl) ?_ | refine Br.kt (show (!false) = true from rfl) ?_ | refine Br.mk (fun h => ?_) (fun h => ?_)) | (refine (show (noInt _ _ _ && edgesOk _ _) = true from ?_); kernel_rfl)))
    all_goals (try simp only [e2, e3, e4, e5, Int.toNat_natCast, eqU_iff, eqU_not] at *)
    all_goals (try simp only [decide_eq_true_eq, decide_eq_false_iff_not, beq_iff_eq, beq_eq_false_iff_ne, bne_iff_ne, ne_eq, Nat.zero_add, Nat.add_zero, Int.not_lt, Int.not_le, Bool.not_eq_true', Bool.not_eq_false', ge_iff_le, gt_iff_lt] at *)
    · omega
    · omega
    · omega
    · have hne : pts l i ≠ [] := List.length_pos_iff.1 (by omega)
      have hq := pts_set hne ⟨‹_›, ‹_›, ‹_›, ‹_›⟩
      refine goes ⟨i + 1, rfl, rfl, by omega, rfl⟩ (by omega) ?_
      (refine Weak.of id ?_ ?_ (fun _ _ _ _ e => e) ?_ <;> first | exact lw_of rfl | (repeat' (first | exact True.intro | refine And.intro (Exists.intro _ (And.intro rfl ?_)) ?_ | exact ORel.dead | refine ORel.cells ?_ | exact ORel.row rfl (fun _ _ _ _ => DR.refl _) | refine ORel.row rfl ?_ | refine ORel.row ?_ ?_ | (first | exact VR.eq rfl rfl | exact VR.pc rfl rfl | exact VR.pr rfl rfl | exact VR.mp rfl rfl | exact VR.rs rfl rfl rfl rfl | exact VR.nilv | exact VR.nilrs rfl | exact VR.nil | refine VR.agg ?_ | refine VR.tup ?_ | refine VR.cons ?_ ?_ | refine VR.eq (eqI ?_) rfl | refine VR.eq (eqB ?_) rfl | refine VR.eq (eqS ?_) rfl | refine VR.rs rfl rfl rfl ?_ | refine VR.dr (DR.vs (fun e => e) rfl ?_) | refine VR.dr (DR.vs (fun e => (by cases e)) rfl ?_) | refine VR.dr (DR.vs (fun e => e) ?_ ?_) | refine VR.dr (DR.vs (fun e => (by cases e)) ?_ ?_)))))
      · rw [hq, set_len hne]
      · exact e1
      · rw [hq, set_len hne]
      · intro x y hx hy
        rw [hq]
        exact set_row hne hx hy
    · omega
    · refine goes ⟨i + 1, rfl, rfl, by omega, rfl⟩ (by omega) ?_
      have hq : pts l (i + 1) = pts l i ++ [⟨i, i, l.getD i zL⟩] := pts_app (.inr fun ⟨q1, q2, q3, q4⟩ => by first | exact absurd q1 ‹_› | exact absurd q2 ‹_› | exact absurd q4 ‹_› | omega)
      (refine Weak.of (sub 1001 63) ?_ ?_ (sub_inj rfl) ?_ <;> first | exact (fun _ h => absurd h List.not_mem_nil) | (repeat' (first | exact True.intro | refine And.intro (Exists.intro _ (And.intro rfl ?_)) ?_ | exact ORel.dead | refine ORel.cells ?_ | exact ORel.row rfl (fun _ _ _ _ => DR.refl _) | refine ORel.row rfl ?_ | refine ORel.row ?_ ?_ | (first | exact VR.eq rfl rfl | exact VR.pc rfl rfl | exact VR.pr rfl rfl | exact VR.mp rfl rfl | exact VR.rs rfl rfl rfl rfl | exact VR.nilv | exact VR.nilrs rfl | exact VR.nil | refine VR.agg ?_ | refine VR.tup ?_ | refine VR.cons ?_ ?_ | refine VR.eq (eqI ?_) rfl | refine VR.eq (eqB ?_) rfl | refine VR.eq (eqS ?_) rfl | refine VR.rs rfl rfl rfl ?_ | refine VR.dr (DR.vs (fun e => e) rfl ?_) | refine VR.dr (DR.vs (fun e => (by cases e)) rfl ?_) | refine VR.dr (DR.vs (fun e => e) ?_ ?_) | refine VR.dr (DR.vs (fun e => (by cases e)) ?_ ?_)))))
      · rw [hq]; simp
      · exact e1
      · rw [hq]; simp
      · intro x y hx hy
        rw [hq]
        exact dr_push rfl (five (.refl _) (.refl _) (.refl _) (.refl _) (.refl _)) hx hy
    · omega
    · refine goes ⟨i + 1, rfl, rfl, by omega, rfl⟩ (by omega) ?_
      have hq : pts l (i + 1) = pts l i ++ [⟨i, i, l.getD i zL⟩] := pts_app (.inr fun ⟨q1, q2, q3, q4⟩ => by first | exact absurd q1 ‹_› | exact absurd q2 ‹_› | exact absurd q4 ‹_› | omega)
      (refine Weak.of (sub 1001 63) ?_ ?_ (sub_inj rfl) ?_ <;> first | exact (fun _ h => absurd h List.not_mem_nil) | (repeat' (first | exact True.intro | refine And.intro (Exists.intro _ (And.intro rfl ?_)) ?_ | exact ORel.dead | refine ORel.cells ?_ | exact ORel.row rfl (fun _ _ _ _ => DR.refl _) | refine ORel.row rfl ?_ | refine ORel.row ?_ ?_ | (first | exact VR.eq rfl rfl | exact VR.pc rfl rfl | exact VR.pr rfl rfl | exact VR.mp rfl rfl | exact VR.rs rfl rfl rfl rfl | exact VR.nilv | exact VR.nilrs rfl | exact VR.nil | refine VR.agg ?_ | refine VR.tup ?_ | refine VR.cons ?_ ?_ | refine VR.eq (eqI ?_) rfl | refine VR.eq (eqB ?_) rfl | refine VR.eq (eqS ?_) rfl | refine VR.rs rfl rfl rfl ?_ | refine VR.dr (DR.vs (fun e => e) rfl ?_) | refine VR.dr (DR.vs (fun e => (by cases e)) rfl ?_) | refine VR.dr (DR.vs (fun e => e) ?_ ?_) | refine VR.dr (DR.vs (fun e => (by cases e)) ?_ ?_)))))
      · rw [hq]; simp
      · exact e1
      · rw [hq]; simp
      · intro x y hx hy
        rw [hq]
        exact dr_push rfl (five (.refl _) (.refl _) (.refl _) (.refl _) (.refl _)) hx hy
    · omega
    · refine goes ⟨i + 1, rfl, rfl, by omega, rfl⟩ (by omega) ?_
      have hq : pts l (i + 1) = pts l i ++ [⟨i, i, l.getD i zL⟩] := pts_app (.inr fun ⟨q1, q2, q3, q4⟩ => by first | exact absurd q1 ‹_› | exact absurd q2 ‹_› | exact absurd q4 ‹_› | omega)
      (refine Weak.of (sub 1001 63) ?_ ?_ (sub_inj rfl) ?_ <;> first | exact (fun _ h => absurd h List.not_mem_nil) | (repeat' (first | exact True.intro | refine And.intro (Exists.intro _ (And.intro rfl ?_)) ?_ | exact ORel.dead | refine ORel.cells ?_ | exact ORel.row rfl (fun _ _ _ _ => DR.refl _) | refine ORel.row rfl ?_ | refine ORel.row ?_ ?_ | (first | exact VR.eq rfl rfl | exact VR.pc rfl rfl | exact VR.pr rfl rfl | exact VR.mp rfl rfl | exact VR.rs rfl rfl rfl rfl | exact VR.nilv | exact VR.nilrs rfl | exact VR.nil | refine VR.agg ?_ | refine VR.tup ?_ | refine VR.cons ?_ ?_ | refine VR.eq (eqI ?_) rfl | refine VR.eq (eqB ?_) rfl | refine VR.eq (eqS ?_) rfl | refine VR.rs rfl rfl rfl ?_ | refine VR.dr (DR.vs (fun e => e) rfl ?_) | refine VR.dr (DR.vs (fun e => (by cases e)) rfl ?_) | refine VR.dr (DR.vs (fun e => e) ?_ ?_) | refine VR.dr (DR.vs (fun e => (by cases e)) ?_ ?_)))))
      · rw [hq]; simp
      · exact e1
      · rw [hq]; simp
      · intro x y hx hy
        rw [hq]
        exact dr_push rfl (five (.refl _) (.refl _) (.refl _) (.refl _) (.refl _)) hx hy
    · omega
    · refine goes ⟨i + 1, rfl, rfl, by omega, rfl⟩ (by omega) ?_
      have hq : pts l (i + 1) = pts l i ++ [⟨i, i, l.getD i zL⟩] := pts_app (.inr fun ⟨q1, q2, q3, q4⟩ => by first | exact absurd q1 ‹_› | exact absurd q2 ‹_› | exact absurd q4 ‹_› | omega)
      (refine Weak.of (sub 1001 63) ?_ ?_ (sub_inj rfl) ?_ <;> first | exact (fun _ h => absurd h List.not_mem_nil) | (repeat' (first | exact True.intro | refine And.intro (Exists.intro _ (And.intro rfl ?_)) ?_ | exact ORel.dead | refine ORel.cells ?_ | exact ORel.row rfl (fun _ _ _ _ => DR.refl _) | refine ORel.row rfl ?_ | refine ORel.row ?_ ?_ | (first | exact VR.eq rfl rfl | exact VR.pc rfl rfl | exact VR.pr rfl rfl | exact VR.mp rfl rfl | exact VR.rs rfl rfl rfl rfl | exact VR.nilv | exact VR.nilrs rfl | exact VR.nil | refine VR.agg ?_ | refine VR.tup ?_ | refine VR.cons ?_ ?_ | refine VR.eq (eqI ?_) rfl | refine VR.eq (eqB ?_) rfl | refine VR.eq (eqS ?_) rfl | refine VR.rs rfl rfl rfl ?_ | refine VR.dr (DR.vs (fun e => e) rfl ?_) | refine VR.dr (DR.vs (fun e => (by cases e)) rfl ?_) | refine VR.dr (DR.vs (fun e => e) ?_ ?_) | refine VR.dr (DR.vs (fun e => (by cases e)) ?_ ?_)))))
      · rw [hq]; simp
      · exact e1
      · rw [hq]; simp
      · intro x y hx hy
        rw [hq]
        exact dr_push rfl (five (.refl _) (.refl _) (.refl _) (.refl _) (.refl _)) hx hy
    · omega
    · refine goes ⟨i + 1, rfl, rfl, by omega, rfl⟩ (by omega) ?_
      have hq : pts l (i + 1) = pts l i ++ [⟨i, i, l.getD i zL⟩] := pts_app (.inl (List.length_eq_zero_iff.1 (by omega)))
      (refine Weak.of (sub 1001 63) ?_ ?_ (sub_inj rfl) ?_ <;> first | exact (fun _ h => absurd h List.not_mem_nil) | (repeat' (first | exact True.intro | refine And.intro (Exists.intro _ (And.intro rfl ?_)) ?_ | exact ORel.dead | refine ORel.cells ?_ | exact ORel.row rfl (fun _ _ _ _ => DR.refl _) | refine ORel.row rfl ?_ | refine ORel.row ?_ ?_ | (first | exact VR.eq rfl rfl | exact VR.pc rfl rfl | exact VR.pr rfl rfl | exact VR.mp rfl rfl | exact VR.rs rfl rfl rfl rfl | exact VR.nilv | exact VR.nilrs rfl | exact VR.nil | refine VR.agg ?_ | refine VR.tup ?_ | refine VR.cons ?_ ?_ | refine VR.eq (eqI ?_) rfl | refine VR.eq (eqB ?_) rfl | refine VR.eq (eqS ?_) rfl | refine VR.rs rfl rfl rfl ?_ | refine VR.dr (DR.vs (fun e => e) rfl ?_) | refine VR.dr (DR.vs (fun e => (by cases e)) rfl ?_) | refine VR.dr (DR.vs (fun e => e) ?_ ?_) | refine VR.dr (DR.vs (fun e => (by cases e)) ?_ ?_)))))
      · rw [hq]; simp
      · exact e1
      · rw [hq]; simp
      · intro x y hx hy
        rw [hq]
        exact dr_push rfl (five (.refl _) (.refl _) (.refl _) (.refl _) (.refl _)) hx hy
    · have : i = l.length := by omega
      subst this
      exact ⟨rfl, rfl⟩
end Go.Proofs.YtanfllomeheiiaaGreatDoor.X
