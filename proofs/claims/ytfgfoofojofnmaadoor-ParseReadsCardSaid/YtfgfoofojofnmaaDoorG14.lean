/- Is a range's half being read: by the abstract machine. -/
import Derived.Test.YtfgfoofojofnmaaDoorG13
set_option linter.unusedVariables false
set_option linter.unusedSimpArgs false
namespace Go.Proofs.YtfgfoofojofnmaaDoor.V
open Go.VM
open Go.Proofs.YtfgfoofojofnmaaDoor.Q Go.Proofs.YtfgfoofojofnmaaDoor.Hand
theorem fnsOk_nil {P : Program} {t : List (Nat × TyD)} {v : List Nat} {n : Nat} : FnsOk P ⟨t, [], v, n⟩ := fun _ _ h => by cases h
theorem fnsOk_cons {P : Program} {t : List (Nat × TyD)} {v : List Nat} {n f : Nat} {g : Summ} {l : List (Nat × Summ)} (h : SummOk P f g) (hl : FnsOk P ⟨t, l, v, n⟩) : FnsOk P ⟨t, (f, g) :: l, v, n⟩ := fun f' g' e => by
  simp only [get_cons] at e
  by_cases hf : f = f'
  · subst hf; rw [if_pos rfl] at e; injection e with e; subst e; exact h
  · rw [if_neg hf] at e; exact hl f' g' e
def sLevel : Summ := fun args _ => match args with
  | [.d (.a (.int .i64 n))] => .pure ⟨av (.int .i64 (levelT n)), [], []⟩
  | _ => .fail 1000
theorem sLevel_ok : SummOk Tryd.prog 59 sLevel := SummOk.pure ⟨_, Tryd.func59, rfl, rfl⟩ fun args fr sl hp Φ h => by
  unfold sLevel at h
  split at h
  · exact ⟨_, h, rfl, rfl, level_v _⟩
  · exact h.elim
def sOp : Summ := fun args _ => match args with
  | [.d (.a (.string s))] => .pure ⟨av (.int .i64 (Mc.opT s.toList)), [], []⟩
  | _ => .fail 1001
theorem sOp_ok : SummOk Tryd.prog 58 sOp := SummOk.pure ⟨_, Tryd.func58, rfl, rfl⟩ fun args fr sl hp Φ h => by
  unfold sOp at h
  split at h
  · exact ⟨_, h, rfl, rfl, op_v _⟩
  · exact h.elim
theorem take_up {l : List S104} {n : Nat} {i : Int} (h2 : i < n) (hn : n ≤ l.length) (h0 : 0 ≤ i) : l.take (i + 1).toNat = l.take i.toNat ++ [l.getD i.toNat zW] := by
  rw [show (i + 1).toNat = i.toNat + 1 by omega, List.take_add_one]
  congr 1
  rw [List.getD_eq_getElem?_getD, List.getElem?_eq_getElem (by omega)]; rfl
set_option maxRecDepth 100000 in
theorem ranged_v (x9 : Bool) (m9 k9 : Nat) (c9 : Nat → Nat → D) (l : List S104) (n : Nat) (hn : n ≤ l.length) (hl : l.length ≤ 1000000) : LSpec Tryd.prog 60 [.agg [.d (.vs x9 m9 k9 c9), .rs 1000 0 n]] [(1000, .row l.length 5 (rowC encW zW l))] fun v h => v = av (.bool (Mc.rng (l.take n).reverse)) ∧ get h 1000 = some (.row l.length 5 (rowC encW zW l)) := by
  refine LSpec.intro (E := ⟨tt, [(59, sLevel)], [], Tryd.f60.ntmps⟩) tt_ok (fnsOk_cons sLevel_ok fnsOk_nil) mixed Tryd.func60 rfl rfl ?_
  refine Exists.intro (fun (m : Nat) (s : Slots) (h : Heap) => ∃ i : Int, s = [(1, AV.pc 1 0), (3, av (.int .i64 i))] ∧ h = [(1, AO.cells [.d (.vs x9 m9 k9 c9), .rs 1000 0 n]), (1000, AO.row l.length 5 (rowC encW zW l))] ∧ -1 ≤ i ∧ i < n ∧ m = (i + 1).toNat ∧ Mc.rng (l.take (i + 1).toNat).reverse = Mc.rng (l.take n).reverse) ?_
  refine And.intro ?_ (fun m s h hI => ?_)
  · refine ⟨_, _, _, ?_, (n : Int) - 1, rfl, rfl, by omega, by omega, rfl, by congr 3; omega⟩
    (refine Weak.of id ?_ ?_ (fun _ _ _ _ e => e) ?_ <;> first | exact lw_of rfl | (repeat' (first | exact True.intro | refine And.intro (Exists.intro _ (And.intro rfl ?_)) ?_ | exact ORel.dead | refine ORel.cells ?_ | exact ORel.row rfl (fun _ _ _ _ => DR.refl _) | refine ORel.row rfl ?_ | refine ORel.row ?_ ?_ | (first | exact VR.eq rfl rfl | exact VR.pc rfl rfl | exact VR.pr rfl rfl | exact VR.mp rfl rfl | exact VR.rs rfl rfl rfl rfl | exact VR.nilv | exact VR.nilrs rfl | exact VR.nil | refine VR.agg ?_ | refine VR.tup ?_ | refine VR.cons ?_ ?_ | refine VR.eq (eqI ?_) rfl | refine VR.eq (eqB ?_) rfl | refine VR.eq (eqS ?_) rfl | refine VR.rs rfl rfl rfl ?_ | refine VR.dr (DR.vs (fun e => e) rfl ?_) | refine VR.dr (DR.vs (fun e => (by cases e)) rfl ?_) | refine VR.dr (DR.vs (fun e => e) ?_ ?_) | refine VR.dr (DR.vs (fun e => (by cases e)) ?_ ?_)))))
    exact wrap_i64 (by omega) (by omega)
  · obtain ⟨i, rfl, rfl, h1, h2, hm, h3⟩ := hI
    (repeat' (first | refine Chk.mk ?_ ?_ | (refine Br.id ?_; first | refine Br.kt (by with_reducible first | rfl | assumption) ?_ | refine Br.kf (by with_reducible first | rfl | assumption) ?_ | refine Br.kf (show (!true) = false from rfl) ?_ | refine Br.kt (show (!false) = true from rfl) ?_ | refine Br.mk (fun h => ?_) (fun h => ?_)) | (refine (show (noInt _ _ _ && edgesOk _ _) = true from ?_); kernel_rfl)))
    · (try simp only [decide_eq_true_eq, decide_eq_false_iff_not, beq_iff_eq, beq_eq_false_iff_ne, bne_iff_ne, ne_eq, Nat.zero_add, Nat.add_zero, Int.not_lt, Int.not_le, Bool.not_eq_true', Bool.not_eq_false', ge_iff_le, gt_iff_lt] at *); omega
    · refine And.intro (eqB ?_) rfl
      (try simp only [decide_eq_true_eq, decide_eq_false_iff_not, beq_iff_eq, beq_eq_false_iff_ne, bne_iff_ne, ne_eq, Nat.zero_add, Nat.add_zero, Int.not_lt, Int.not_le, Bool.not_eq_true', Bool.not_eq_false', ge_iff_le, gt_iff_lt] at *)
      rw [← h3, take_up h2 hn ‹_›, List.reverse_append, List.reverse_singleton, List.singleton_append, Mc.rng, if_pos (.inl h)]
    · refine And.intro (eqB ?_) rfl
      (try simp only [decide_eq_true_eq, decide_eq_false_iff_not, beq_iff_eq, beq_eq_false_iff_ne, bne_iff_ne, ne_eq, Nat.zero_add, Nat.add_zero, Int.not_lt, Int.not_le, Bool.not_eq_true', Bool.not_eq_false', ge_iff_le, gt_iff_lt] at *)
      rw [← h3, take_up h2 hn ‹_›, List.reverse_append, List.reverse_singleton, List.singleton_append, Mc.rng, if_pos (.inr h)]
    · refine And.intro (eqB ?_) rfl
      (try simp only [decide_eq_true_eq, decide_eq_false_iff_not, beq_iff_eq, beq_eq_false_iff_ne, bne_iff_ne, ne_eq, Nat.zero_add, Nat.add_zero, Int.not_lt, Int.not_le, Bool.not_eq_true', Bool.not_eq_false', ge_iff_le, gt_iff_lt] at *)
      rw [← h3, take_up h2 hn ‹_›, List.reverse_append, List.reverse_singleton, List.singleton_append, Mc.rng, if_neg (by rw [h]; simp_all), if_pos h]
    · refine goes ⟨i - 1, rfl, rfl, ?_, ?_, rfl, ?_⟩ ?_ ?_
      · (try simp only [decide_eq_true_eq, decide_eq_false_iff_not, beq_iff_eq, beq_eq_false_iff_ne, bne_iff_ne, ne_eq, Nat.zero_add, Nat.add_zero, Int.not_lt, Int.not_le, Bool.not_eq_true', Bool.not_eq_false', ge_iff_le, gt_iff_lt] at *); omega
      · omega
      · (try simp only [decide_eq_true_eq, decide_eq_false_iff_not, beq_iff_eq, beq_eq_false_iff_ne, bne_iff_ne, ne_eq, Nat.zero_add, Nat.add_zero, Int.not_lt, Int.not_le, Bool.not_eq_true', Bool.not_eq_false', ge_iff_le, gt_iff_lt] at *)
        rw [← h3, take_up h2 hn ‹_›, List.reverse_append, List.reverse_singleton, List.singleton_append, Mc.rng, if_neg (by simp_all), if_neg h, show (i - 1 + 1).toNat = i.toNat by omega]
      · (try simp only [decide_eq_true_eq, decide_eq_false_iff_not, beq_iff_eq, beq_eq_false_iff_ne, bne_iff_ne, ne_eq, Nat.zero_add, Nat.add_zero, Int.not_lt, Int.not_le, Bool.not_eq_true', Bool.not_eq_false', ge_iff_le, gt_iff_lt] at *); omega
      · (refine Weak.of id ?_ ?_ (fun _ _ _ _ e => e) ?_ <;> first | exact lw_of rfl | (repeat' (first | exact True.intro | refine And.intro (Exists.intro _ (And.intro rfl ?_)) ?_ | exact ORel.dead | refine ORel.cells ?_ | exact ORel.row rfl (fun _ _ _ _ => DR.refl _) | refine ORel.row rfl ?_ | refine ORel.row ?_ ?_ | (first | exact VR.eq rfl rfl | exact VR.pc rfl rfl | exact VR.pr rfl rfl | exact VR.mp rfl rfl | exact VR.rs rfl rfl rfl rfl | exact VR.nilv | exact VR.nilrs rfl | exact VR.nil | refine VR.agg ?_ | refine VR.tup ?_ | refine VR.cons ?_ ?_ | refine VR.eq (eqI ?_) rfl | refine VR.eq (eqB ?_) rfl | refine VR.eq (eqS ?_) rfl | refine VR.rs rfl rfl rfl ?_ | refine VR.dr (DR.vs (fun e => e) rfl ?_) | refine VR.dr (DR.vs (fun e => (by cases e)) rfl ?_) | refine VR.dr (DR.vs (fun e => e) ?_ ?_) | refine VR.dr (DR.vs (fun e => (by cases e)) ?_ ?_)))))
        exact wrap_i64 (by omega) (by omega)
    · refine And.intro (eqB ?_) rfl
      (try simp only [decide_eq_true_eq, decide_eq_false_iff_not, beq_iff_eq, beq_eq_false_iff_ne, bne_iff_ne, ne_eq, Nat.zero_add, Nat.add_zero, Int.not_lt, Int.not_le, Bool.not_eq_true', Bool.not_eq_false', ge_iff_le, gt_iff_lt] at *)
      rw [← h3, show (i + 1).toNat = 0 by omega]; rfl
end Go.Proofs.YtfgfoofojofnmaaDoor.V
namespace Go.Proofs.YtfgfoofojofnmaaDoor.V
open Go.VM
open Go.Proofs.YtfgfoofojofnmaaDoor.Q Go.Proofs.YtfgfoofojofnmaaDoor.Hand
mutual
def encT : S44 → Nat → D
  | ⟨a, b, c, d, ks, e⟩, j => match j with
    | 0 => .a (.int .i64 a)
    | 1 => .a (.string b)
    | 2 => .a (.int .i64 c)
    | 3 => .a (.int .u64 d)
    | 4 => .vs false ks.length 6 (encNs ks)
    | _ => .a (.int .i64 e)
def encNs : List S44 → Nat → Nat → D
  | [], _, _ => default
  | x :: l, i, j => match i with
    | 0 => encT x j
    | i + 1 => encNs l i j
end
def encN (x : S44) : Nat → D
  | 0 => .a (.int .i64 x.f0)
  | 1 => .a (.string x.f1)
  | 2 => .a (.int .i64 x.f2)
  | 3 => .a (.int .u64 x.f3)
  | 4 => .vs false x.f4.length 6 (encNs x.f4)
  | _ => .a (.int .i64 x.f5)
theorem encT_is (x : S44) (j : Nat) : encT x j = encN x j := by
  obtain ⟨a, b, c, d, ks, e⟩ := x
  match j with
  | 0 => rw [encT]; rfl
  | 1 => rw [encT]; rfl
  | 2 => rw [encT]; rfl
  | 3 => rw [encT]; rfl
  | 4 => rw [encT]; rfl
  | _ + 5 => rw [encT] <;> first | rfl | (intro h; omega)
theorem encNs_get : ∀ (l : List S44) (i j : Nat), i < l.length → encNs l i j = rowC encN z44 l i j
  | [], _, _, h => by simp at h
  | x :: l, 0, j, _ => by rw [encNs, encT_is]; rfl
  | x :: l, i + 1, j, h => by rw [encNs]; exact encNs_get l i j (by simpa using h)
def encK (x : S39) : Nat → D
  | 0 => .a (.int .i64 x.f0)
  | 1 => .a (.string x.f1)
  | 2 => .a (.int .i64 x.f2)
  | 3 => .a (.int .u64 x.f3)
  | 4 => .a (.int .i64 x.f4)
  | _ => default
def cellsN (x : S44) : List AV := [av (.int .i64 x.f0), av (.string x.f1), av (.int .i64 x.f2), av (.int .u64 x.f3), .d (.vs false x.f4.length 6 (encNs x.f4)), av (.int .i64 x.f5)]
def cellsK (x : S39) : List AV := [av (.int .i64 x.f0), av (.string x.f1), av (.int .i64 x.f2), av (.int .u64 x.f3), av (.int .i64 x.f4)]
set_option maxRecDepth 100000 in
theorem leaf_v (t : S39) : VSpec Tryd.prog 57 [.agg (cellsK t)] (.agg [av (.int .i64 (leafN t).f0), av (.string t.f1), av (.int .i64 t.f2), av (.int .u64 t.f3), av (.slice none 0 0), av (.int .i64 t.f4)]) := by
  refine LSpec.intro (E := ⟨tt, [], [], Tryd.f57.ntmps⟩) tt_ok fnsOk_nil mixed Tryd.func57 rfl rfl ?_
  (repeat' (first | refine Chk.mk ?_ ?_ | (refine Br.id ?_; first | refine Br.kt (by with_reducible first | rfl | assumption) ?_ | refine Br.kf (by with_reducible first | rfl | assumption) ?_ | refine Br.kf (show (!true) = false from rfl) ?_ | refine Br.kt (show (!false) = true from rfl) ?_ | refine Br.mk (fun h => ?_) (fun h => ?_)) | (refine (show (noInt _ _ _ && edgesOk _ _) = true from ?_); kernel_rfl)))
  all_goals refine congrArg (fun n => AV.agg [av (.int .i64 n), av (.string t.f1), av (.int .i64 t.f2), av (.int .u64 t.f3), av (.slice none 0 0), av (.int .i64 t.f4)]) ?_
  all_goals (try simp only [decide_eq_true_eq, decide_eq_false_iff_not, beq_iff_eq, beq_eq_false_iff_ne, bne_iff_ne, ne_eq, Nat.zero_add, Nat.add_zero, Int.not_lt, Int.not_le, Bool.not_eq_true', Bool.not_eq_false', ge_iff_le, gt_iff_lt] at *)
  all_goals simp_all [leafN]
def sLeaf : Summ := fun args _ => match args with
  | [.agg [.d (.a (.int .i64 a)), .d (.a (.string b)), .d (.a (.int .i64 c)), .d (.a (.int .u64 d)), .d (.a (.int .i64 e))]] => .pure ⟨.agg [av (.int .i64 (leafN ⟨a, b, c, d, e⟩).f0), av (.string b), av (.int .i64 c), av (.int .u64 d), av (.slice none 0 0), av (.int .i64 e)], [], []⟩
  | _ => .fail 1002
theorem sLeaf_ok : SummOk Tryd.prog 57 sLeaf := SummOk.pure ⟨_, Tryd.func57, rfl, rfl⟩ fun args fr sl hp Φ h => by
  unfold sLeaf at h
  split at h
  · rename_i a b c d e
    exact ⟨_, h, rfl, rfl, leaf_v ⟨a, b, c, d, e⟩⟩
  · exact h.elim
end Go.Proofs.YtfgfoofojofnmaaDoor.V
namespace Go.Proofs.YtfgfoofojofnmaaDoor.V
open Go.VM
open Go.Proofs.YtfgfoofojofnmaaDoor.Q Go.Proofs.YtfgfoofojofnmaaDoor.Hand
/-- There are nodes enough for the signs that wait. -/
def NP : Nat → List S104 → Prop
  | _, [] => True
  | n, w :: ws => w.f3 = true ∨ (w.f0 = 11 ∧ 1 ≤ n ∧ NP n ws) ∨ (w.f0 ≠ 11 ∧ 2 ≤ n ∧ NP (n - 1) ws)
abbrev dN (l : List S44) : AV := .d (.vs false l.length 6 (rowC encN z44 l))
set_option maxRecDepth 100000 in
/-- What a run of it answers. -/
def RedPost (l : List S104) (r : List S44 × List S104) (v : AV) (h : Heap) : Prop := v = .agg [dN r.1.reverse, .rs 1000 0 r.2.length] ∧ r.2.reverse = l.take r.2.length ∧ get h 1000 = some (.row l.length 5 (rowC encW zW l))
theorem red_fin {l : List S104} {ns : List S44} {m : Nat} {r : List S44 × List S104} {h : Heap} (hr : r = (ns, (l.take m).reverse)) (hm : m ≤ l.length) (hg : get h 1000 = some (.row l.length 5 (rowC encW zW l))) : RedPost l r (.agg [dN ns.reverse, .rs 1000 0 m]) h := by
  subst hr
  have e : (l.take m).reverse.length = m := by simp; omega
  refine ⟨?_, ?_, hg⟩
  · show _ = AV.agg [dN ns.reverse, .rs 1000 0 (l.take m).reverse.length]
    rw [e]
  · show (l.take m).reverse.reverse = l.take (l.take m).reverse.length
    rw [e, List.reverse_reverse]
theorem take_rev {l : List S104} {m : Nat} (h : 0 < m) (hm : m ≤ l.length) : (l.take m).reverse = l.getD (m - 1) zW :: (l.take (m - 1)).reverse := by
  obtain ⟨k, rfl⟩ : ∃ k, m = k + 1 := ⟨m - 1, by omega⟩
  have := take_up (l := l) (n := k + 1) (i := (k : Int)) (by omega) hm (by omega)
  rw [show ((k : Int) + 1).toNat = k + 1 by omega, Int.toNat_natCast] at this
  rw [this, List.reverse_append]; rfl
def cellsD (x : S44) : List D := [encN x 0, encN x 1, encN x 2, encN x 3, encN x 4, encN x 5]
theorem six {p : Nat → Prop} (h0 : p 0) (h1 : p 1) (h2 : p 2) (h3 : p 3) (h4 : p 4) (h5 : p 5) : ∀ j, j < 6 → p j := fun j hj => by
  rcases j with _ | _ | _ | _ | _ | _ | j
  · exact h0
  · exact h1
  · exact h2
  · exact h3
  · exact h4
  · exact h5
  · omega
theorem lit_cells : ∀ (l : List S44) (i j : Nat), i < l.length → j < 6 → litC 6 (l.flatMap cellsD) i j = encNs l i j
  | x :: l, 0, j, _, hj => by
    rw [encNs, encT_is]
    show (cellsD x ++ l.flatMap cellsD).getD (0 * 6 + j) default = encN x j
    exact six (p := fun j => (cellsD x ++ l.flatMap cellsD).getD (0 * 6 + j) default = encN x j) rfl rfl rfl rfl rfl rfl j hj
  | x :: l, i + 1, j, hi, hj => by
    rw [encNs, ← lit_cells l i j (by simpa using hi) hj]
    show (cellsD x ++ l.flatMap cellsD).getD ((i + 1) * 6 + j) default = (l.flatMap cellsD).getD (i * 6 + j) default
    rw [List.getD_eq_getElem?_getD, List.getD_eq_getElem?_getD, List.getElem?_append_right (by simp [cellsD]; omega)]
    congr 2
    simp [cellsD]; omega
theorem kids {l : List S44} {n : Nat} {x : Bool} {ds : List D} (hn : n = l.length) (h : ds = l.flatMap cellsD) : DR (.vs x n 6 (litC 6 ds)) (.vs false l.length 6 (encNs l)) := DR.vs (fun e => by cases e) hn fun i j hi hj => DR.of (by subst h; exact lit_cells l i j (hn ▸ hi) hj)
theorem dr_push {c : Nat → Nat → D} {k : Nat} {l : List S44} {x : S44} {ds : List D} (hk : k = l.length) (hc : ∀ i j, i < k → c i j = rowC encN z44 l i j) (hd : ∀ j, j < 6 → DR (ds.getD j default) (encN x j)) {i j : Nat} (hi : i < k + 1) (hj : j < 6) : DR (appC k c (litC 6 ds) i j) (rowC encN z44 (l ++ [x]) i j) := by
  subst hk
  unfold appC
  by_cases h : i < l.length
  · rw [if_pos h, hc i j h]
    refine DR.of ?_
    show encN (l.getD i z44) j = encN ((l ++ [x]).getD i z44) j
    rw [List.getD_eq_getElem?_getD, List.getD_eq_getElem?_getD, List.getElem?_append_left h]
  · rw [if_neg h]
    have e : i = l.length := by omega
    subst e
    have e1 : rowC encN z44 (l ++ [x]) l.length j = encN x j := by
      show encN ((l ++ [x]).getD l.length z44) j = encN x j
      rw [List.getD_eq_getElem?_getD, List.getElem?_append_right (Nat.le_refl _), Nat.sub_self]; rfl
    rw [e1, Nat.sub_self]
    have e2 : litC 6 ds 0 j = ds.getD j default := by show ds.getD (0 * 6 + j) default = _; rw [Nat.zero_mul, Nat.zero_add]
    rw [e2]
    exact hd j hj
theorem row_pre {l m : List S44} {i j : Nat} (h : i < l.length) : rowC encN z44 (l ++ m) i j = rowC encN z44 l i j := by
  show encN ((l ++ m).getD i z44) j = encN (l.getD i z44) j
  rw [List.getD_eq_getElem?_getD, List.getD_eq_getElem?_getD, List.getElem?_append_left h]
theorem get_end {l : List S44} {x : S44} {m : List S44} {k : Nat} (h : k = l.length) : (l ++ x :: m).getD k z44 = x := by
  subst h
  rw [List.getD_eq_getElem?_getD, List.getElem?_append_right (Nat.le_refl _), Nat.sub_self]; rfl
theorem rd_stop {lv : Int} {ns : List S44} {w : S104} {ws : List S104} (h : w.f3 = true ∨ levelT w.f0 < lv) : Mc.rdS lv ns (w :: ws) = (ns, w :: ws) := by rw [Mc.rdS.eq_def]; dsimp only; rw [if_pos h]
theorem rd_not {lv : Int} {a : S44} {r : List S44} {w : S104} {ws : List S104} (h : ¬ (w.f3 = true ∨ levelT w.f0 < lv)) (h2 : w.f0 = 11) : Mc.rdS lv (a :: r) (w :: ws) = Mc.rdS lv (nd 11 [a] w.f1 :: r) ws := by rw [Mc.rdS.eq_def]; dsimp only; rw [if_neg h, if_pos h2]
theorem rd_two {lv : Int} {a b : S44} {r : List S44} {w : S104} {ws : List S104} (h : ¬ (w.f3 = true ∨ levelT w.f0 < lv)) (h2 : ¬ w.f0 = 11) : Mc.rdS lv (b :: a :: r) (w :: ws) = Mc.rdS lv (nd w.f0 [a, b] w.f1 :: r) ws := by rw [Mc.rdS.eq_def]; dsimp only; rw [if_neg h, if_neg h2]
theorem np_not {n : Nat} {w : S104} {ws : List S104} (h : NP n (w :: ws)) (h1 : w.f3 = false) (h2 : w.f0 = 11) : 1 ≤ n ∧ NP n ws := by
  rcases h with h | ⟨_, h, h'⟩ | ⟨h, _⟩
  · rw [h1] at h; cases h
  · exact ⟨h, h'⟩
  · exact absurd h2 h
theorem np_two {n : Nat} {w : S104} {ws : List S104} (h : NP n (w :: ws)) (h1 : w.f3 = false) (h2 : ¬ w.f0 = 11) : 2 ≤ n ∧ NP (n - 1) ws := by
  rcases h with h | ⟨h, _⟩ | ⟨_, h, h'⟩
  · rw [h1] at h; cases h
  · exact absurd h h2
  · exact ⟨h, h'⟩
set_option maxRecDepth 100000 in
set_option maxHeartbeats 8000000 in
theorem reduce_v (lv : Int) (ns0 : List S44) (l : List S104) (n : Nat) (hn : n ≤ l.length) (hl : l.length ≤ 1000000) (hns : ns0.length ≤ 1000000) (hnp : NP ns0.length (l.take n).reverse) :
    LSpec Tryd.prog 61 [.agg [dN ns0.reverse, .rs 1000 0 n], av (.int .i64 lv)] [(1000, .row l.length 5 (rowC encW zW l))] (RedPost l (Mc.rdS lv ns0 (l.take n).reverse)) := by
  refine LSpec.intro (E := ⟨tt, [(59, sLevel)], [51, 55, 63, 64, 80, 84, 92, 93], Tryd.f61.ntmps⟩) tt_ok (fnsOk_cons sLevel_ok fnsOk_nil) mixed Tryd.func61 rfl rfl ?_
  refine Exists.intro (fun (m : Nat) (s : Slots) (h : Heap) => ∃ ns : List S44, s = [(2, AV.pc 2 0), (4, .pc 4 0), (1, av (.int .i64 lv))] ∧ h = [(2, AO.cells [dN ns.reverse, .rs 1000 0 m]), (4, .cells [av (.slice none 0 0), av (.slice none 0 0)]), (1000, AO.row l.length 5 (rowC encW zW l))] ∧ m ≤ n ∧ ns.length ≤ 1000000 ∧ NP ns.length (l.take m).reverse ∧ Mc.rdS lv ns (l.take m).reverse = Mc.rdS lv ns0 (l.take n).reverse) ?_
  refine And.intro ?_ (fun m s h hI => ?_)
  · refine ⟨_, _, _, ?_, ns0, rfl, rfl, Nat.le_refl _, hns, hnp, rfl⟩
    (refine Weak.of id ?_ ?_ (fun _ _ _ _ e => e) ?_ <;> first | exact lw_of rfl | (repeat' (first | exact True.intro | refine And.intro (Exists.intro _ (And.intro rfl ?_)) ?_ | exact ORel.dead | refine ORel.cells ?_ | exact ORel.row rfl (fun _ _ _ _ => DR.refl _) | refine ORel.row rfl ?_ | refine ORel.row ?_ ?_ | (first | exact VR.eq rfl rfl | exact VR.pc rfl rfl | exact VR.pr rfl rfl | exact VR.mp rfl rfl | exact VR.rs rfl rfl rfl rfl | exact VR.nilv | exact VR.nilrs rfl | exact VR.nil | refine VR.agg ?_ | refine VR.tup ?_ | refine VR.cons ?_ ?_ | refine VR.eq (eqI ?_) rfl | refine VR.eq (eqB ?_) rfl | refine VR.eq (eqS ?_) rfl | refine VR.rs rfl rfl rfl ?_ | refine VR.dr (DR.vs (fun e => e) rfl ?_) | refine VR.dr (DR.vs (fun e => (by cases e)) rfl ?_) | refine VR.dr (DR.vs (fun e => e) ?_ ?_) | refine VR.dr (DR.vs (fun e => (by cases e)) ?_ ?_)))))
  · obtain ⟨ns, rfl, rfl, h1, h2, hp, h3⟩ := hI
    have hw1 : 0 < m → IntKind.i64.wrap ((m : Int) - 1) = (m : Int) - 1 := fun _ => wrap_i64 (by omega) (by omega)
    have hw2 : IntKind.i64.wrap ((ns.reverse.length : Int) - 1) = (ns.length : Int) - 1 := by rw [List.length_reverse]; exact wrap_i64 (by omega) (by omega)
    have hw3 : IntKind.i64.wrap ((ns.reverse.length : Int) - 2) = (ns.length : Int) - 2 := by rw [List.length_reverse]; exact wrap_i64 (by omega) (by omega)
    (repeat' (first | refine Chk.mk ?_ ?_ | (refine Br.id ?_; first | refine Br.kt (by with_reducible first | rfl | assumption) ?_ | refine Br.kf (by with_reducible first | rfl | assumption) ?_ | refine Br.kf (show (!true) = false from rfl) ?_ | refine Br.kt (show (!false) = true from rfl) ?_ | refine Br.mk (fun h => ?_) (fun h => ?_)) | (refine (show (noInt _ _ _ && edgesOk _ _) = true from ?_); kernel_rfl)))
    · (try simp only [decide_eq_true_eq, decide_eq_false_iff_not, beq_iff_eq, beq_eq_false_iff_ne, bne_iff_ne, ne_eq, Nat.zero_add, Nat.add_zero, Int.not_lt, Int.not_le, Bool.not_eq_true', Bool.not_eq_false', ge_iff_le, gt_iff_lt] at *); rw [hw1 (by omega)]; omega
    · refine red_fin ?_ (by omega) rfl
      have h0 : 0 < m := by (try simp only [decide_eq_true_eq, decide_eq_false_iff_not, beq_iff_eq, beq_eq_false_iff_ne, bne_iff_ne, ne_eq, Nat.zero_add, Nat.add_zero, Int.not_lt, Int.not_le, Bool.not_eq_true', Bool.not_eq_false', ge_iff_le, gt_iff_lt] at *); omega
      have hi : (IntKind.i64.wrap ((m : Int) - 1)).toNat = m - 1 := by rw [hw1 h0]; omega
      (try simp only [decide_eq_true_eq, decide_eq_false_iff_not, beq_iff_eq, beq_eq_false_iff_ne, bne_iff_ne, ne_eq, Nat.zero_add, Nat.add_zero, Int.not_lt, Int.not_le, Bool.not_eq_true', Bool.not_eq_false', ge_iff_le, gt_iff_lt] at *)
      simp only [hi] at *
      rw [take_rev h0 (by omega)] at h3 hp
      rw [← h3, rd_stop (.inl h), take_rev h0 (by omega)]
    · refine red_fin ?_ (by omega) rfl
      have h0 : 0 < m := by (try simp only [decide_eq_true_eq, decide_eq_false_iff_not, beq_iff_eq, beq_eq_false_iff_ne, bne_iff_ne, ne_eq, Nat.zero_add, Nat.add_zero, Int.not_lt, Int.not_le, Bool.not_eq_true', Bool.not_eq_false', ge_iff_le, gt_iff_lt] at *); omega
      have hi : (IntKind.i64.wrap ((m : Int) - 1)).toNat = m - 1 := by rw [hw1 h0]; omega
      (try simp only [decide_eq_true_eq, decide_eq_false_iff_not, beq_iff_eq, beq_eq_false_iff_ne, bne_iff_ne, ne_eq, Nat.zero_add, Nat.add_zero, Int.not_lt, Int.not_le, Bool.not_eq_true', Bool.not_eq_false', ge_iff_le, gt_iff_lt] at *)
      simp only [hi] at *
      rw [take_rev h0 (by omega)] at h3 hp
      rw [← h3, rd_stop (.inr h), take_rev h0 (by omega)]
    · (try simp only [decide_eq_true_eq, decide_eq_false_iff_not, beq_iff_eq, beq_eq_false_iff_ne, bne_iff_ne, ne_eq, Nat.zero_add, Nat.add_zero, Int.not_lt, Int.not_le, Bool.not_eq_true', Bool.not_eq_false', ge_iff_le, gt_iff_lt] at *); rw [hw1 (by omega)]; omega
    · have h0 : 0 < m := by (try simp only [decide_eq_true_eq, decide_eq_false_iff_not, beq_iff_eq, beq_eq_false_iff_ne, bne_iff_ne, ne_eq, Nat.zero_add, Nat.add_zero, Int.not_lt, Int.not_le, Bool.not_eq_true', Bool.not_eq_false', ge_iff_le, gt_iff_lt] at *); omega
      have hi : (IntKind.i64.wrap ((m : Int) - 1)).toNat = m - 1 := by rw [hw1 h0]; omega
      (try simp only [decide_eq_true_eq, decide_eq_false_iff_not, beq_iff_eq, beq_eq_false_iff_ne, bne_iff_ne, ne_eq, Nat.zero_add, Nat.add_zero, Int.not_lt, Int.not_le, Bool.not_eq_true', Bool.not_eq_false', ge_iff_le, gt_iff_lt] at *)
      simp only [hi] at *
      rw [take_rev h0 (by omega)] at h3 hp
      have hq := np_not hp ‹_› ‹_›
      rw [hw2, List.length_reverse]; omega
    · have h0 : 0 < m := by (try simp only [decide_eq_true_eq, decide_eq_false_iff_not, beq_iff_eq, beq_eq_false_iff_ne, bne_iff_ne, ne_eq, Nat.zero_add, Nat.add_zero, Int.not_lt, Int.not_le, Bool.not_eq_true', Bool.not_eq_false', ge_iff_le, gt_iff_lt] at *); omega
      have hi : (IntKind.i64.wrap ((m : Int) - 1)).toNat = m - 1 := by rw [hw1 h0]; omega
      (try simp only [decide_eq_true_eq, decide_eq_false_iff_not, beq_iff_eq, beq_eq_false_iff_ne, bne_iff_ne, ne_eq, Nat.zero_add, Nat.add_zero, Int.not_lt, Int.not_le, Bool.not_eq_true', Bool.not_eq_false', ge_iff_le, gt_iff_lt] at *)
      simp only [hi] at *
      rw [take_rev h0 (by omega)] at h3 hp
      have hq := np_not hp ‹_› ‹_›
      rw [hw2, List.length_reverse]; omega
    · have h0 : 0 < m := by (try simp only [decide_eq_true_eq, decide_eq_false_iff_not, beq_iff_eq, beq_eq_false_iff_ne, bne_iff_ne, ne_eq, Nat.zero_add, Nat.add_zero, Int.not_lt, Int.not_le, Bool.not_eq_true', Bool.not_eq_false', ge_iff_le, gt_iff_lt] at *); omega
      have hi : (IntKind.i64.wrap ((m : Int) - 1)).toNat = m - 1 := by rw [hw1 h0]; omega
      (try simp only [decide_eq_true_eq, decide_eq_false_iff_not, beq_iff_eq, beq_eq_false_iff_ne, bne_iff_ne, ne_eq, Nat.zero_add, Nat.add_zero, Int.not_lt, Int.not_le, Bool.not_eq_true', Bool.not_eq_false', ge_iff_le, gt_iff_lt] at *)
      simp only [hi] at *
      rw [take_rev h0 (by omega)] at h3 hp
      have hq := np_not hp ‹_› ‹_›
      rw [hw2]; omega
    · have h0 : 0 < m := by (try simp only [decide_eq_true_eq, decide_eq_false_iff_not, beq_iff_eq, beq_eq_false_iff_ne, bne_iff_ne, ne_eq, Nat.zero_add, Nat.add_zero, Int.not_lt, Int.not_le, Bool.not_eq_true', Bool.not_eq_false', ge_iff_le, gt_iff_lt] at *); omega
      have hi : (IntKind.i64.wrap ((m : Int) - 1)).toNat = m - 1 := by rw [hw1 h0]; omega
      (try simp only [decide_eq_true_eq, decide_eq_false_iff_not, beq_iff_eq, beq_eq_false_iff_ne, bne_iff_ne, ne_eq, Nat.zero_add, Nat.add_zero, Int.not_lt, Int.not_le, Bool.not_eq_true', Bool.not_eq_false', ge_iff_le, gt_iff_lt] at *)
      simp only [hi] at *
      rw [take_rev h0 (by omega)] at h3 hp
      have hq := np_not hp ‹_› ‹_›
      rw [hw2]; omega
    · have h0 : 0 < m := by (try simp only [decide_eq_true_eq, decide_eq_false_iff_not, beq_iff_eq, beq_eq_false_iff_ne, bne_iff_ne, ne_eq, Nat.zero_add, Nat.add_zero, Int.not_lt, Int.not_le, Bool.not_eq_true', Bool.not_eq_false', ge_iff_le, gt_iff_lt] at *); omega
      have hi : (IntKind.i64.wrap ((m : Int) - 1)).toNat = m - 1 := by rw [hw1 h0]; omega
      (try simp only [decide_eq_true_eq, decide_eq_false_iff_not, beq_iff_eq, beq_eq_false_iff_ne, bne_iff_ne, ne_eq, Nat.zero_add, Nat.add_zero, Int.not_lt, Int.not_le, Bool.not_eq_true', Bool.not_eq_false', ge_iff_le, gt_iff_lt] at *)
      simp only [hi] at *
      rw [take_rev h0 (by omega)] at h3 hp
      have hq := np_not hp ‹_› ‹_›
      obtain ⟨a, r, rfl⟩ : ∃ a r, ns = a :: r := by cases ns with
        | nil => simp at hq
        | cons a r => exact ⟨a, r, rfl⟩
      rw [rd_not (by simp_all) ‹_›] at h3
      refine goes (m := m - 1) ⟨nd 11 [a] (l.getD (m - 1) zW).f1 :: r, rfl, rfl, by omega, by simpa using h2, by simpa using hq.2, h3⟩ (by omega) ?_
      have hk : (IntKind.i64.wrap (((a :: r).reverse.length : Int) - 1)).toNat = r.length := by rw [hw2]; simp
      have he : (a :: r).reverse.getD r.length z44 = a := by rw [List.reverse_cons]; exact get_end (by simp)
      (refine Weak.of id ?_ ?_ (fun _ _ _ _ e => e) ?_ <;> first | exact lw_of rfl | (repeat' (first | exact True.intro | refine And.intro (Exists.intro _ (And.intro rfl ?_)) ?_ | exact ORel.dead | refine ORel.cells ?_ | exact ORel.row rfl (fun _ _ _ _ => DR.refl _) | refine ORel.row rfl ?_ | refine ORel.row ?_ ?_ | (first | exact VR.eq rfl rfl | exact VR.pc rfl rfl | exact VR.pr rfl rfl | exact VR.mp rfl rfl | exact VR.rs rfl rfl rfl rfl | exact VR.nilv | exact VR.nilrs rfl | exact VR.nil | refine VR.agg ?_ | refine VR.tup ?_ | refine VR.cons ?_ ?_ | refine VR.eq (eqI ?_) rfl | refine VR.eq (eqB ?_) rfl | refine VR.eq (eqS ?_) rfl | refine VR.rs rfl rfl rfl ?_ | refine VR.dr (DR.vs (fun e => e) rfl ?_) | refine VR.dr (DR.vs (fun e => (by cases e)) rfl ?_) | refine VR.dr (DR.vs (fun e => e) ?_ ?_) | refine VR.dr (DR.vs (fun e => (by cases e)) ?_ ?_)))))
      · rw [hk]; simp
      · simp only [hk, he, Nat.sub_zero]
        intro i j hi hj
        rw [List.reverse_cons (a := nd 11 [a] (l.getD (m - 1) zW).f1)]
        refine dr_push (by simp) (fun i j hi => ?_) ?_ hi hj
        · rw [List.reverse_cons]
          exact row_pre (by simpa using hi)
        · refine six (DR.refl _) (DR.refl _) (DR.refl _) (DR.refl _) ?_ (DR.refl _)
          exact kids (l := [a]) rfl rfl
    · have h0 : 0 < m := by (try simp only [decide_eq_true_eq, decide_eq_false_iff_not, beq_iff_eq, beq_eq_false_iff_ne, bne_iff_ne, ne_eq, Nat.zero_add, Nat.add_zero, Int.not_lt, Int.not_le, Bool.not_eq_true', Bool.not_eq_false', ge_iff_le, gt_iff_lt] at *); omega
      have hi : (IntKind.i64.wrap ((m : Int) - 1)).toNat = m - 1 := by rw [hw1 h0]; omega
      (try simp only [decide_eq_true_eq, decide_eq_false_iff_not, beq_iff_eq, beq_eq_false_iff_ne, bne_iff_ne, ne_eq, Nat.zero_add, Nat.add_zero, Int.not_lt, Int.not_le, Bool.not_eq_true', Bool.not_eq_false', ge_iff_le, gt_iff_lt] at *)
      simp only [hi] at *
      rw [take_rev h0 (by omega)] at h3 hp
      have hq := np_two hp ‹_› ‹_›
      rw [hw3, List.length_reverse]; omega
    · have h0 : 0 < m := by (try simp only [decide_eq_true_eq, decide_eq_false_iff_not, beq_iff_eq, beq_eq_false_iff_ne, bne_iff_ne, ne_eq, Nat.zero_add, Nat.add_zero, Int.not_lt, Int.not_le, Bool.not_eq_true', Bool.not_eq_false', ge_iff_le, gt_iff_lt] at *); omega
      have hi : (IntKind.i64.wrap ((m : Int) - 1)).toNat = m - 1 := by rw [hw1 h0]; omega
      (try simp only [decide_eq_true_eq, decide_eq_false_iff_not, beq_iff_eq, beq_eq_false_iff_ne, bne_iff_ne, ne_eq, Nat.zero_add, Nat.add_zero, Int.not_lt, Int.not_le, Bool.not_eq_true', Bool.not_eq_false', ge_iff_le, gt_iff_lt] at *)
      simp only [hi] at *
      rw [take_rev h0 (by omega)] at h3 hp
      have hq := np_two hp ‹_› ‹_›
      rw [hw2, List.length_reverse]; omega
    · have h0 : 0 < m := by (try simp only [decide_eq_true_eq, decide_eq_false_iff_not, beq_iff_eq, beq_eq_false_iff_ne, bne_iff_ne, ne_eq, Nat.zero_add, Nat.add_zero, Int.not_lt, Int.not_le, Bool.not_eq_true', Bool.not_eq_false', ge_iff_le, gt_iff_lt] at *); omega
      have hi : (IntKind.i64.wrap ((m : Int) - 1)).toNat = m - 1 := by rw [hw1 h0]; omega
      (try simp only [decide_eq_true_eq, decide_eq_false_iff_not, beq_iff_eq, beq_eq_false_iff_ne, bne_iff_ne, ne_eq, Nat.zero_add, Nat.add_zero, Int.not_lt, Int.not_le, Bool.not_eq_true', Bool.not_eq_false', ge_iff_le, gt_iff_lt] at *)
      simp only [hi] at *
      rw [take_rev h0 (by omega)] at h3 hp
      have hq := np_two hp ‹_› ‹_›
      rw [hw3, List.length_reverse]; omega
    · have h0 : 0 < m := by (try simp only [decide_eq_true_eq, decide_eq_false_iff_not, beq_iff_eq, beq_eq_false_iff_ne, bne_iff_ne, ne_eq, Nat.zero_add, Nat.add_zero, Int.not_lt, Int.not_le, Bool.not_eq_true', Bool.not_eq_false', ge_iff_le, gt_iff_lt] at *); omega
      have hi : (IntKind.i64.wrap ((m : Int) - 1)).toNat = m - 1 := by rw [hw1 h0]; omega
      (try simp only [decide_eq_true_eq, decide_eq_false_iff_not, beq_iff_eq, beq_eq_false_iff_ne, bne_iff_ne, ne_eq, Nat.zero_add, Nat.add_zero, Int.not_lt, Int.not_le, Bool.not_eq_true', Bool.not_eq_false', ge_iff_le, gt_iff_lt] at *)
      simp only [hi] at *
      rw [take_rev h0 (by omega)] at h3 hp
      have hq := np_two hp ‹_› ‹_›
      rw [hw3]; omega
    · have h0 : 0 < m := by (try simp only [decide_eq_true_eq, decide_eq_false_iff_not, beq_iff_eq, beq_eq_false_iff_ne, bne_iff_ne, ne_eq, Nat.zero_add, Nat.add_zero, Int.not_lt, Int.not_le, Bool.not_eq_true', Bool.not_eq_false', ge_iff_le, gt_iff_lt] at *); omega
      have hi : (IntKind.i64.wrap ((m : Int) - 1)).toNat = m - 1 := by rw [hw1 h0]; omega
      (try simp only [decide_eq_true_eq, decide_eq_false_iff_not, beq_iff_eq, beq_eq_false_iff_ne, bne_iff_ne, ne_eq, Nat.zero_add, Nat.add_zero, Int.not_lt, Int.not_le, Bool.not_eq_true', Bool.not_eq_false', ge_iff_le, gt_iff_lt] at *)
      simp only [hi] at *
      rw [take_rev h0 (by omega)] at h3 hp
      have hq := np_two hp ‹_› ‹_›
      rw [hw3]; omega
    · have h0 : 0 < m := by (try simp only [decide_eq_true_eq, decide_eq_false_iff_not, beq_iff_eq, beq_eq_false_iff_ne, bne_iff_ne, ne_eq, Nat.zero_add, Nat.add_zero, Int.not_lt, Int.not_le, Bool.not_eq_true', Bool.not_eq_false', ge_iff_le, gt_iff_lt] at *); omega
      have hi : (IntKind.i64.wrap ((m : Int) - 1)).toNat = m - 1 := by rw [hw1 h0]; omega
      (try simp only [decide_eq_true_eq, decide_eq_false_iff_not, beq_iff_eq, beq_eq_false_iff_ne, bne_iff_ne, ne_eq, Nat.zero_add, Nat.add_zero, Int.not_lt, Int.not_le, Bool.not_eq_true', Bool.not_eq_false', ge_iff_le, gt_iff_lt] at *)
      simp only [hi] at *
      rw [take_rev h0 (by omega)] at h3 hp
      have hq := np_two hp ‹_› ‹_›
      obtain ⟨b, a, r, rfl⟩ : ∃ b a r, ns = b :: a :: r := by
        rcases ns with _ | ⟨b, _ | ⟨a, r⟩⟩
        · simp at hq
        · simp at hq
        · exact ⟨b, a, r, rfl⟩
      rw [rd_two (by simp_all) ‹_›] at h3
      refine goes (m := m - 1) ⟨nd (l.getD (m - 1) zW).f0 [a, b] (l.getD (m - 1) zW).f1 :: r, rfl, rfl, by omega, by simp at h2 ⊢; omega, by simpa using hq.2, h3⟩ (by omega) ?_
      have hk : (IntKind.i64.wrap (((b :: a :: r).reverse.length : Int) - 2)).toNat = r.length := by rw [hw3]; simp; omega
      have hk1 : (IntKind.i64.wrap (((b :: a :: r).reverse.length : Int) - 1)).toNat = r.length + 1 := by rw [hw2]; simp
      have hl2 : (b :: a :: r).reverse = r.reverse ++ a :: [b] := by simp
      have he : (b :: a :: r).reverse.getD r.length z44 = a := by rw [hl2]; exact get_end (by simp)
      have he1 : (b :: a :: r).reverse.getD (r.length + 1) z44 = b := by rw [hl2, show r.reverse ++ a :: [b] = (r.reverse ++ [a]) ++ b :: [] by simp]; exact get_end (by simp)
      (refine Weak.of id ?_ ?_ (fun _ _ _ _ e => e) ?_ <;> first | exact lw_of rfl | (repeat' (first | exact True.intro | refine And.intro (Exists.intro _ (And.intro rfl ?_)) ?_ | exact ORel.dead | refine ORel.cells ?_ | exact ORel.row rfl (fun _ _ _ _ => DR.refl _) | refine ORel.row rfl ?_ | refine ORel.row ?_ ?_ | (first | exact VR.eq rfl rfl | exact VR.pc rfl rfl | exact VR.pr rfl rfl | exact VR.mp rfl rfl | exact VR.rs rfl rfl rfl rfl | exact VR.nilv | exact VR.nilrs rfl | exact VR.nil | refine VR.agg ?_ | refine VR.tup ?_ | refine VR.cons ?_ ?_ | refine VR.eq (eqI ?_) rfl | refine VR.eq (eqB ?_) rfl | refine VR.eq (eqS ?_) rfl | refine VR.rs rfl rfl rfl ?_ | refine VR.dr (DR.vs (fun e => e) rfl ?_) | refine VR.dr (DR.vs (fun e => (by cases e)) rfl ?_) | refine VR.dr (DR.vs (fun e => e) ?_ ?_) | refine VR.dr (DR.vs (fun e => (by cases e)) ?_ ?_)))))
      · rw [hk]; simp
      · simp only [hk, hk1, he, he1, Nat.sub_zero]
        intro i j hi hj
        rw [List.reverse_cons (a := nd (l.getD (m - 1) zW).f0 [a, b] (l.getD (m - 1) zW).f1)]
        refine dr_push (by simp) (fun i j hi => ?_) ?_ hi hj
        · rw [hl2]
          exact row_pre (by simpa using hi)
        · refine six (DR.refl _) (DR.refl _) (DR.refl _) (DR.refl _) ?_ (DR.refl _)
          exact kids (l := [a, b]) rfl rfl
    · refine red_fin ?_ (by omega) rfl
      (try simp only [decide_eq_true_eq, decide_eq_false_iff_not, beq_iff_eq, beq_eq_false_iff_ne, bne_iff_ne, ne_eq, Nat.zero_add, Nat.add_zero, Int.not_lt, Int.not_le, Bool.not_eq_true', Bool.not_eq_false', ge_iff_le, gt_iff_lt] at *)
      obtain rfl : m = 0 := by omega
      rw [← h3]; simp [Mc.rdS]
end Go.Proofs.YtfgfoofojofnmaaDoor.V
namespace Go.VM
theorem get_one {β : Type} {r q : Nat} {o o' : β} (h : get [(r, o)] q = some o') : q = r ∧ o' = o := by
  rw [get_cons] at h
  by_cases e : r = q
  · rw [if_pos e] at h; injection h with h; exact ⟨e.symm, h.symm⟩
  · rw [if_neg e] at h; cases h
theorem some_one {β : Type} {r q : Nat} {o : β} (h : (get [(r, o)] q).isSome = true) : q = r := by
  obtain ⟨o', e⟩ := Option.isSome_iff_exists.1 h
  exact (get_one e).1
/-- One object is handed in (1000), and stays. -/
theorem Lift.one {r : Nat} {hp hp1 : Heap} {o0 ol o1 o : AO} {v ret : AV} (ho : get hp r = some o0) (hl : o0.like o) (hd : ol ≠ .dead) (h1 : get hp1 1000 = some o1) (hR : ORel (fun _ => 1000) [(r, o)] o1 o) (hv : VRel (fun _ => 1000) [(r, o)] v ret) : Lift (fun _ => r) (fun _ => 1000) hp [(1000, ol)] hp1 [(r, o)] [] v ret where
  ret := hv
  heap := ⟨⟨o1, h1, hR⟩, trivial⟩
  back q hq := by
    have := some_one hq
    subst this
    refine ⟨by rw [get_cons, if_pos rfl]; rfl, rfl, ?_⟩
    rw [get_cons, if_pos rfl]
    exact fun e => hd (by injection e)
  ups q o' e := by
    obtain ⟨rfl, rfl⟩ := get_one e
    exact ⟨1000, o0, rfl, rfl, ho, .inr hl⟩
  inj q q' h h' _ := (some_one h).trans (some_one h').symm
theorem inj_one {o : AO} {r : Nat} : ∀ q q', (get [(1000, o)] q).isSome = true → (get [(1000, o)] q').isSome = true → (fun _ : Nat => r) q = (fun _ : Nat => r) q' → q = q' := fun q q' h h' _ => (some_one h).trans (some_one h').symm
end Go.VM
namespace Go.Proofs.YtfgfoofojofnmaaDoor.V
open Go.VM
open Go.Proofs.YtfgfoofojofnmaaDoor.Q Go.Proofs.YtfgfoofojofnmaaDoor.Hand
/-- What must be known of the state (its nodes ns, its row l) ahead of a call. -/
structure StOk (n : Nat) (c : Nat → Nat → D) (N : Nat) (cw : Nat → Nat → D) (m : Nat) (ns : List S44) (l : List S104) : Prop where
  hn : n = ns.length
  hc : ∀ i j, i < n → j < 6 → DR (c i j) (rowC encN z44 ns i j)
  hN : N = l.length
  hcw : ∀ i j, i < N → j < 5 → DR (cw i j) (rowC encW zW l i j)
  hm : m ≤ N
  big : N ≤ 1000000
  nbig : n ≤ 1000000
def sReduce : Summ := fun args _ => match args with
  | [.agg [.d (.vs _ n 6 c), .rs r 0 m], .d (.a (.int .i64 lv))] => .obj r fun
    | .row N 5 cw => .ex fun ns : List S44 => .ex fun l : List S104 => .chk (StOk n c N cw m ns.reverse l ∧ NP ns.length (l.take m).reverse) (.pure ⟨.agg [dN (Mc.rdS lv ns (l.take m).reverse).1.reverse, .rs r 0 (Mc.rdS lv ns (l.take m).reverse).2.length], [(r, .row N 5 (rowC encW zW l))], []⟩)
    | _ => .fail 1003
  | _ => .fail 1004
theorem sReduce_ok : SummOk Tryd.prog 61 sReduce := SummOk.lift ⟨_, Tryd.func61, rfl, rfl⟩ fun args fr sl hp Φ h => by
  unfold sReduce at h
  split at h
  · rename_i x n c r m lv
    simp only [RM.wp] at h
    split at h
    · rename_i o ho
      split at h
      · rename_i N cw
        simp only [RM.wp] at h
        obtain ⟨ns, l, h⟩ := h
        obtain ⟨⟨hs, hnp⟩, hΦ⟩ := h
        have hNl := hs.hN
        have hnl := hs.hn
        subst hNl
        rw [List.length_reverse] at hnl
        refine ⟨fun _ => r, fun _ => 1000, _, _, _, reduce_v lv ns l m hs.hm hs.big (by rw [← hnl]; exact hs.nbig) hnp, ?_, ?_, inj_one, fun v hp1 hP => ⟨_, _, _, hΦ, ?_⟩⟩
        · refine VR.cons (VR.agg (VR.cons (VR.dr (DR.vs (fun e => (by cases e)) hs.hn hs.hc)) (VR.cons (VR.rs rfl rfl rfl rfl) VR.nil))) (VR.cons (VR.eq rfl rfl) VR.nil)
        · exact ⟨⟨_, ho, ORel.row rfl hs.hcw⟩, trivial⟩
        · obtain ⟨hv, _, hg⟩ := hP
          subst hv
          refine Lift.one ho ⟨rfl, rfl⟩ (fun e => by cases e) hg (ORel.row rfl fun _ _ _ _ => .refl _) ?_
          exact VR.agg (VR.cons (VR.dr (DR.vs (fun e => e) (by simp) fun _ _ _ _ => .refl _)) (VR.cons (VR.rs rfl (by rw [get_cons, if_pos rfl]; rfl) rfl rfl) VR.nil))
      · exact h.elim
    · exact h.elim
  · exact h.elim
def sInCall : Summ := fun args _ => match args with
  | [.agg [.d (.vs _ _ _ _), .rs r 0 m]] => .obj r fun
    | .row N 5 cw => .ex fun l : List S104 => .chk (N = l.length ∧ (∀ i j, i < N → j < 5 → DR (cw i j) (rowC encW zW l i j)) ∧ m ≤ N ∧ N ≤ 1000000) (.pure ⟨av (.bool (Mc.inC (l.take m).reverse)), [(r, .row N 5 (rowC encW zW l))], []⟩)
    | _ => .fail 1005
  | _ => .fail 1006
theorem sInCall_ok : SummOk Tryd.prog 62 sInCall := SummOk.lift ⟨_, Tryd.func62, rfl, rfl⟩ fun args fr sl hp Φ h => by
  unfold sInCall at h
  split at h
  · rename_i x n k c r m
    simp only [RM.wp] at h
    split at h
    · rename_i o ho
      split at h
      · rename_i N cw
        simp only [RM.wp] at h
        obtain ⟨l, h⟩ := h
        obtain ⟨⟨hN, hcw, hm, hb⟩, hΦ⟩ := h
        subst hN
        refine ⟨fun _ => r, fun _ => 1000, _, _, _, inCall_v x n k c l m hm hb, ?_, ?_, inj_one, fun v hp1 hP => ⟨_, _, _, hΦ, ?_⟩⟩
        · refine VR.cons (VR.agg (VR.cons (VR.dr (.refl _)) (VR.cons (VR.rs rfl rfl rfl rfl) VR.nil))) VR.nil
        · exact ⟨⟨_, ho, ORel.row rfl hcw⟩, trivial⟩
        · obtain ⟨hv, hg⟩ := hP
          subst hv
          exact Lift.one ho ⟨rfl, rfl⟩ (fun e => by cases e) hg (ORel.row rfl fun _ _ _ _ => .refl _) (VR.eq rfl rfl)
      · exact h.elim
    · exact h.elim
  · exact h.elim
def sRanged : Summ := fun args _ => match args with
  | [.agg [.d (.vs _ _ _ _), .rs r 0 m]] => .obj r fun
    | .row N 5 cw => .ex fun l : List S104 => .chk (N = l.length ∧ (∀ i j, i < N → j < 5 → DR (cw i j) (rowC encW zW l i j)) ∧ m ≤ N ∧ N ≤ 1000000) (.pure ⟨av (.bool (Mc.rng (l.take m).reverse)), [(r, .row N 5 (rowC encW zW l))], []⟩)
    | _ => .fail 1005
  | _ => .fail 1006
theorem sRanged_ok : SummOk Tryd.prog 60 sRanged := SummOk.lift ⟨_, Tryd.func60, rfl, rfl⟩ fun args fr sl hp Φ h => by
  unfold sRanged at h
  split at h
  · rename_i x n k c r m
    simp only [RM.wp] at h
    split at h
    · rename_i o ho
      split at h
      · rename_i N cw
        simp only [RM.wp] at h
        obtain ⟨l, h⟩ := h
        obtain ⟨⟨hN, hcw, hm, hb⟩, hΦ⟩ := h
        subst hN
        refine ⟨fun _ => r, fun _ => 1000, _, _, _, ranged_v x n k c l m hm hb, ?_, ?_, inj_one, fun v hp1 hP => ⟨_, _, _, hΦ, ?_⟩⟩
        · refine VR.cons (VR.agg (VR.cons (VR.dr (.refl _)) (VR.cons (VR.rs rfl rfl rfl rfl) VR.nil))) VR.nil
        · exact ⟨⟨_, ho, ORel.row rfl hcw⟩, trivial⟩
        · obtain ⟨hv, hg⟩ := hP
          subst hv
          exact Lift.one ho ⟨rfl, rfl⟩ (fun e => by cases e) hg (ORel.row rfl fun _ _ _ _ => .refl _) (VR.eq rfl rfl)
      · exact h.elim
    · exact h.elim
  · exact h.elim
end Go.Proofs.YtfgfoofojofnmaaDoor.V
namespace Go.Proofs.YtfgfoofojofnmaaDoor.V
open Go.VM
open Go.Proofs.YtfgfoofojofnmaaDoor.Q Go.Proofs.YtfgfoofojofnmaaDoor.Hand
theorem rd_take (lv : Int) (l : List S104) : ∀ (m : Nat) (ns : List S44), m ≤ l.length → NP ns.length (l.take m).reverse → ∃ k, k ≤ m ∧ (Mc.rdS lv ns (l.take m).reverse).2 = (l.take k).reverse ∧ (Mc.rdS lv ns (l.take m).reverse).1.length ≤ ns.length
  | 0, ns, _, _ => ⟨0, Nat.le_refl _, by rw [Mc.rdS.eq_def]; rfl, by rw [Mc.rdS.eq_def]; exact Nat.le_refl _⟩
  | m + 1, ns, hm, hp => by
    have ht := take_rev (l := l) (m := m + 1) (by omega) hm
    rw [Nat.add_sub_cancel] at ht
    by_cases hs : (l.getD m zW).f3 = true ∨ levelT (l.getD m zW).f0 < lv
    · exact ⟨m + 1, Nat.le_refl _, by rw [ht, rd_stop hs], by rw [ht, rd_stop hs]; exact Nat.le_refl _⟩
    · rw [ht] at hp
      have h3 : (l.getD m zW).f3 = false := by
        cases h : (l.getD m zW).f3 with
        | false => rfl
        | true => exact absurd (.inl h) hs
      by_cases h11 : (l.getD m zW).f0 = 11
      · obtain ⟨h1, h2⟩ := np_not hp h3 h11
        obtain ⟨a, r, rfl⟩ : ∃ a r, ns = a :: r := by cases ns with
          | nil => simp at h1
          | cons a r => exact ⟨a, r, rfl⟩
        obtain ⟨k, hk, e, e2⟩ := rd_take lv l m (nd 11 [a] (l.getD m zW).f1 :: r) (by omega) (by simpa using h2)
        exact ⟨k, by omega, by rw [ht, rd_not hs h11]; exact e, by rw [ht, rd_not hs h11]; simpa using e2⟩
      · obtain ⟨h1, h2⟩ := np_two hp h3 h11
        obtain ⟨b, a, r, rfl⟩ : ∃ b a r, ns = b :: a :: r := by
          rcases ns with _ | ⟨b, _ | ⟨a, r⟩⟩
          · simp at h1
          · simp at h1
          · exact ⟨b, a, r, rfl⟩
        obtain ⟨k, hk, e, e2⟩ := rd_take lv l m (nd (l.getD m zW).f0 [a, b] (l.getD m zW).f1 :: r) (by omega) (by simpa using h2)
        exact ⟨k, by omega, by rw [ht, rd_two hs h11]; exact e, by rw [ht, rd_two hs h11]; simp at e2 ⊢; omega⟩
/-- What closing comes to. -/
def cloR (ns : List S44) (ws : List S104) : (List S44 × List S104) × Bool := match Mc.cl ns ws with
  | some p => (p, true)
  | none => (((Mc.rdS 1 ns ws).1, []), false)
def CloPost (l : List S104) (r : (List S44 × List S104) × Bool) (v : AV) (h : Heap) : Prop := ∃ c, (∀ i j, i < r.1.1.length → j < 6 → DR (c i j) (rowC encN z44 r.1.1.reverse i j)) ∧ v = .tup [.agg [.d (.vs false r.1.1.length 6 c), .rs 1000 0 r.1.2.length], av (.bool r.2)] ∧ r.1.2.reverse = l.take r.1.2.length ∧ get h 1000 = some (.row l.length 5 (rowC encW zW l))
theorem clo_fin {l : List S104} {r : (List S44 × List S104) × Bool} {N K : Nat} {c : Nat → Nat → D} {b : Bool} {h : Heap} (hN : N = r.1.1.length) (hK : K = r.1.2.length) (hb : b = r.2) (hc : ∀ i j, i < N → j < 6 → DR (c i j) (rowC encN z44 r.1.1.reverse i j)) (ht : r.1.2.reverse = l.take K) (hg : get h 1000 = some (.row l.length 5 (rowC encW zW l))) : CloPost l r (.tup [.agg [.d (.vs false N 6 c), .rs 1000 0 K], av (.bool b)]) h := by
  subst hN hK hb
  exact ⟨c, hc, rfl, ht, hg⟩
set_option maxRecDepth 100000 in
set_option maxHeartbeats 8000000 in
theorem close_v (ns : List S44) (l : List S104) (n : Nat) (hn : n ≤ l.length) (hl : l.length ≤ 1000000) (hns : ns.length ≤ 1000000) (hnp : NP ns.length (l.take n).reverse) (hcl : ∀ x r, (Mc.rdS 1 ns (l.take n).reverse).2 = x :: r → 0 ≤ x.f4 ∧ x.f4.toNat ≤ (Mc.rdS 1 ns (l.take n).reverse).1.length) :
    LSpec Tryd.prog 56 [.agg [dN ns.reverse, .rs 1000 0 n]] [(1000, .row l.length 5 (rowC encW zW l))] (CloPost l (cloR ns (l.take n).reverse)) := by
  refine LSpec.intro (E := ⟨tt, [(61, sReduce)], [38, 39, 52, 53], Tryd.f56.ntmps⟩) tt_ok (fnsOk_cons sReduce_ok fnsOk_nil) mixed Tryd.func56 rfl rfl ?_
  refine Exists.intro ns (Exists.intro l (Chk.mk ⟨⟨rfl, fun _ _ _ _ => .refl _, rfl, fun _ _ _ _ => .refl _, hn, hl, by rw [List.length_reverse]; exact hns⟩, hnp⟩ ?_))
  obtain ⟨k, hkn, hk, hb1⟩ := rd_take 1 l n ns hn hnp
  unfold cloR Mc.cl
  generalize Mc.rdS 1 ns (l.take n).reverse = r at hcl hk hb1 ⊢
  obtain ⟨ns1, ws1⟩ := r
  obtain rfl : ws1 = (l.take k).reverse := hk
  have hlen : (l.take k).reverse.length = k := by simp; omega
  have hbig : ns1.length ≤ 1000000 := Nat.le_trans hb1 hns
  dsimp only at hcl ⊢
  (repeat' (first | refine Chk.mk ?_ ?_ | (refine Br.id ?_; first | refine Br.kt (by with_reducible first | rfl | assumption) ?_ | refine Br.kf (by with_reducible first | rfl | assumption) ?_ | refine Br.kf (show (!true) = false from rfl) ?_ | refine Br.kt (show (!false) = true from rfl) ?_ | refine Br.mk (fun h => ?_) (fun h => ?_)) | (refine (show (noInt _ _ _ && edgesOk _ _) = true from ?_); kernel_rfl)))
  all_goals (try simp only [hlen] at *)
  · refine clo_fin ?_ ?_ ?_ ?_ ?_ rfl
    all_goals (try simp only [decide_eq_true_eq, decide_eq_false_iff_not, beq_iff_eq, beq_eq_false_iff_ne, bne_iff_ne, ne_eq, Nat.zero_add, Nat.add_zero, Int.not_lt, Int.not_le, Bool.not_eq_true', Bool.not_eq_false', ge_iff_le, gt_iff_lt] at *)
    all_goals (obtain rfl : k = 0 := by omega)
    · simp
    · rfl
    · rfl
    · intro i j hi hj; exact .refl _
    · rfl
  · (try simp only [decide_eq_true_eq, decide_eq_false_iff_not, beq_iff_eq, beq_eq_false_iff_ne, bne_iff_ne, ne_eq, Nat.zero_add, Nat.add_zero, Int.not_lt, Int.not_le, Bool.not_eq_true', Bool.not_eq_false', ge_iff_le, gt_iff_lt] at *); rw [wrap_i64 (by omega) (by omega)]; omega
  · (try simp only [decide_eq_true_eq, decide_eq_false_iff_not, beq_iff_eq, beq_eq_false_iff_ne, bne_iff_ne, ne_eq, Nat.zero_add, Nat.add_zero, Int.not_lt, Int.not_le, Bool.not_eq_true', Bool.not_eq_false', ge_iff_le, gt_iff_lt] at *); rw [wrap_i64 (by omega) (by omega)]; omega
  · have h0 : 0 < k := by (try simp only [decide_eq_true_eq, decide_eq_false_iff_not, beq_iff_eq, beq_eq_false_iff_ne, bne_iff_ne, ne_eq, Nat.zero_add, Nat.add_zero, Int.not_lt, Int.not_le, Bool.not_eq_true', Bool.not_eq_false', ge_iff_le, gt_iff_lt] at *); omega
    have hi : (IntKind.i64.wrap ((k : Int) - 1)).toNat = k - 1 := by rw [wrap_i64 (by omega) (by omega)]; omega
    have hq := hcl _ _ (take_rev h0 (by omega))
    (try simp only [decide_eq_true_eq, decide_eq_false_iff_not, beq_iff_eq, beq_eq_false_iff_ne, bne_iff_ne, ne_eq, Nat.zero_add, Nat.add_zero, Int.not_lt, Int.not_le, Bool.not_eq_true', Bool.not_eq_false', ge_iff_le, gt_iff_lt] at *)
    simp only [hi, List.length_reverse] at *
    omega
  · have h0 : 0 < k := by (try simp only [decide_eq_true_eq, decide_eq_false_iff_not, beq_iff_eq, beq_eq_false_iff_ne, bne_iff_ne, ne_eq, Nat.zero_add, Nat.add_zero, Int.not_lt, Int.not_le, Bool.not_eq_true', Bool.not_eq_false', ge_iff_le, gt_iff_lt] at *); omega
    have hi : (IntKind.i64.wrap ((k : Int) - 1)).toNat = k - 1 := by rw [wrap_i64 (by omega) (by omega)]; omega
    have hq := hcl _ _ (take_rev h0 (by omega))
    (try simp only [decide_eq_true_eq, decide_eq_false_iff_not, beq_iff_eq, beq_eq_false_iff_ne, bne_iff_ne, ne_eq, Nat.zero_add, Nat.add_zero, Int.not_lt, Int.not_le, Bool.not_eq_true', Bool.not_eq_false', ge_iff_le, gt_iff_lt] at *)
    simp only [hi, List.length_reverse] at *
    omega
  · have h0 : 0 < k := by (try simp only [decide_eq_true_eq, decide_eq_false_iff_not, beq_iff_eq, beq_eq_false_iff_ne, bne_iff_ne, ne_eq, Nat.zero_add, Nat.add_zero, Int.not_lt, Int.not_le, Bool.not_eq_true', Bool.not_eq_false', ge_iff_le, gt_iff_lt] at *); omega
    have hi : (IntKind.i64.wrap ((k : Int) - 1)).toNat = k - 1 := by rw [wrap_i64 (by omega) (by omega)]; omega
    have hq := hcl _ _ (take_rev h0 (by omega))
    (try simp only [decide_eq_true_eq, decide_eq_false_iff_not, beq_iff_eq, beq_eq_false_iff_ne, bne_iff_ne, ne_eq, Nat.zero_add, Nat.add_zero, Int.not_lt, Int.not_le, Bool.not_eq_true', Bool.not_eq_false', ge_iff_le, gt_iff_lt] at *)
    simp only [hi, List.length_reverse] at *
    omega
  · have h0 : 0 < k := by (try simp only [decide_eq_true_eq, decide_eq_false_iff_not, beq_iff_eq, beq_eq_false_iff_ne, bne_iff_ne, ne_eq, Nat.zero_add, Nat.add_zero, Int.not_lt, Int.not_le, Bool.not_eq_true', Bool.not_eq_false', ge_iff_le, gt_iff_lt] at *); omega
    have hi : (IntKind.i64.wrap ((k : Int) - 1)).toNat = k - 1 := by rw [wrap_i64 (by omega) (by omega)]; omega
    have hq := hcl _ _ (take_rev h0 (by omega))
    (try simp only [decide_eq_true_eq, decide_eq_false_iff_not, beq_iff_eq, beq_eq_false_iff_ne, bne_iff_ne, ne_eq, Nat.zero_add, Nat.add_zero, Int.not_lt, Int.not_le, Bool.not_eq_true', Bool.not_eq_false', ge_iff_le, gt_iff_lt] at *)
    simp only [hi, List.length_reverse] at *
    omega
  · have h0 : 0 < k := by (try simp only [decide_eq_true_eq, decide_eq_false_iff_not, beq_iff_eq, beq_eq_false_iff_ne, bne_iff_ne, ne_eq, Nat.zero_add, Nat.add_zero, Int.not_lt, Int.not_le, Bool.not_eq_true', Bool.not_eq_false', ge_iff_le, gt_iff_lt] at *); omega
    have hi : (IntKind.i64.wrap ((k : Int) - 1)).toNat = k - 1 := by rw [wrap_i64 (by omega) (by omega)]; omega
    have hq := hcl _ _ (take_rev h0 (by omega))
    (try simp only [decide_eq_true_eq, decide_eq_false_iff_not, beq_iff_eq, beq_eq_false_iff_ne, bne_iff_ne, ne_eq, Nat.zero_add, Nat.add_zero, Int.not_lt, Int.not_le, Bool.not_eq_true', Bool.not_eq_false', ge_iff_le, gt_iff_lt] at *)
    simp only [hi, List.length_reverse] at *
    omega
  · have h0 : 0 < k := by (try simp only [decide_eq_true_eq, decide_eq_false_iff_not, beq_iff_eq, beq_eq_false_iff_ne, bne_iff_ne, ne_eq, Nat.zero_add, Nat.add_zero, Int.not_lt, Int.not_le, Bool.not_eq_true', Bool.not_eq_false', ge_iff_le, gt_iff_lt] at *); omega
    have hi : (IntKind.i64.wrap ((k : Int) - 1)).toNat = k - 1 := by rw [wrap_i64 (by omega) (by omega)]; omega
    have hq := hcl _ _ (take_rev h0 (by omega))
    have hr1 : (l.take (k - 1)).reverse.length = k - 1 := by simp; omega
    have hw : ¬ (l.getD (k - 1) zW).f2.toList = [] := by (try simp only [decide_eq_true_eq, decide_eq_false_iff_not, beq_iff_eq, beq_eq_false_iff_ne, bne_iff_ne, ne_eq, Nat.zero_add, Nat.add_zero, Int.not_lt, Int.not_le, Bool.not_eq_true', Bool.not_eq_false', ge_iff_le, gt_iff_lt] at *); simp only [hi] at *; simpa using h
    refine clo_fin ?_ ?_ ?_ ?_ ?_ rfl
    all_goals (try simp only [decide_eq_true_eq, decide_eq_false_iff_not, beq_iff_eq, beq_eq_false_iff_ne, bne_iff_ne, ne_eq, Nat.zero_add, Nat.add_zero, Int.not_lt, Int.not_le, Bool.not_eq_true', Bool.not_eq_false', ge_iff_le, gt_iff_lt] at *)
    all_goals simp only [hi] at *
    all_goals rw [take_rev h0 (by omega)]
    all_goals dsimp only
    all_goals try rw [if_neg hw]
    · rw [List.length_cons, List.length_drop]; omega
    · rw [hr1]; rfl
    · intro i j hi hj
      obtain ⟨q, hqq⟩ : ∃ q, q = (l.getD (k - 1) zW).f4.toNat := ⟨_, rfl⟩
      rw [← hqq] at hq hi ⊢
      have hsp : ns1.reverse = (List.drop (ns1.length - q) ns1).reverse ++ (List.take (ns1.length - q) ns1).reverse := by rw [← List.reverse_append, List.take_append_drop]
      have hA : (List.drop (ns1.length - q) ns1).reverse.length = q := by rw [List.length_reverse, List.length_drop]; omega
      have hB : (List.take (ns1.length - q) ns1).reverse.length = ns1.length - q := by rw [List.length_reverse, List.length_take]; omega
      rw [List.reverse_cons]
      refine dr_push (by rw [hA]; rfl) (fun i j hi => ?_) ?_ hi hj
      · rw [hsp]; exact row_pre (by rw [hA]; exact hi)
      · refine six (DR.refl _) (DR.refl _) (DR.refl _) (DR.refl _) ?_ (DR.refl _)
        refine DR.vs (fun e => e) (by rw [hB, List.length_reverse]) (fun i j hi hj => DR.of ?_)
        rw [List.length_reverse] at hi
        rw [encNs_get _ _ _ (by rw [hB]; exact hi), hsp]
        show encN ((_ ++ _ : List S44).getD (q + i) z44) j = encN (List.getD _ i z44) j
        rw [List.getD_eq_getElem?_getD, List.getD_eq_getElem?_getD, List.getElem?_append_right (by rw [hA]; omega), hA, Nat.add_sub_cancel_left]
    · rw [List.reverse_reverse]; rfl
  · have h0 : 0 < k := by (try simp only [decide_eq_true_eq, decide_eq_false_iff_not, beq_iff_eq, beq_eq_false_iff_ne, bne_iff_ne, ne_eq, Nat.zero_add, Nat.add_zero, Int.not_lt, Int.not_le, Bool.not_eq_true', Bool.not_eq_false', ge_iff_le, gt_iff_lt] at *); omega
    have hi : (IntKind.i64.wrap ((k : Int) - 1)).toNat = k - 1 := by rw [wrap_i64 (by omega) (by omega)]; omega
    have hq := hcl _ _ (take_rev h0 (by omega))
    have hr1 : (l.take (k - 1)).reverse.length = k - 1 := by simp; omega
    have hw : (l.getD (k - 1) zW).f2.toList = [] := by (try simp only [decide_eq_true_eq, decide_eq_false_iff_not, beq_iff_eq, beq_eq_false_iff_ne, bne_iff_ne, ne_eq, Nat.zero_add, Nat.add_zero, Int.not_lt, Int.not_le, Bool.not_eq_true', Bool.not_eq_false', ge_iff_le, gt_iff_lt] at *); simp only [hi] at *; simpa using h
    refine clo_fin ?_ ?_ ?_ ?_ ?_ rfl
    all_goals (try simp only [decide_eq_true_eq, decide_eq_false_iff_not, beq_iff_eq, beq_eq_false_iff_ne, bne_iff_ne, ne_eq, Nat.zero_add, Nat.add_zero, Int.not_lt, Int.not_le, Bool.not_eq_true', Bool.not_eq_false', ge_iff_le, gt_iff_lt] at *)
    all_goals simp only [hi] at *
    all_goals rw [take_rev h0 (by omega)]
    all_goals dsimp only
    all_goals try rw [if_pos hw]
    · simp
    · rw [hr1]; rfl
    · exact fun _ _ _ _ => DR.refl _
    · rw [List.reverse_reverse]; rfl
def sClose : Summ := fun args _ => match args with
  | [.agg [.d (.vs _ n 6 c), .rs r 0 m]] => .obj r fun
    | .row N 5 cw => .ex fun ns : List S44 => .ex fun l : List S104 => .chk (StOk n c N cw m ns.reverse l ∧ NP ns.length (l.take m).reverse ∧ ∀ x r, (Mc.rdS 1 ns (l.take m).reverse).2 = x :: r → 0 ≤ x.f4 ∧ x.f4.toNat ≤ (Mc.rdS 1 ns (l.take m).reverse).1.length) (.pure ⟨.tup [.agg [dN (cloR ns (l.take m).reverse).1.1.reverse, .rs r 0 (cloR ns (l.take m).reverse).1.2.length], av (.bool (cloR ns (l.take m).reverse).2)], [(r, .row N 5 (rowC encW zW l))], []⟩)
    | _ => .fail 1007
  | _ => .fail 1008
theorem sClose_ok : SummOk Tryd.prog 56 sClose := SummOk.lift ⟨_, Tryd.func56, rfl, rfl⟩ fun args fr sl hp Φ h => by
  unfold sClose at h
  split at h
  · rename_i x n c r m
    simp only [RM.wp] at h
    split at h
    · rename_i o ho
      split at h
      · rename_i N cw
        simp only [RM.wp] at h
        obtain ⟨ns, l, h⟩ := h
        obtain ⟨⟨hs, hnp, hcl⟩, hΦ⟩ := h
        have hNl := hs.hN
        have hnl := hs.hn
        subst hNl
        rw [List.length_reverse] at hnl
        refine ⟨fun _ => r, fun _ => 1000, _, _, _, close_v ns l m hs.hm hs.big (by rw [← hnl]; exact hs.nbig) hnp hcl, ?_, ?_, inj_one, fun v hp1 hP => ⟨_, _, _, hΦ, ?_⟩⟩
        · refine VR.cons (VR.agg (VR.cons (VR.dr (DR.vs (fun e => (by cases e)) hs.hn hs.hc)) (VR.cons (VR.rs rfl rfl rfl rfl) VR.nil))) VR.nil
        · exact ⟨⟨_, ho, ORel.row rfl hs.hcw⟩, trivial⟩
        · obtain ⟨c', hc', hv, _, hg⟩ := hP
          subst hv
          refine Lift.one ho ⟨rfl, rfl⟩ (fun e => by cases e) hg (ORel.row rfl fun _ _ _ _ => .refl _) ?_
          exact VR.tup (VR.cons (VR.agg (VR.cons (VR.dr (DR.vs (fun e => e) (by simp) hc')) (VR.cons (VR.rs rfl (by rw [get_cons, if_pos rfl]; rfl) rfl rfl) VR.nil))) (VR.cons (VR.eq rfl rfl) VR.nil))
      · exact h.elim
    · exact h.elim
  · exact h.elim
end Go.Proofs.YtfgfoofojofnmaaDoor.V
namespace Go.Proofs.YtfgfoofojofnmaaDoor.V
open Go.VM
open Go.Proofs.YtfgfoofojofnmaaDoor.Q Go.Proofs.YtfgfoofojofnmaaDoor.Hand
theorem row_N {l : List S44} {i j : Nat} (h : i < l.length) : DR (encNs l i j) (rowC encN z44 l i j) := DR.of (encNs_get l i j h)
theorem row_N' {l : List S44} {i j : Nat} (h : i < l.length) : DR (rowC encN z44 l i j) (encNs l i j) := DR.of (encNs_get l i j h).symm
def sDepth (N : Nat) : Summ := fun args _ => match args with
  | [.agg cs] => .ex fun x : S44 => .chk (cs = cellsN x ∧ wt x ≤ N) (.pure ⟨av (.int .i64 (depthT x)), [], []⟩)
  | _ => .fail 1009
theorem wt_kid : ∀ {l : List S44} {i : Nat}, i < l.length → wt (l.getD i z44) ≤ wtM l
  | x :: l, 0, _ => by rw [wtM]; show wt x ≤ _; omega
  | x :: l, i + 1, h => by rw [wtM]; have := wt_kid (l := l) (i := i) (by simpa using h); show wt (l.getD i z44) ≤ _; omega
theorem wt_is (x : S44) : wt x = 1 + wtM x.f4 := by obtain ⟨a, b, c, d, ks, e⟩ := x; rw [wt]
theorem len_wt : ∀ l : List S44, l.length ≤ wtM l
  | [] => by simp
  | y :: l => by rw [wtM, wt_is, List.length_cons]; have := len_wt l; omega
theorem depthT_is (x : S44) : depthT x = depthM x.f4 + 1 := by obtain ⟨a, b, c, d, ks, e⟩ := x; rw [depthT]
theorem depthM_up : ∀ (l : List S44) (i : Nat), i < l.length → depthM (l.take (i + 1)) = max (depthM (l.take i)) (depthT (l.getD i z44))
  | x :: l, 0, _ => by simp [depthM]
  | x :: l, i + 1, h => by
    rw [List.take_succ_cons, List.take_succ_cons, depthM, depthM, depthM_up l i (by simpa using h)]
    show max _ (max _ (depthT (l.getD i z44))) = max (max _ _) (depthT (l.getD i z44))
    omega
mutual
theorem depth_wt : ∀ x : S44, depthT x ≤ wt x
  | ⟨a, b, c, d, ks, e⟩ => by rw [depthT, wt]; have := depthM_wt ks; omega
theorem depthM_wt : ∀ l : List S44, depthM l ≤ wtM l
  | [] => by rw [depthM]; omega
  | x :: l => by rw [depthM, wtM]; have := depth_wt x; have := depthM_wt l; omega
end
theorem depthM_take : ∀ (l : List S44) (i : Nat), depthM (l.take i) ≤ depthM l
  | [], i => by simp
  | x :: l, 0 => by simp [depthM]
  | x :: l, i + 1 => by rw [List.take_succ_cons, depthM, depthM]; have := depthM_take l i; omega
set_option maxRecDepth 100000 in
theorem depth_v (N : Nat) (hN : N ≤ 1000000) (hS : SummOk Tryd.prog 31 (sDepth N)) (x : S44) (hx : wt x ≤ N + 1) : VSpec Tryd.prog 31 [.agg (cellsN x)] (av (.int .i64 (depthT x))) := by
  refine LSpec.intro (E := ⟨tt, [(31, sDepth N)], [], Tryd.f31.ntmps⟩) tt_ok (fnsOk_cons hS fnsOk_nil) mixed Tryd.func31 rfl rfl ?_
  have hw := wt_is x
  have hd := depthM_wt x.f4
  have hln := len_wt x.f4
  refine Exists.intro (fun (m : Nat) (s : Slots) (h : Heap) => ∃ i : Nat, s = [(1, AV.pc 1 0), (3, av (.int .i64 (depthM (x.f4.take i)))), (4, av (.int .i64 i))] ∧ h = [(1, AO.cells [av (.int .i64 x.f0), av (.string x.f1), av (.int .i64 x.f2), av (.int .u64 x.f3), .d (.vs false x.f4.length 6 (rowC encN z44 x.f4)), av (.int .i64 x.f5)])] ∧ i ≤ x.f4.length ∧ m = x.f4.length - i) ?_
  refine And.intro ?_ (fun m s h hI => ?_)
  · refine ⟨_, _, _, ?_, 0, rfl, rfl, Nat.zero_le _, rfl⟩
    (refine Weak.of id ?_ ?_ (fun _ _ _ _ e => e) ?_ <;> first | exact lw_of rfl | (repeat' (first | exact True.intro | refine And.intro (Exists.intro _ (And.intro rfl ?_)) ?_ | exact ORel.dead | refine ORel.cells ?_ | exact ORel.row rfl (fun _ _ _ _ => DR.refl _) | refine ORel.row rfl ?_ | refine ORel.row ?_ ?_ | (first | exact VR.eq rfl rfl | exact VR.pc rfl rfl | exact VR.pr rfl rfl | exact VR.mp rfl rfl | exact VR.rs rfl rfl rfl rfl | exact VR.nilv | exact VR.nilrs rfl | exact VR.nil | refine VR.agg ?_ | refine VR.tup ?_ | refine VR.cons ?_ ?_ | refine VR.eq (eqI ?_) rfl | refine VR.eq (eqB ?_) rfl | refine VR.eq (eqS ?_) rfl | refine VR.rs rfl rfl rfl ?_ | refine VR.dr (DR.vs (fun e => e) rfl ?_) | refine VR.dr (DR.vs (fun e => (by cases e)) rfl ?_) | refine VR.dr (DR.vs (fun e => e) ?_ ?_) | refine VR.dr (DR.vs (fun e => (by cases e)) ?_ ?_)))))
    exact fun i j hi _ => row_N hi
  · obtain ⟨i, rfl, rfl, h1, hm⟩ := hI
    have hk : ∀ hi : i < x.f4.length, wt (x.f4.getD i z44) ≤ N := fun hi => by have := wt_kid hi; omega
    have hb := depthM_take x.f4 i
    (repeat' (first | refine Chk.mk ?_ ?_ | (refine Br.id ?_; first | refine Br.kt (by with_reducible first | rfl | assumption) ?_ | refine Br.kf (by with_reducible first | rfl | assumption) ?_ | refine Br.kf (show (!true) = false from rfl) ?_ | refine Br.kt (show (!false) = true from rfl) ?_ | refine Br.mk (fun h => ?_) (fun h => ?_)) | (refine (show (noInt _ _ _ && edgesOk _ _) = true from ?_); kernel_rfl)))
    · (try simp only [decide_eq_true_eq, decide_eq_false_iff_not, beq_iff_eq, beq_eq_false_iff_ne, bne_iff_ne, ne_eq, Nat.zero_add, Nat.add_zero, Int.not_lt, Int.not_le, Bool.not_eq_true', Bool.not_eq_false', ge_iff_le, gt_iff_lt] at *); omega
    · refine Exists.intro (x.f4.getD i z44) (Chk.mk ⟨rfl, hk (by (try simp only [decide_eq_true_eq, decide_eq_false_iff_not, beq_iff_eq, beq_eq_false_iff_ne, bne_iff_ne, ne_eq, Nat.zero_add, Nat.add_zero, Int.not_lt, Int.not_le, Bool.not_eq_true', Bool.not_eq_false', ge_iff_le, gt_iff_lt] at *); omega)⟩ ?_)
      have hu := depthM_up x.f4 i (by (try simp only [decide_eq_true_eq, decide_eq_false_iff_not, beq_iff_eq, beq_eq_false_iff_ne, bne_iff_ne, ne_eq, Nat.zero_add, Nat.add_zero, Int.not_lt, Int.not_le, Bool.not_eq_true', Bool.not_eq_false', ge_iff_le, gt_iff_lt] at *); omega)
      (repeat' (first | refine Chk.mk ?_ ?_ | (refine Br.id ?_; first | refine Br.kt (by with_reducible first | rfl | assumption) ?_ | refine Br.kf (by with_reducible first | rfl | assumption) ?_ | refine Br.kf (show (!true) = false from rfl) ?_ | refine Br.kt (show (!false) = true from rfl) ?_ | refine Br.mk (fun h => ?_) (fun h => ?_)) | (refine (show (noInt _ _ _ && edgesOk _ _) = true from ?_); kernel_rfl)))
      · refine goes ⟨i + 1, rfl, rfl, ?_, rfl⟩ ?_ ?_
        · (try simp only [decide_eq_true_eq, decide_eq_false_iff_not, beq_iff_eq, beq_eq_false_iff_ne, bne_iff_ne, ne_eq, Nat.zero_add, Nat.add_zero, Int.not_lt, Int.not_le, Bool.not_eq_true', Bool.not_eq_false', ge_iff_le, gt_iff_lt] at *); omega
        · (try simp only [decide_eq_true_eq, decide_eq_false_iff_not, beq_iff_eq, beq_eq_false_iff_ne, bne_iff_ne, ne_eq, Nat.zero_add, Nat.add_zero, Int.not_lt, Int.not_le, Bool.not_eq_true', Bool.not_eq_false', ge_iff_le, gt_iff_lt] at *); omega
        · (refine Weak.of id ?_ ?_ (fun _ _ _ _ e => e) ?_ <;> first | exact lw_of rfl | (repeat' (first | exact True.intro | refine And.intro (Exists.intro _ (And.intro rfl ?_)) ?_ | exact ORel.dead | refine ORel.cells ?_ | exact ORel.row rfl (fun _ _ _ _ => DR.refl _) | refine ORel.row rfl ?_ | refine ORel.row ?_ ?_ | (first | exact VR.eq rfl rfl | exact VR.pc rfl rfl | exact VR.pr rfl rfl | exact VR.mp rfl rfl | exact VR.rs rfl rfl rfl rfl | exact VR.nilv | exact VR.nilrs rfl | exact VR.nil | refine VR.agg ?_ | refine VR.tup ?_ | refine VR.cons ?_ ?_ | refine VR.eq (eqI ?_) rfl | refine VR.eq (eqB ?_) rfl | refine VR.eq (eqS ?_) rfl | refine VR.rs rfl rfl rfl ?_ | refine VR.dr (DR.vs (fun e => e) rfl ?_) | refine VR.dr (DR.vs (fun e => (by cases e)) rfl ?_) | refine VR.dr (DR.vs (fun e => e) ?_ ?_) | refine VR.dr (DR.vs (fun e => (by cases e)) ?_ ?_)))))
          · (try simp only [decide_eq_true_eq, decide_eq_false_iff_not, beq_iff_eq, beq_eq_false_iff_ne, bne_iff_ne, ne_eq, Nat.zero_add, Nat.add_zero, Int.not_lt, Int.not_le, Bool.not_eq_true', Bool.not_eq_false', ge_iff_le, gt_iff_lt] at *); rw [hu]; omega
          · (try simp only [decide_eq_true_eq, decide_eq_false_iff_not, beq_iff_eq, beq_eq_false_iff_ne, bne_iff_ne, ne_eq, Nat.zero_add, Nat.add_zero, Int.not_lt, Int.not_le, Bool.not_eq_true', Bool.not_eq_false', ge_iff_le, gt_iff_lt] at *); rw [wrap_i64 (by omega) (by omega)]; omega
      · refine goes ⟨i + 1, rfl, rfl, ?_, rfl⟩ ?_ ?_
        · (try simp only [decide_eq_true_eq, decide_eq_false_iff_not, beq_iff_eq, beq_eq_false_iff_ne, bne_iff_ne, ne_eq, Nat.zero_add, Nat.add_zero, Int.not_lt, Int.not_le, Bool.not_eq_true', Bool.not_eq_false', ge_iff_le, gt_iff_lt] at *); omega
        · (try simp only [decide_eq_true_eq, decide_eq_false_iff_not, beq_iff_eq, beq_eq_false_iff_ne, bne_iff_ne, ne_eq, Nat.zero_add, Nat.add_zero, Int.not_lt, Int.not_le, Bool.not_eq_true', Bool.not_eq_false', ge_iff_le, gt_iff_lt] at *); omega
        · (refine Weak.of id ?_ ?_ (fun _ _ _ _ e => e) ?_ <;> first | exact lw_of rfl | (repeat' (first | exact True.intro | refine And.intro (Exists.intro _ (And.intro rfl ?_)) ?_ | exact ORel.dead | refine ORel.cells ?_ | exact ORel.row rfl (fun _ _ _ _ => DR.refl _) | refine ORel.row rfl ?_ | refine ORel.row ?_ ?_ | (first | exact VR.eq rfl rfl | exact VR.pc rfl rfl | exact VR.pr rfl rfl | exact VR.mp rfl rfl | exact VR.rs rfl rfl rfl rfl | exact VR.nilv | exact VR.nilrs rfl | exact VR.nil | refine VR.agg ?_ | refine VR.tup ?_ | refine VR.cons ?_ ?_ | refine VR.eq (eqI ?_) rfl | refine VR.eq (eqB ?_) rfl | refine VR.eq (eqS ?_) rfl | refine VR.rs rfl rfl rfl ?_ | refine VR.dr (DR.vs (fun e => e) rfl ?_) | refine VR.dr (DR.vs (fun e => (by cases e)) rfl ?_) | refine VR.dr (DR.vs (fun e => e) ?_ ?_) | refine VR.dr (DR.vs (fun e => (by cases e)) ?_ ?_)))))
          · (try simp only [decide_eq_true_eq, decide_eq_false_iff_not, beq_iff_eq, beq_eq_false_iff_ne, bne_iff_ne, ne_eq, Nat.zero_add, Nat.add_zero, Int.not_lt, Int.not_le, Bool.not_eq_true', Bool.not_eq_false', ge_iff_le, gt_iff_lt] at *); rw [hu]; omega
          · (try simp only [decide_eq_true_eq, decide_eq_false_iff_not, beq_iff_eq, beq_eq_false_iff_ne, bne_iff_ne, ne_eq, Nat.zero_add, Nat.add_zero, Int.not_lt, Int.not_le, Bool.not_eq_true', Bool.not_eq_false', ge_iff_le, gt_iff_lt] at *); rw [wrap_i64 (by omega) (by omega)]; omega
    · refine eqI ?_
      (try simp only [decide_eq_true_eq, decide_eq_false_iff_not, beq_iff_eq, beq_eq_false_iff_ne, bne_iff_ne, ne_eq, Nat.zero_add, Nat.add_zero, Int.not_lt, Int.not_le, Bool.not_eq_true', Bool.not_eq_false', ge_iff_le, gt_iff_lt] at *)
      obtain rfl : i = x.f4.length := by omega
      rw [List.take_length, wrap_i64 (by omega) (by omega), depthT_is]; omega
theorem sDepth_ok : ∀ N : Nat, N ≤ 1000000 → SummOk Tryd.prog 31 (sDepth N)
  | 0, _ => SummOk.pure ⟨_, Tryd.func31, rfl, rfl⟩ fun args fr sl hp Φ h => by
    unfold sDepth at h
    split at h
    · obtain ⟨x, ⟨_, hw⟩, _⟩ := h
      rw [wt_is] at hw; omega
    · exact h.elim
  | N + 1, hN => SummOk.pure ⟨_, Tryd.func31, rfl, rfl⟩ fun args fr sl hp Φ h => by
    unfold sDepth at h
    split at h
    · obtain ⟨x, ⟨rfl, hw⟩, h⟩ := h
      exact ⟨_, h, rfl, rfl, depth_v N (by omega) (sDepth_ok N (by omega)) x hw⟩
    · exact h.elim
end Go.Proofs.YtfgfoofojofnmaaDoor.V
namespace Go.Proofs.YtfgfoofojofnmaaDoor.Q
open Go.Proofs.YtfgfoofojofnmaaDoor.V
set_option linter.unusedVariables false
set_option linter.unusedSimpArgs false
open Go.Proofs.YtfgfoofojofnmaaDoor.Hand
namespace Mc
theorem rd_not1 {lv : Int} {a : S44} {r0 : List S44} {x : S104} {r : List S104} (h3 : x.f3 = false) (hl : ¬ levelT x.f0 < lv) (h11 : x.f0 = 11) : rdS lv (a :: r0) (x :: r) = rdS lv (nd 11 [a] x.f1 :: r0) r := by
  rw [rdS.eq_def]; dsimp only
  rw [if_neg (by rw [h3]; rintro (h | h); exact absurd h (by decide); exact hl h), if_pos h11]
theorem rd_two1 {lv : Int} {a b : S44} {r0 : List S44} {x : S104} {r : List S104} (h3 : x.f3 = false) (hl : ¬ levelT x.f0 < lv) (h11 : x.f0 ≠ 11) : rdS lv (b :: a :: r0) (x :: r) = rdS lv (nd x.f0 [a, b] x.f1 :: r0) r := by
  rw [rdS.eq_def]; dsimp only
  rw [if_neg (by rw [h3]; rintro (h | h); exact absurd h (by decide); exact hl h), if_neg h11]
/-- n nodes over what waits, an operand just read. -/
def Sh : Nat → List S104 → Prop
  | n, [] => n = 1
  | n, w :: ws => if w.f3 = true then 0 ≤ w.f4 ∧ w.f4.toNat + 1 ≤ n ∧ (w.f2.toList = [] → n = w.f4.toNat + 1) ∧ Sh (w.f4.toNat + 1) ws else if w.f0 = 11 then 1 ≤ n ∧ Sh n ws else 2 ≤ n ∧ Sh (n - 1) ws
theorem sh_open {n : Nat} {w : S104} {ws : List S104} (h : w.f3 = true) : Sh n (w :: ws) = (0 ≤ w.f4 ∧ w.f4.toNat + 1 ≤ n ∧ (w.f2.toList = [] → n = w.f4.toNat + 1) ∧ Sh (w.f4.toNat + 1) ws) := by rw [Sh, if_pos h]
theorem sh_not {n : Nat} {w : S104} {ws : List S104} (h : w.f3 = false) (h0 : w.f0 = 11) : Sh n (w :: ws) = (1 ≤ n ∧ Sh n ws) := by rw [Sh, if_neg (by rw [h]; decide), if_pos h0]
theorem sh_two {n : Nat} {w : S104} {ws : List S104} (h : w.f3 = false) (h0 : w.f0 ≠ 11) : Sh n (w :: ws) = (2 ≤ n ∧ Sh (n - 1) ws) := by rw [Sh, if_neg (by rw [h]; decide), if_neg h0]
theorem f3_of {w : S104} (h : ¬ w.f3 = true) : w.f3 = false := by cases e : w.f3 with | true => exact absurd e h | false => rfl
theorem sh_np : ∀ (ws : List S104) (n : Nat), Sh n ws → NP n ws
  | [], _, _ => trivial
  | w :: ws, n, h => by
    by_cases h3 : w.f3 = true
    · exact .inl h3
    · by_cases h0 : w.f0 = 11
      · rw [sh_not (f3_of h3) h0] at h; exact .inr (.inl ⟨h0, h.1, sh_np ws n h.2⟩)
      · rw [sh_two (f3_of h3) h0] at h; exact .inr (.inr ⟨h0, h.1, sh_np ws _ h.2⟩)
theorem sh_pos : ∀ (ws : List S104) (n : Nat), Sh n ws → 1 ≤ n
  | [], n, h => by have : n = 1 := h; omega
  | w :: ws, n, h => by
    by_cases h3 : w.f3 = true
    · rw [sh_open h3] at h; omega
    · by_cases h0 : w.f0 = 11
      · rw [sh_not (f3_of h3) h0] at h; exact h.1
      · rw [sh_two (f3_of h3) h0] at h; omega
theorem sh_rd (lv : Int) : ∀ (ws : List S104) (ns : List S44), Sh ns.length ws → Sh (rdS lv ns ws).1.length (rdS lv ns ws).2
  | [], ns, h => by rw [rd_keep (.inl rfl)]; exact h
  | w :: ws, ns, h => by
    by_cases hs : w.f3 = true ∨ levelT w.f0 < lv
    · rw [rd_keep (.inr ⟨w, ws, rfl, hs⟩)]; exact h
    · have h3 : w.f3 = false := f3_of (fun e => hs (.inl e))
      have hl : ¬ levelT w.f0 < lv := fun h => hs (.inr h)
      by_cases h0 : w.f0 = 11
      · rw [sh_not h3 h0] at h
        cases ns with
        | nil => exact absurd h.1 (by simp)
        | cons a r0 => rw [rd_not1 h3 hl h0]; exact sh_rd lv ws (nd 11 [a] w.f1 :: r0) h.2
      · rw [sh_two h3 h0] at h
        match ns, h with
        | b :: a :: r0, h => rw [rd_two1 h3 hl h0]; exact sh_rd lv ws (nd w.f0 [a, b] w.f1 :: r0) h.2
/-- Signs that hold by 1 at least are all done: a bracket is on top, or nothing. -/
theorem levelT_pos (op : Int) : 1 ≤ levelT op := by
  unfold levelT
  repeat' split
  all_goals decide
theorem rd_top : ∀ (ws : List S104) (ns : List S44), NP ns.length ws → ∀ x r, (rdS 1 ns ws).2 = x :: r → x.f3 = true
  | [], ns, _, x, r, e => by rw [rd_keep (.inl rfl)] at e; exact absurd e (by simp)
  | w :: ws, ns, h, x, r, e => by
    by_cases hs : w.f3 = true ∨ levelT w.f0 < 1
    · rw [rd_keep (.inr ⟨w, ws, rfl, hs⟩)] at e
      injection e with e1 e2
      rcases hs with hs | hs
      · rw [← e1]; exact hs
      · have := levelT_pos w.f0; omega
    · have h3 : w.f3 = false := f3_of (fun e => hs (.inl e))
      have hl : ¬ levelT w.f0 < 1 := fun h => hs (.inr h)
      rcases h with h | ⟨h11, h1, hnp⟩ | ⟨h11, h2, hnp⟩
      · rw [h3] at h; exact absurd h (by decide)
      · cases ns with
        | nil => exact absurd h1 (by simp)
        | cons a r0 => rw [rd_not1 h3 hl h11] at e; exact rd_top ws (nd 11 [a] w.f1 :: r0) hnp x r e
      · match ns, h2 with
        | b :: a :: r0, _ => rw [rd_two1 h3 hl h11] at e; exact rd_top ws (nd w.f0 [a, b] w.f1 :: r0) hnp x r e
/-- What close wants of the innermost bracket. -/
theorem sh_hcl {ns : List S44} {ws : List S104} (h : Sh ns.length ws) : ∀ x r, (rdS 1 ns ws).2 = x :: r → 0 ≤ x.f4 ∧ x.f4.toNat ≤ (rdS 1 ns ws).1.length := by
  intro x r e
  have h1 := sh_rd 1 ws ns h
  have h3 := rd_top ws ns (sh_np ws _ h) x r e
  rw [e, sh_open h3] at h1
  omega
theorem sh_close {ns : List S44} {ws : List S104} (h : Sh ns.length ws) {p : List S44 × List S104} (hp : cl ns ws = some p) : Sh p.1.length p.2 := by
  have h1 := sh_rd 1 ws ns h
  unfold cl at hp
  split at hp
  · exact absurd hp (by simp)
  · rename_i w r e
    have h3 := rd_top ws ns (sh_np ws _ h) w r e
    rw [e, sh_open h3] at h1
    injection hp with hp
    subst hp
    by_cases ht : w.f2.toList = []
    · simp only [if_pos ht]
      rw [h1.2.2.1 ht]; exact h1.2.2.2
    · simp only [if_neg ht]
      rw [List.length_cons, List.length_drop]
      have : (rdS 1 ns ws).1.length - ((rdS 1 ns ws).1.length - w.f4.toNat) = w.f4.toNat := by omega
      rw [this]; exact h1.2.2.2
theorem inC_rd (lv : Int) : ∀ (ws : List S104) (ns : List S44), NP ns.length ws → inC (rdS lv ns ws).2 = inC ws
  | [], ns, h => by rw [rd_keep (.inl rfl)]
  | w :: ws, ns, h => by
    by_cases hs : w.f3 = true ∨ levelT w.f0 < lv
    · rw [rd_keep (.inr ⟨w, ws, rfl, hs⟩)]
    · have h3 : w.f3 = false := f3_of (fun e => hs (.inl e))
      have hl : ¬ levelT w.f0 < lv := fun h => hs (.inr h)
      have e1 : inC (w :: ws) = inC ws := by rw [inC, if_neg (by rw [h3]; decide)]
      rw [e1]
      rcases h with h | ⟨h11, h1, hnp⟩ | ⟨h11, h2, hnp⟩
      · rw [h3] at h; exact absurd h (by decide)
      · cases ns with
        | nil => exact absurd h1 (by simp)
        | cons a r0 => rw [rd_not1 h3 hl h11]; exact inC_rd lv ws (nd 11 [a] w.f1 :: r0) hnp
      · match ns, h2 with
        | b :: a :: r0, _ => rw [rd_two1 h3 hl h11]; exact inC_rd lv ws (nd w.f0 [a, b] w.f1 :: r0) hnp
/-- Behind a comma of a call an operand is wanted. -/
theorem sh_comma {ns : List S44} {ws : List S104} (h : Sh ns.length ws) (hc : inC ws = true) : Sh ((rdS 1 ns ws).1.length + 1) (rdS 1 ns ws).2 := by
  have h1 := sh_rd 1 ws ns h
  have h2 := inC_rd 1 ws ns (sh_np ws _ h)
  have h3 := rd_top ws ns (sh_np ws _ h)
  rw [hc] at h2
  generalize rdS 1 ns ws = p at *
  obtain ⟨ns', ws'⟩ := p
  cases ws' with
  | nil => exact absurd (show (false = true) from h2) (by decide)
  | cons w r =>
    have h4 := h3 w r rfl
    simp only at h1 h2 ⊢
    rw [sh_open h4] at h1 ⊢
    rw [inC, if_pos h4] at h2
    refine ⟨h1.1, by omega, fun ht => ?_, h1.2.2.2⟩
    rw [ht] at h2
    exact absurd h2 (by decide)
/-- A call without arguments. -/
theorem sh_call0 {t : S39} {ns : List S44} {ws : List S104} (h : Sh (ns.length + 1) ws) (hn : t.f1.toList ≠ []) : ∃ p, cl ns (wC t ns :: ws) = some p ∧ Sh p.1.length p.2 := ⟨_, cl_call (A := []) (ns := ns) hn (rd_open rfl), h⟩
end Mc
end Go.Proofs.YtfgfoofojofnmaaDoor.Q
namespace Go.Proofs.YtfgfoofojofnmaaDoor.V
open Go.VM
open Go.Proofs.YtfgfoofojofnmaaDoor.Q Go.Proofs.YtfgfoofojofnmaaDoor.Hand
/-! ### weights -/
theorem wtM_app : ∀ (l m : List S44), wtM (l ++ m) = wtM l + wtM m
  | [], m => by simp [wtM]
  | x :: l, m => by rw [List.cons_append, wtM, wtM, wtM_app l m]; omega
theorem wtM_rev : ∀ l : List S44, wtM l.reverse = wtM l
  | [] => rfl
  | x :: l => by rw [List.reverse_cons, wtM_app, wtM_rev l, wtM, wtM, wtM]; omega
theorem wtM_td (l : List S44) (k : Nat) : wtM (l.take k) + wtM (l.drop k) = wtM l := by rw [← wtM_app, List.take_append_drop]
theorem wt_nd (op : Int) (ks : List S44) (p : Int) : wt (nd op ks p) = 1 + wtM ks := by rw [nd, wt]
theorem rd_wt (lv : Int) : ∀ (ws : List S104) (ns : List S44), wtM (Mc.rdS lv ns ws).1 + (Mc.rdS lv ns ws).2.length ≤ wtM ns + ws.length
  | [], ns => by rw [Mc.rdS.eq_def]; exact Nat.le_refl _
  | w :: ws, ns => by
    rw [Mc.rdS.eq_def]
    dsimp only
    by_cases h : w.f3 = true ∨ levelT w.f0 < lv
    · rw [if_pos h]; exact Nat.le_refl _
    · rw [if_neg h]
      by_cases h2 : w.f0 = 11
      · rw [if_pos h2]
        rcases ns with _ | ⟨a, r⟩
        · simp [wtM]
        · have := rd_wt lv ws (nd 11 [a] w.f1 :: r)
          rw [wtM, wt_nd, wtM, wtM] at this
          rw [wtM, List.length_cons]
          dsimp only at this ⊢; omega
      · rw [if_neg h2]
        rcases ns with _ | ⟨b, _ | ⟨a, r⟩⟩
        · simp [wtM]
        · simp [wtM]
        · have := rd_wt lv ws (nd w.f0 [a, b] w.f1 :: r)
          rw [wtM, wt_nd, wtM, wtM, wtM] at this
          rw [wtM, wtM, List.length_cons]
          dsimp only at this ⊢; omega
theorem cl_wt {ns : List S44} {ws : List S104} {p : List S44 × List S104} (h : Mc.cl ns ws = some p) : wtM p.1 + p.2.length ≤ wtM ns + ws.length := by
  have h1 := rd_wt 1 ws ns
  unfold Mc.cl at h
  split at h
  · cases h
  · rename_i w r e
    rw [e, List.length_cons] at h1
    injection h with h
    subst h
    dsimp only
    by_cases ht : w.f2.toList = []
    · rw [if_pos ht]; omega
    · rw [if_neg ht, wtM, wt, wtM_rev]
      have := wtM_td (Mc.rdS 1 ns ws).1 ((Mc.rdS 1 ns ws).1.length - w.f4.toNat)
      omega
/-! ### the loop -/
def zK : S39 := ⟨0, ⟨#[]⟩, 0, 0, 0⟩
def sScan : Summ := fun args _ => match args with
  | [.d (.a (.string s))] => .ex fun R : List S39 × Int × Int => .chk (scanS s = R) (.pure ⟨.tup [.d (.vs false R.1.length 5 (rowC encK zK R.1)), av (.int .i64 R.2.1), av (.int .i64 R.2.2)], [], []⟩)
  | _ => .fail 1010
/-- n nodes over what waits, or one more is wanted. -/
def ShW (want : Bool) (ns : List S44) (ws : List S104) : Prop := Mc.Sh (match want with | true => ns.length + 1 | false => ns.length) ws
def PaPost (r : S44 × Int × Int) (v : AV) (_ : Heap) : Prop := ∃ kd, DR kd (.vs false r.1.f4.length 6 (encNs r.1.f4)) ∧ v = .tup [.agg [av (.int .i64 r.1.f0), av (.string r.1.f1), av (.int .i64 r.1.f2), av (.int .u64 r.1.f3), .d kd, av (.int .i64 r.1.f5)], av (.int .i64 r.2.1), av (.int .i64 r.2.2)]
def cells0 : List AV := [av (.int .i64 0), av (.string ⟨#[]⟩), av (.int .i64 0), av (.int .u64 0), av (.slice none 0 0), av (.int .i64 0)]
structure PaInv (a : ByteArray) (L : List S39) (R : Mc.Out) (m i : Nat) (want : Bool) (ns : List S44) (l : List S104) (q : Nat) : Prop where
  hi : i ≤ L.length
  hq : q ≤ l.length
  hl : l.length ≤ i
  hw : wtM ns + q ≤ i
  hm : m = L.length - i
  sh : ShW want ns (l.take q).reverse
  eq : Mc.mach a.size (L.drop i) want ns (l.take q).reverse = R
/-! ### the document's machine over a list of tokens, by places -/
theorem dropK {L : List S39} {i : Nat} (h : i < L.length) : L.drop i = L.getD i zK :: L.drop (i + 1) := by
  rw [List.getD_eq_getElem?_getD, List.getElem?_eq_getElem h]
  exact List.drop_eq_getElem_cons h
theorem getK {L : List S39} {i : Nat} (h : ¬ i < L.length) : L.getD i zK = zK := by
  rw [List.getD_eq_getElem?_getD, List.getElem?_eq_none (by omega)]; rfl
theorem nosK {L : List S39} {k : Nat} {s : ByteArray} (h : ¬ ((L.getD k zK).f0 = 5 ∧ (L.getD k zK).f1.toList = s.toList)) : NoS s (L.drop k) := fun b q => by
  by_cases hk : k < L.length
  · rw [dropK hk]
    simp only [signAt]
    rw [if_neg (by simpa using h)]
  · rw [List.drop_eq_nil_of_le (by omega)]; rfl
section
variable {ev : Int} {L : List S39} {i : Nat} {ns : List S44} {ws : List S104}
theorem kName (h : i < L.length) (h1 : (L.getD i zK).f0 = 1) (hu : ¬ ((L.getD (i + 1) zK).f0 = 5 ∧ (L.getD (i + 1) zK).f1.toList = [40])) : Mc.mach ev (L.drop i) true ns ws = Mc.mach ev (L.drop (i + 1)) false (leafN (L.getD i zK) :: ns) ws := by
  rw [dropK h]; exact Mc.m_name h1 (nosK (by rw [l1]; exact hu))
theorem kLeaf (h : i < L.length) (h5 : (L.getD i zK).f0 ≠ 5) (hu : ¬ ((L.getD i zK).f0 = 1 ∧ (L.getD (i + 1) zK).f0 = 5 ∧ (L.getD (i + 1) zK).f1.toList = [40])) : Mc.mach ev (L.drop i) true ns ws = Mc.mach ev (L.drop (i + 1)) false (leafN (L.getD i zK) :: ns) ws := by
  by_cases h1 : (L.getD i zK).f0 = 1
  · exact kName h h1 fun e => hu ⟨h1, e⟩
  · rw [dropK h]; exact Mc.m_leaf h5 h1
theorem kOpen (h : i < L.length) (h5 : (L.getD i zK).f0 = 5) (h2 : (L.getD i zK).f1.toList = [40]) : Mc.mach ev (L.drop i) true ns ws = Mc.mach ev (L.drop (i + 1)) true ns (Mc.wB ns :: ws) := by
  rw [dropK h]; exact Mc.m_open h5 h2
theorem kNot (h : i < L.length) (h5 : (L.getD i zK).f0 = 5) (h2 : (L.getD i zK).f1.toList = [33]) : Mc.mach ev (L.drop i) true ns ws = Mc.mach ev (L.drop (i + 1)) true ns (Mc.wO 11 (L.getD i zK) :: ws) := by
  rw [dropK h]; exact Mc.m_not h5 h2
theorem kWant (h : i < L.length) (h5 : (L.getD i zK).f0 = 5) (h2 : (L.getD i zK).f1.toList ≠ [40]) (h3 : (L.getD i zK).f1.toList ≠ [33]) : Mc.mach ev (L.drop i) true ns ws = Mc.err (L.getD i zK).f4 := by
  rw [dropK h]; exact Mc.m_want h5 h2 h3
theorem isK {c : UInt8} {t : S39} (h5 : t.f0 = 5) (h : t.f1.toList = [c]) : Mc.isS [c] t = true := by rw [Mc.isS, h5, h]; simp
theorem kCall (h : i + 1 < L.length) (h1 : (L.getD i zK).f0 = 1) (h5 : (L.getD (i + 1) zK).f0 = 5) (h2 : (L.getD (i + 1) zK).f1.toList = [40]) (hv : ¬ ((L.getD (i + 2) zK).f0 = 5 ∧ (L.getD (i + 2) zK).f1.toList = [41])) : Mc.mach ev (L.drop i) true ns ws = Mc.mach ev (L.drop (i + 2)) true ns (Mc.wC (L.getD i zK) ns :: ws) := by
  rw [dropK (by omega), dropK h]; exact Mc.m_call h1 (isK h5 h2) (nosK (by rw [l1]; exact hv))
theorem kCall0 (h : i + 2 < L.length) (h1 : (L.getD i zK).f0 = 1) (h5 : (L.getD (i + 1) zK).f0 = 5) (h2 : (L.getD (i + 1) zK).f1.toList = [40]) (h6 : (L.getD (i + 2) zK).f0 = 5) (hv : (L.getD (i + 2) zK).f1.toList = [41]) : Mc.mach ev (L.drop i) true ns ws = match Mc.cl ns (Mc.wC (L.getD i zK) ns :: ws) with
    | some p => Mc.mach ev (L.drop (i + 3)) false p.1 p.2
    | none => Mc.err (L.getD (i + 2) zK).f4 := by
  rw [dropK (by omega), dropK (i := i + 1) (by omega), dropK (i := i + 1 + 1) h]; exact Mc.m_call0 h1 (isK h5 h2) (isK h6 hv)
theorem kNosign (h : i < L.length) (h5 : (L.getD i zK).f0 ≠ 5) : Mc.mach ev (L.drop i) false ns ws = Mc.err (L.getD i zK).f4 := by
  rw [dropK h]; exact Mc.m_nosign h5
theorem kUp0 {a : S44} (h : i < L.length) (h5 : (L.getD i zK).f0 = 5) (h2 : (L.getD i zK).f1.toList = [94]) (hn : (L.getD (i + 1) zK).f0 ≠ 2) : Mc.mach ev (L.drop i) false (a :: ns) ws = Mc.mach ev (L.drop (i + 1)) false (nd 12 [a] (L.getD i zK).f4 :: ns) ws := by
  rw [dropK h]
  refine Mc.m_up0 h5 h2 fun t r e => ?_
  by_cases hk : i + 1 < L.length
  · rw [dropK hk] at e; injection e with e _; rw [← e]; exact hn
  · rw [List.drop_eq_nil_of_le (by omega)] at e; cases e
theorem kUpz {a : S44} (h : i + 1 < L.length) (h5 : (L.getD i zK).f0 = 5) (h2 : (L.getD i zK).f1.toList = [94]) (hn : (L.getD (i + 1) zK).f0 = 2) (hz : (L.getD (i + 1) zK).f2 = 0) : Mc.mach ev (L.drop i) false (a :: ns) ws = Mc.err (L.getD (i + 1) zK).f4 := by
  rw [dropK (by omega), dropK h]; exact Mc.m_upz h5 h2 hn hz
theorem kUpn {a : S44} (h : i + 1 < L.length) (h5 : (L.getD i zK).f0 = 5) (h2 : (L.getD i zK).f1.toList = [94]) (hn : (L.getD (i + 1) zK).f0 = 2) (hz : (L.getD (i + 1) zK).f2 ≠ 0) : Mc.mach ev (L.drop i) false (a :: ns) ws = Mc.mach ev (L.drop (i + 2)) false (⟨12, ⟨#[]⟩, (L.getD (i + 1) zK).f2, 0, [a], (L.getD i zK).f4⟩ :: ns) ws := by
  rw [dropK (by omega), dropK h]; exact Mc.m_upn h5 h2 hn hz
theorem kOp (h : i < L.length) (h5 : (L.getD i zK).f0 = 5) (h0 : Mc.opT (L.getD i zK).f1.toList ≠ 0) (hr : levelT (Mc.opT (L.getD i zK).f1.toList) ≠ 3 ∨ Mc.rng ws = false) : Mc.mach ev (L.drop i) false ns ws = Mc.mach ev (L.drop (i + 1)) true (Mc.rdS (levelT (Mc.opT (L.getD i zK).f1.toList)) ns ws).1 (Mc.wO (Mc.opT (L.getD i zK).f1.toList) (L.getD i zK) :: (Mc.rdS (levelT (Mc.opT (L.getD i zK).f1.toList)) ns ws).2) := by
  rw [dropK h]; exact Mc.m_op h5 rfl h0 hr
theorem kClose (h : i < L.length) (h5 : (L.getD i zK).f0 = 5) (h2 : (L.getD i zK).f1.toList = [41]) : Mc.mach ev (L.drop i) false ns ws = match Mc.cl ns ws with
    | some p => Mc.mach ev (L.drop (i + 1)) false p.1 p.2
    | none => Mc.err (L.getD i zK).f4 := by
  rw [dropK h]; exact Mc.m_close h5 h2
theorem kComma (h : i < L.length) (h5 : (L.getD i zK).f0 = 5) (h2 : (L.getD i zK).f1.toList = [44]) (hc : Mc.inC ws = true) : Mc.mach ev (L.drop i) false ns ws = Mc.mach ev (L.drop (i + 1)) true (Mc.rdS 1 ns ws).1 (Mc.rdS 1 ns ws).2 := by
  rw [dropK h]; exact Mc.m_comma h5 h2 hc
theorem kBad (h : i < L.length) (h5 : (L.getD i zK).f0 = 5) (h94 : (L.getD i zK).f1.toList ≠ [94]) (ho : ¬ (Mc.opT (L.getD i zK).f1.toList ≠ 0 ∧ (levelT (Mc.opT (L.getD i zK).f1.toList) ≠ 3 ∨ Mc.rng ws = false))) (h41 : (L.getD i zK).f1.toList ≠ [41]) (hc : ¬ ((L.getD i zK).f1.toList = [44] ∧ Mc.inC ws = true)) : Mc.mach ev (L.drop i) false ns ws = Mc.err (L.getD i zK).f4 := by
  rw [dropK h, Mc.mach.eq_def]
  dsimp only
  rw [if_neg (by decide), if_neg (fun e => e h5), if_neg h94, if_neg ho, if_neg h41, if_neg hc]
end
/-! ### what is pushed -/
theorem pa_err {M : Mc.Out} {p c : Int} {h : Heap} (e : M = (z44, p, c)) : PaPost M (.tup [.agg cells0, av (.int .i64 p), av (.int .i64 c)]) h := by
  subst e
  exact ⟨_, DR.nil, rfl⟩
theorem take_push {l : List S104} {q : Nat} {x : S104} (hq : q ≤ l.length) : ((l.take q ++ [x]).take (q + 1)).reverse = x :: (l.take q).reverse := by
  rw [List.take_of_length_le (by rw [List.length_append, List.length_take]; simp; omega), List.reverse_append]; rfl
theorem five {p : Nat → Prop} (h0 : p 0) (h1 : p 1) (h2 : p 2) (h3 : p 3) (h4 : p 4) : ∀ j, j < 5 → p j := fun j hj => by
  rcases j with _ | _ | _ | _ | _ | j
  · exact h0
  · exact h1
  · exact h2
  · exact h3
  · exact h4
  · omega
theorem dr_pushW {l : List S104} {q : Nat} {x : S104} {ds : List D} (hq : q ≤ l.length) (hd : ∀ j, j < 5 → DR (ds.getD j default) (encW x j)) {i j : Nat} (hi : i < q + 1) (hj : j < 5) : DR (appC q (rowC encW zW l) (litC 5 ds) i j) (rowC encW zW (l.take q ++ [x]) i j) := by
  have hl : (l.take q).length = q := by rw [List.length_take]; omega
  unfold appC
  by_cases h : i < q
  · rw [if_pos h]
    refine DR.of ?_
    show encW (l.getD i zW) j = encW ((l.take q ++ [x]).getD i zW) j
    rw [List.getD_eq_getElem?_getD, List.getD_eq_getElem?_getD, List.getElem?_append_left (by omega), List.getElem?_take, if_pos h]
  · rw [if_neg h]
    have e : i = q := by omega
    subst e
    have e1 : rowC encW zW (l.take i ++ [x]) i j = encW x j := by
      show encW ((l.take i ++ [x]).getD i zW) j = encW x j
      rw [List.getD_eq_getElem?_getD, List.getElem?_append_right (by omega), hl, Nat.sub_self]; rfl
    rw [e1, Nat.sub_self]
    have e2 : litC 5 ds 0 j = ds.getD j default := by show ds.getD (0 * 5 + j) default = _; rw [Nat.zero_mul, Nat.zero_add]
    rw [e2]
    exact hd j hj
theorem cl_take {l : List S104} {m : Nat} {ns : List S44} {p : List S44 × List S104} (hm : m ≤ l.length) (hnp : NP ns.length (l.take m).reverse) (h : Mc.cl ns (l.take m).reverse = some p) : ∃ k, k < m ∧ p.2 = (l.take k).reverse := by
  obtain ⟨k, hk, e, _⟩ := rd_take 1 l m ns hm hnp
  unfold Mc.cl at h
  rw [e] at h
  rcases Nat.eq_zero_or_pos k with h0 | h0
  · subst h0; cases h
  · rw [take_rev h0 (by omega)] at h
    injection h with h
    exact ⟨k - 1, by omega, by rw [← h]⟩
theorem cloR_some {ns : List S44} {ws : List S104} {p : List S44 × List S104} (h : Mc.cl ns ws = some p) : cloR ns ws = (p, true) := by unfold cloR; rw [h]
theorem sh_push {w : S104} {ns : List S44} {ws : List S104} (h3 : w.f3 = true) (h4 : w.f4 = (ns.length : Int)) (h : Mc.Sh (ns.length + 1) ws) : Mc.Sh (ns.length + 1) (w :: ws) := by
  have e : w.f4.toNat = ns.length := by rw [h4]; rfl
  rw [Mc.sh_open h3, e]
  exact ⟨by omega, Nat.le_refl _, fun _ => rfl, h⟩
theorem getApp {l : List S104} {q : Nat} {x : S104} (hq : q ≤ l.length) : (l.take q ++ [x]).length = q + 1 := by rw [List.length_append, List.length_take]; simp; omega
theorem nameOk_ne {t : S39} (h : TokOk t) (h1 : t.f0 = 1) : t.f1.toList ≠ [] := by
  have hd : t.f1.toList = t.f1.data.toList := by rw [ByteArray.toList_eq]
  rcases h with h | h | h | h | h
  · obtain ⟨c, r, e, _⟩ := h.2.1
    rw [hd, e]; exact fun e => by cases e
  all_goals exact absurd (h1.symm.trans h.1) (by decide)
theorem tok_mem {L : List S39} (hT : ∀ t ∈ L, TokOk t) {i : Nat} (h : i < L.length) : TokOk (L.getD i zK) := by
  rw [List.getD_eq_getElem?_getD, List.getElem?_eq_getElem h]
  exact hT _ (List.getElem_mem h)
theorem dr_leaf (t : S39) (j : Nat) (hj : j < 6) : DR ([D.a (.int .i64 (leafN t).f0), .a (.string t.f1), .a (.int .i64 t.f2), .a (.int .u64 t.f3), .a (.slice none 0 0), .a (.int .i64 t.f4)].getD j default) (encN (leafN t) j) :=
  six (p := fun j => DR ([D.a (.int .i64 (leafN t).f0), .a (.string t.f1), .a (.int .i64 t.f2), .a (.int .u64 t.f3), .a (.slice none 0 0), .a (.int .i64 t.f4)].getD j default) (encN (leafN t) j)) (DR.refl _) (DR.refl _) (DR.refl _) (DR.refl _) (show DR (.a (.slice none 0 0)) (.vs false 0 6 (encNs [])) from DR.nil) (DR.refl _) j hj
theorem wN {i : Nat} (h : i ≤ 1000000000) : IntKind.i64.wrap ((i : Int) + 1) = ((i + 1 : Nat) : Int) := by rw [wrap_i64 (by omega) (by omega)]; rfl
theorem opT_ne {l : List UInt8} : Mc.opT l ≠ 11 := by
  unfold Mc.opT
  repeat' split
  all_goals decide
theorem sh_op {t : S39} {op : Int} {n : Nat} {ws : List S104} (hop : op ≠ 11) (h : Mc.Sh n ws) : Mc.Sh (n + 1) (Mc.wO op t :: ws) := by
  rw [Mc.sh_two rfl hop]
  have := Mc.sh_pos _ _ h
  exact ⟨by omega, h⟩
/-- One object under another name. -/
def sub (a k : Nat) : Nat → Nat := fun r => match Nat.beq r a with
  | true => k
  | false => r
theorem sub_inj {h' : Heap} {a k : Nat} (hk : VM.get h' k = none) : ∀ q q', (VM.get h' q).isSome = true → (VM.get h' q').isSome = true → sub a k q = sub a k q' → q = q' := fun q q' h h' e => by
  unfold sub at e
  cases e1 : Nat.beq q a <;> cases e2 : Nat.beq q' a <;> rw [e1, e2] at e <;> dsimp only at e
  · exact e
  · subst e; rw [hk] at h; cases h
  · subst e; rw [hk] at h'; cases h'
  · rw [Nat.eq_of_beq_eq_true e1, Nat.eq_of_beq_eq_true e2]
end Go.Proofs.YtfgfoofojofnmaaDoor.V
