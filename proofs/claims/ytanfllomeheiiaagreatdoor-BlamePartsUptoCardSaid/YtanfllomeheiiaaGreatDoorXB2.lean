/- follows; the law's callees, called. -/
import Derived.Test.YtanfllomeheiiaaGreatDoorXB1
import Derived.Test.YtanfllomeheiiaaGreatDoorXL
set_option linter.unusedVariables false
set_option linter.unusedSimpArgs false
namespace Go.XM
theorem get_one {β : Type} {r q : Nat} {o o' : β} (h : get [(r, o)] q = some o') : q = r ∧ o' = o := by
  rw [get_cons] at h
  by_cases e : r = q
  · rw [if_pos e] at h; injection h with h; exact ⟨e.symm, h.symm⟩
  · rw [if_neg e] at h; cases h
theorem some_one {β : Type} {r q : Nat} {o : β} (h : (get [(r, o)] q).isSome = true) : q = r := by
  obtain ⟨o', e⟩ := Option.isSome_iff_exists.1 h
  exact (get_one e).1
/-- Nothing is handed in; one object (1001) comes out. -/
theorem Lift.new {r : Nat} {hp hp1 : Heap} {o o1 : AO} {v ret : AV} (h1 : get hp1 1001 = some o1) (hR : ORel (fun _ => 1001) [(r, o)] o1 o) (hv : VRel (fun _ => 1001) [(r, o)] v ret) : Lift id (fun _ => 1001) hp [] hp1 [] [(r, o)] v ret where
  ret := hv
  heap := ⟨⟨o1, h1, hR⟩, trivial⟩
  back q hq := by cases hq
  ups q o' e := by cases e
  inj q q' h h' _ := (some_one h).trans (some_one h').symm
end Go.XM
namespace Go.Proofs.YtanfllomeheiiaaGreatDoor.X
open Go.XM
def aL (x : Ln) : AV := .agg [av (.int .u64 x.c), av (.string x.p), av (.int .i64 x.n)]
open Classical in
noncomputable def fl (x y : Ln) : Bool := decide (x.c = y.c ∧ x.p = y.p ∧ x.n < 9223372036854775807 ∧ y.n = IntKind.i64.wrap (x.n + 1))
theorem fl_t {x y : Ln} (h : x.c = y.c ∧ x.p = y.p ∧ x.n < 9223372036854775807 ∧ y.n = IntKind.i64.wrap (x.n + 1)) : true = fl x y := (decide_eq_true h).symm
theorem fl_f {x y : Ln} (h : ¬ (x.c = y.c ∧ x.p = y.p ∧ x.n < 9223372036854775807 ∧ y.n = IntKind.i64.wrap (x.n + 1))) : false = fl x y := (decide_eq_false h).symm
set_option maxRecDepth 100000 in
set_option maxHeartbeats 4000000 in
theorem follows_v (x y : Ln) : VSpec Tryz.prog 6 [aL x, aL y] (av (.bool (fl x y))) := by
  refine LSpec.intro (E := ⟨Tr.fn 10 ttx, fun _ => none, [], Tryz.f6.ntmps, false⟩) ttx_ok (fun _ _ h => by cases h) mixed Tryz.func6 rfl rfl ?_
  unfold aL
  (repeat' (first | refine Chk.mk ?_ ?_ | (refine Br.id ?_; first | refine Br.kt (by with_reducible first | rfl | assumption) ?_ | refine Br.kf (by with_reducible first | rfl | assumption) ?_ | refine Br.kf (show (!true) = false from rfl) ?_ | refine Br.kt (show (!false) = true from rfl) ?_ | refine Br.mk (fun h => ?_) (fun h => ?_)) | (refine (show (noInt _ _ _ && edgesOk _ _) = true from ?_); kernel_rfl)))
  all_goals (try simp only [eqU_iff, eqU_not] at *)
  all_goals (try simp only [decide_eq_true_eq, decide_eq_false_iff_not, beq_iff_eq, beq_eq_false_iff_ne, bne_iff_ne, ne_eq, Nat.zero_add, Nat.add_zero, Int.not_lt, Int.not_le, Bool.not_eq_true', Bool.not_eq_false', ge_iff_le, gt_iff_lt] at *)
  · refine eqB ?_
    by_cases hq : y.n = IntKind.i64.wrap (x.n + 1)
    · rw [← fl_t ⟨‹_›, ‹_›, ‹_›, hq⟩]; simpa using hq
    · rw [← fl_f (fun q => hq q.2.2.2)]; simpa using hq
  · exact eqB (fl_f fun q => by have := q.2.2.1; omega)
  · exact eqB (fl_f fun q => absurd q.2.1 ‹_›)
  · exact eqB (fl_f fun q => absurd q.1 ‹_›)
def sAwake : Summ := fun args _ => match args with
  | [] => .pure (.mk (av (.bool true)) [] [])
  | _ => .fail 4101
theorem sAwake_ok (is : FnIs Tryz.prog 4) (h : VSpec Tryz.prog 4 [] (av (.bool true))) : SummOk Tryz.prog 4 sAwake := SummOk.pure is fun args fr sl hp Φ hk => by
  unfold sAwake at hk
  split at hk
  · exact ⟨_, hk, rfl, rfl, h⟩
  · exact hk.elim
noncomputable def sFollows : Summ := fun args _ => match args with
  | [.agg [.d (.a (.int .u64 c)), .d (.a (.string p)), .d (.a (.int .i64 n))], .agg [.d (.a (.int .u64 c')), .d (.a (.string p')), .d (.a (.int .i64 n'))]] => .pure (.mk (av (.bool (fl ⟨c, p, n⟩ ⟨c', p', n'⟩))) [] [])
  | _ => .fail 4102
theorem sFollows_ok : SummOk Tryz.prog 6 sFollows := SummOk.pure ⟨_, Tryz.func6, by kernel_rfl, by kernel_rfl⟩ fun args fr sl hp Φ hk => by
  unfold sFollows at hk
  split at hk
  · rename_i c p n c' p' n'
    exact ⟨_, hk, rfl, rfl, follows_v ⟨c, p, n⟩ ⟨c', p', n'⟩⟩
  · exact hk.elim
noncomputable def sParts : Summ := fun args fr => match args with
  | [.d (.vs _ n 3 c)] => .ex fun l : List Ln => .chkT (n = l.length ∧ (∀ i j, i < n → j < 3 → DR (c i j) (rowC encL zL l i j)) ∧ l.length ≤ 1000000000) false (fun h => by cases h) (.pure (.mk (.rs fr 0 (pts l l.length).length) [] [(fr, .row (pts l l.length).length 5 (rowC encP zP (pts l l.length)))]))
  | _ => .fail 4103
theorem sParts_ok : SummOk Tryz.prog 5 sParts := SummOk.lift ⟨_, Tryz.func5, by kernel_rfl, by kernel_rfl⟩ fun args fr sl hp Φ hk => by
  unfold sParts at hk
  split at hk
  · rename_i x n c
    simp only [RM.wp] at hk
    obtain ⟨l, ⟨hn, hc, hl⟩, hΦ⟩ := hk
    refine ⟨id, fun _ => 1001, [dL l], [], PartsPost l, parts_v l hl, ?_, trivial, (fun q q' h => by cases h), fun v hp1 hP => ⟨_, _, _, hΦ, ?_⟩⟩
    · exact VR.cons (VR.dr (DR.vs (fun e => (by cases e)) hn hc)) VR.nil
    · obtain ⟨hv, hg⟩ := hP
      subst hv
      exact Lift.new hg (ORel.row rfl fun _ _ _ _ => .refl _) (VR.rs rfl (by rw [get_cons, if_pos rfl]; rfl) rfl rfl)
  · exact hk.elim
end Go.Proofs.YtanfllomeheiiaaGreatDoor.X
