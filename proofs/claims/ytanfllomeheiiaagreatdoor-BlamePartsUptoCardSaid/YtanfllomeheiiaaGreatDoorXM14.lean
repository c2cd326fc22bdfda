/- What a state may be taken for: forgetting, other names, the same contents. -/
import Derived.Test.YtanfllomeheiiaaGreatDoorXM13
set_option linter.unusedVariables false
set_option linter.unusedSimpArgs false
namespace Go.XM
open RM Go.RowKit
/-- A value for another, values for others: objects under other names (the second's name q is the first's ρ q). -/
inductive VR (ρ : Nat → Nat) (h' : Heap) : AV ⊕ List AV → AV ⊕ List AV → Prop
  | eq {x y : AV} (hx : x = y) (hp : y.pure = true) : VR ρ h' (.inl x) (.inl y)
  | dr {d d' : D} (h : DR d d') : VR ρ h' (.inl (.d d)) (.inl (.d d'))
  | rs {r q off off' len len' : Nat} (hr : r = ρ q) (hq : (get h' q).isSome = true) (ho : off = off') (hl : len = len') : VR ρ h' (.inl (.rs r off len)) (.inl (.rs q off' len'))
  | pc {r q j : Nat} (hr : r = ρ q) (hq : (get h' q).isSome = true) : VR ρ h' (.inl (.pc r j)) (.inl (.pc q j))
  | pr {r q i j : Nat} (hr : r = ρ q) (hq : (get h' q).isSome = true) : VR ρ h' (.inl (.pr r i j)) (.inl (.pr q i j))
  | mp {r q : Nat} (hr : r = ρ q) (hq : (get h' q).isSome = true) : VR ρ h' (.inl (.mp r)) (.inl (.mp q))
  | agg {xs ys : List AV} (h : VR ρ h' (.inr xs) (.inr ys)) : VR ρ h' (.inl (.agg xs)) (.inl (.agg ys))
  | tup {xs ys : List AV} (h : VR ρ h' (.inr xs) (.inr ys)) : VR ρ h' (.inl (.tup xs)) (.inl (.tup ys))
  | nil : VR ρ h' (.inr []) (.inr [])
  | cons {x y : AV} {xs ys : List AV} (h : VR ρ h' (.inl x) (.inl y)) (hs : VR ρ h' (.inr xs) (.inr ys)) : VR ρ h' (.inr (x :: xs)) (.inr (y :: ys))
  | nilrs {q : Nat} (hq : (get h' q).isSome = true) : VR ρ h' (.inl (av (.slice none 0 0))) (.inl (.rs q 0 0))
  | nilv {x : Bool} {k : Nat} {c : Nat → Nat → D} : VR ρ h' (.inl (av (.slice none 0 0))) (.inl (.d (.vs x 0 k c)))
abbrev VRel (ρ : Nat → Nat) (h' : Heap) (x y : AV) : Prop := VR ρ h' (.inl x) (.inl y)
abbrev VRels (ρ : Nat → Nat) (h' : Heap) (x y : List AV) : Prop := VR ρ h' (.inr x) (.inr y)
inductive ORel (ρ : Nat → Nat) (h' : Heap) : AO → AO → Prop
  | dead {o : AO} : ORel ρ h' o .dead
  | cells {xs ys : List AV} (h : VRels ρ h' xs ys) : ORel ρ h' (.cells xs) (.cells ys)
  | row {n n' k : Nat} {c c' : Nat → Nat → D} (hn : n = n') (hc : ∀ i j, i < n → j < k → DR (c i j) (c' i j)) : ORel ρ h' (.row n k c) (.row n' k c')
/-- A list of slots, each with what it may be taken for. -/
def SW (ρ : Nat → Nat) (s : Slots) (h' : Heap) : Slots → Prop
  | [] => True
  | (n, v') :: l => (∃ v, XM.get s n = some v ∧ VRel ρ h' v v') ∧ SW ρ s h' l
def HW (ρ : Nat → Nat) (h h' : Heap) : Heap → Prop
  | [] => True
  | (r, o') :: l => (∃ o, XM.get h (ρ r) = some o ∧ ORel ρ h' o o') ∧ HW ρ h h' l
theorem SW.get {ρ : Nat → Nat} {s : Slots} {h' : Heap} : ∀ {l : Slots} {n : Nat} {v' : AV}, SW ρ s h' l → XM.get l n = some v' → ∃ v, XM.get s n = some v ∧ VRel ρ h' v v'
  | [], _, _, _, e => by cases e
  | (m, x) :: l, n, v', H, e => by
    rw [get_cons] at e
    by_cases hm : m = n
    · rw [if_pos hm] at e; injection e with e; subst e; subst hm; exact H.1
    · rw [if_neg hm] at e; exact SW.get H.2 e
theorem HW.get {ρ : Nat → Nat} {h h' : Heap} : ∀ {l : Heap} {n : Nat} {v' : AO}, HW ρ h h' l → XM.get l n = some v' → ∃ v, XM.get h (ρ n) = some v ∧ ORel ρ h' v v'
  | [], _, _, _, e => by cases e
  | (m, x) :: l, n, v', H, e => by
    rw [get_cons] at e
    by_cases hm : m = n
    · rw [if_pos hm] at e; injection e with e; subst e; subst hm; exact H.1
    · rw [if_neg hm] at e; exact HW.get H.2 e
section
variable {μ : Mu} {w : World} {I : Nat → Prop} {ρ : Nat → Nat} {h h' : Heap}
def VR.says (μ μ' : Mu) (w : World) (I : Nat → Prop) (h h' : Heap) : AV ⊕ List AV → AV ⊕ List AV → Prop
  | .inl v, .inl v' => ∀ u, v.rep μ w I h u → v'.rep μ' w I h' u
  | .inr v, .inr v' => ∀ us, AV.reps μ w I h v us → AV.reps μ' w I h' v' us
  | _, _ => True
theorem VR.reps (H : ∀ q o', get h' q = some o' → ∃ o, get h (ρ q) = some o ∧ ORel ρ h' o o') {a b : AV ⊕ List AV} (hv : VR ρ h' a b) : VR.says μ (fun q => μ (ρ q)) w I h h' a b := by
  induction hv with
  | eq hx hp => intro u hr; subst hx; exact rep_pure _ _ hp hr
  | dr hd =>
    intro u hr
    rw [AV.rep] at hr ⊢
    exact hd.rep hr
  | rs hr hq ho hl =>
    intro u hrp
    subst hr; subst ho; subst hl
    rw [AV.rep] at hrp ⊢
    obtain ⟨A, cap, e, h1, o, he, h2⟩ := hrp
    obtain ⟨o', he'⟩ := Option.isSome_iff_exists.1 hq
    refine ⟨A, cap, e, h1, o', he', fun n k c eo => ?_⟩
    obtain ⟨o2, ho2, hR⟩ := H _ _ he'
    rw [he] at ho2; injection ho2 with ho2; subst ho2
    subst eo
    cases hR with
    | row hn hc => subst hn; exact h2 _ _ _ rfl
  | pc hr hq =>
    intro u hrp
    subst hr
    rw [AV.rep] at hrp ⊢
    obtain ⟨a, e, o, he, h2⟩ := hrp
    obtain ⟨o', he'⟩ := Option.isSome_iff_exists.1 hq
    refine ⟨a, e, o', he', fun cs eo => ?_⟩
    obtain ⟨o2, ho2, hR⟩ := H _ _ he'
    rw [he] at ho2; injection ho2 with ho2; subst ho2
    subst eo
    cases hR with
    | cells hs => exact h2 _ rfl
  | pr hr hq =>
    intro u hrp
    subst hr
    rw [AV.rep] at hrp ⊢
    obtain ⟨a, e, o, he, h2⟩ := hrp
    obtain ⟨o', he'⟩ := Option.isSome_iff_exists.1 hq
    refine ⟨a, e, o', he', fun n k c eo => ?_⟩
    obtain ⟨o2, ho2, hR⟩ := H _ _ he'
    rw [he] at ho2; injection ho2 with ho2; subst ho2
    subst eo
    cases hR with
    | row hn hc => subst hn; exact h2 _ _ _ rfl
  | mp hr hq =>
    intro u hrp
    subst hr
    rw [AV.rep] at hrp ⊢
    obtain ⟨a, e, o, he, h2⟩ := hrp
    obtain ⟨o', he'⟩ := Option.isSome_iff_exists.1 hq
    refine ⟨a, e, o', he', fun es c eo => ?_⟩
    obtain ⟨o2, ho2, hR⟩ := H _ _ he'
    subst eo
    cases hR
  | agg _ ih =>
    intro u hr
    rw [AV.rep] at hr ⊢
    obtain ⟨a, e, hr⟩ := hr
    exact ⟨a, e, ih _ hr⟩
  | tup _ ih =>
    intro u hr
    rw [AV.rep] at hr ⊢
    obtain ⟨a, e, hr⟩ := hr
    exact ⟨a, e, ih _ hr⟩
  | nil => intro us hr; cases us with
    | nil => trivial
    | cons => exact hr.elim
  | cons _ _ ih1 ih2 => intro us hr; cases us with
    | nil => exact hr.elim
    | cons u us => exact ⟨ih1 _ hr.1, ih2 _ hr.2⟩
  | @nilrs q hq =>
    intro u hr
    have := rep_a hr
    subst this
    rw [AV.rep]
    obtain ⟨o', he'⟩ := Option.isSome_iff_exists.1 hq
    refine ⟨none, 0, rfl, Nat.le_refl _, o', he', fun n k c _ => ⟨Nat.zero_le _, ?_⟩⟩
    cases hm : μ (ρ q) with
    | none => exact .inl ⟨rfl, rfl⟩
    | some m => exact .inr ⟨m.1, m.2, rfl, fun h => absurd h (Nat.lt_irrefl _), by rw [Nat.add_zero, Nat.zero_mul]; exact Nat.zero_le _⟩
  | nilv =>
    intro u hr
    have := rep_a hr
    subst this
    rw [AV.rep, D.rep]
    exact ⟨none, 0, rfl, Nat.le_refl _, fun _ => rfl, fun h => absurd h (by decide)⟩
theorem VRel.rep (H : ∀ q o', get h' q = some o' → ∃ o, get h (ρ q) = some o ∧ ORel ρ h' o o') {v v' : AV} {u : Value} (hv : VRel ρ h' v v') (hr : v.rep μ w I h u) : v'.rep (fun q => μ (ρ q)) w I h' u := VR.reps H hv u hr
theorem VRels.reps (H : ∀ q o', get h' q = some o' → ∃ o, get h (ρ q) = some o ∧ ORel ρ h' o o') {xs ys : List AV} (hs : VRels ρ h' xs ys) {us : List Value} (hr : AV.reps μ w I h xs us) : AV.reps (fun q => μ (ρ q)) w I h' ys us := VR.reps H hs us hr
end
/-- A state for another; L: the names of what was handed in. -/
theorem Weak.of {N : Nat} {L : List Nat} {s s' : Slots} {h h' : Heap} (ρ : Nat → Nat) (hs : SW ρ s h' s') (hh : HW ρ h h' h') (hinj : ∀ q q', (get h' q).isSome = true → (get h' q').isSome = true → ρ q = ρ q' → q = q')
    (hL : ∀ r ∈ L, ρ r = r ∧ (get h' r).isSome = true) : Weak N L s h s' h' := by
  intro G hf hG μ I a w S
  have H : ∀ q o', get h' q = some o' → ∃ o, get h (ρ q) = some o ∧ ORel ρ h' o o' := fun q o' e => hh.get e
  have lv : ∀ {q}, live h' q → live h (ρ q) := fun {q} ⟨o', e, hd⟩ => by
    obtain ⟨o, e2, hR⟩ := H q o' e
    refine ⟨o, e2, fun e3 => ?_⟩
    subst e3
    cases hR <;> exact hd rfl
  refine ⟨fun q => μ (ρ q), I, ⟨fun n v' e => ?_, ⟨fun q o' e => ?_, fun q q' b z z' h1 h2 e1 e2 => ?_, fun q b z h1 e1 => S.heap.own (ρ q) b z (lv h1) e1, S.heap.imm, S.heap.base, fun r m e => ?_, S.heap.keep⟩, S.size, S.defers, fun x hx => by rw [hf] at hx; cases hx⟩⟩
  · obtain ⟨v, e2, hR⟩ := hs.get e
    obtain ⟨u, hu, hr⟩ := S.slots n v e2
    exact ⟨u, hu, hR.rep H hr⟩
  · obtain ⟨o, e2, hR⟩ := H q o' e
    have hr := S.heap.objs _ _ e2
    cases hR with
    | dead => trivial
    | cells hs =>
      obtain ⟨b, z, vs, t, fz, h1, h2, h3, h4⟩ := hr
      exact ⟨b, z, vs, t, fz, h1, h2, h3, hs.reps H h4⟩
    | row hn hc =>
      subst hn
      rcases hr with ⟨h1, h2⟩ | ⟨b, z, vs, t, fz, h1, h2, h3, h4, h5, h6⟩
      · exact .inl ⟨h1, h2⟩
      · exact .inr ⟨b, z, vs, t, fz, h1, h2, h3, h4, h5, fun i j hi hj => (h6 i j hi hj).imp fun u q => ⟨q.1, q.2.1, (hc i j hi hj).rep q.2.2⟩⟩
  · have e := S.heap.inj (ρ q) (ρ q') b z z' (lv h1) (lv h2) e1 e2
    obtain ⟨o1, f1, _⟩ := h1
    obtain ⟨o2, f2, _⟩ := h2
    exact hinj q q' (by rw [f1]; rfl) (by rw [f2]; rfl) e
  · obtain ⟨hr, hq⟩ := hL r (hG r m e)
    obtain ⟨o', ho'⟩ := Option.isSome_iff_exists.1 hq
    obtain ⟨o, ho, hk⟩ := S.heap.pin r m e
    obtain ⟨o2, ho2, hR⟩ := H r o' ho'
    rw [hr, ho] at ho2; injection ho2 with ho2; subst ho2
    refine ⟨o', ho', ?_⟩
    rcases hk with hk | hk
    · left; subst hk; cases hR; rfl
    · right; rw [hr]; exact hk
/-- Slots alone are forgotten, or told otherwise. -/
theorem Weak.slots {N : Nat} {L : List Nat} {s s' : Slots} {h : Heap} (hs : ∀ n v', get s' n = some v' → get s n = some v') : Weak N L s h s' h := by
  intro G hf hG μ I a w S
  exact ⟨μ, I, ⟨fun n v' e => S.slots n v' (hs n v' e), S.heap, S.size, S.defers, S.frames⟩⟩
theorem Weak.trans {N : Nat} {L : List Nat} {s s1 s2 : Slots} {h h1 h2 : Heap} (H1 : Weak N L s h s1 h1) (H2 : Weak N L s1 h1 s2 h2) : Weak N L s h s2 h2 := by
  intro G hf hG μ I a w S
  obtain ⟨μ1, I1, S1⟩ := H1 G hf hG μ I a w S
  exact H2 G hf hG μ1 I1 a w S1
/-- A slot with a nil slice is one with a row of no elements. -/
theorem Weak.nilRow {N : Nat} {L : List Nat} {s : Slots} {h : Heap} {r k n : Nat} (c : Nat → Nat → D) (hr : get h r = none) (hn : get s n = some (av (.slice none 0 0))) : Weak N L s h ((n, .rs r 0 0) :: s) ((r, .row 0 k c) :: h) := by
  intro G hf hG μ I a w S
  obtain ⟨H, X⟩ := S.heap.newV (k := k) hr c
  refine ⟨_, _, ⟨fun m v e => ?_, H, S.size, S.defers, fun x hx => by rw [hf] at hx; cases hx⟩⟩
  rw [get_cons] at e
  by_cases hm : n = m
  · rw [if_pos hm] at e; injection e with e; subst e; subst hm
    obtain ⟨u, hu, hv⟩ := S.slots n _ hn
    refine ⟨u, hu, ?_⟩
    have := rep_a hv
    subst this
    rw [AV.rep]
    refine ⟨none, 0, rfl, Nat.le_refl _, _, by rw [get_cons, if_pos rfl], fun n1 k1 c1 eq => ?_⟩
    injection eq with q1 q2 q3
    exact ⟨by omega, .inl ⟨upd_same _ _ _, rfl⟩⟩
  · rw [if_neg hm] at e
    obtain ⟨u, hu, hv⟩ := S.slots m v e
    exact ⟨u, hu, X.rep hv⟩
/-- A row of no elements, out of nothing. -/
theorem Weak.row {N : Nat} {L : List Nat} {s : Slots} {h : Heap} {r k : Nat} (c : Nat → Nat → D) (hr : get h r = none) : Weak N L s h s ((r, .row 0 k c) :: h) := by
  intro G hf hG μ I a w S
  obtain ⟨H, X⟩ := S.heap.newV (k := k) hr c
  exact ⟨_, _, ⟨S.slots.ext X, H, S.size, S.defers, fun x hx => (S.frames x hx).ext X⟩⟩
end Go.XM
