/- Regions that draw their order: any order comes to what the text's order comes to. -/
import Derived.Test.YtanfllomeheiiaaGreatDoorXM12
set_option linter.unusedVariables false
set_option linter.unusedSimpArgs false
namespace Go.XM
open RM Go.RowKit
theorem Loc.eq_iff {a b : Loc} : a.eq b = true ↔ a = b := by
  cases a <;> cases b <;> simp [Loc.eq]
/-- What is looked up. -/
def look (s : Slots) (h : Heap) : Loc → Option (AV ⊕ AO)
  | .s n => (get s n).map .inl
  | .o r => (get h r).map .inr
/-- A reading, step by step. -/
inductive Runs {α : Type} (s : Slots) (h : Heap) : RM α → List Loc → α → Prop
  | pure {a : α} : Runs s h (.pure a) [] a
  | slot {n : Nat} {k : AV → RM α} {v : AV} {R : List Loc} {a : α} (e : get s n = some v) (r : Runs s h (k v) R a) : Runs s h (.slot n k) (.s n :: R) a
  | obj {n : Nat} {k : AO → RM α} {v : AO} {R : List Loc} {a : α} (e : get h n = some v) (r : Runs s h (k v) R a) : Runs s h (.obj n k) (.o n :: R) a
  | new {n : Nat} {k : RM α} {R : List Loc} {a : α} (e : get h n = none) (r : Runs s h k R a) : Runs s h (.new n k) (.o n :: R) a
  | chkT {p : Prop} {b : Bool} {hb : b = true → p} {k : RM α} {R : List Loc} {a : α} (e : p) (r : Runs s h k R a) : Runs s h (.chkT p b hb k) R a
  | brt {b : Bool} {t f : RM α} {R : List Loc} {a : α} (e : b = true) (r : Runs s h t R a) : Runs s h (.br b t f) R a
  | brf {b : Bool} {t f : RM α} {R : List Loc} {a : α} (e : b = false) (r : Runs s h f R a) : Runs s h (.br b t f) R a
  | ex {X : Type} {k : X → RM α} {R : List Loc} {a : α} (x : X) (r : Runs s h (k x) R a) : Runs s h (.ex k) R a
section
variable {α : Type} {s s' : Slots} {h h' : Heap}
theorem wpL_runs : ∀ {m : RM α} {R : List Loc} {Q : α → List Loc → Prop}, m.wpL s h R Q → ∃ a R', Runs s h m R' a ∧ ∃ R2, (∀ l, l ∈ R2 ↔ l ∈ R' ∨ l ∈ R) ∧ Q a R2 := by
  intro m
  induction m with
  | pure a => intro R Q hq; exact ⟨a, [], .pure, R, fun l => by simp, hq⟩
  | fail n => intro R Q hq; exact hq.elim
  | slot n k ih =>
    intro R Q hq
    simp only [RM.wpL] at hq
    cases e : get s n with
    | none => rw [e] at hq; exact hq.elim
    | some v =>
      rw [e] at hq
      obtain ⟨a, R', hr, R2, h2, hq⟩ := ih v hq
      exact ⟨a, _, .slot e hr, R2, fun l => by rw [h2, List.mem_cons, List.mem_cons]; exact ⟨fun h => h.elim (fun h => .inl (.inr h)) (fun h => h.elim (fun h => .inl (.inl h)) .inr), fun h => h.elim (fun h => h.elim (fun h => .inr (.inl h)) .inl) (fun h => .inr (.inr h))⟩, hq⟩
  | obj n k ih =>
    intro R Q hq
    simp only [RM.wpL] at hq
    cases e : get h n with
    | none => rw [e] at hq; exact hq.elim
    | some v =>
      rw [e] at hq
      obtain ⟨a, R', hr, R2, h2, hq⟩ := ih v hq
      exact ⟨a, _, .obj e hr, R2, fun l => by rw [h2, List.mem_cons, List.mem_cons]; exact ⟨fun h => h.elim (fun h => .inl (.inr h)) (fun h => h.elim (fun h => .inl (.inl h)) .inr), fun h => h.elim (fun h => h.elim (fun h => .inr (.inl h)) .inl) (fun h => .inr (.inr h))⟩, hq⟩
  | new n k ih =>
    intro R Q hq
    simp only [RM.wpL] at hq
    cases e : get h n with
    | some _ => rw [e] at hq; exact hq.elim
    | none =>
      rw [e] at hq
      obtain ⟨a, R', hr, R2, h2, hq⟩ := ih hq
      exact ⟨a, _, .new e hr, R2, fun l => by rw [h2, List.mem_cons, List.mem_cons]; exact ⟨fun h => h.elim (fun h => .inl (.inr h)) (fun h => h.elim (fun h => .inl (.inl h)) .inr), fun h => h.elim (fun h => h.elim (fun h => .inr (.inl h)) .inl) (fun h => .inr (.inr h))⟩, hq⟩
  | chkT p b hb k ih =>
    intro R Q hq
    obtain ⟨a, R', hr, R2, h2, hq'⟩ := ih hq.r
    exact ⟨a, R', .chkT hq.l hr, R2, h2, hq'⟩
  | br b t e i1 i2 =>
    intro R Q hq
    cases hb : b with
    | true =>
      obtain ⟨a, R', hr, R2, h2, hq'⟩ := i1 (hq.t hb)
      exact ⟨a, R', .brt rfl hr, R2, h2, hq'⟩
    | false =>
      obtain ⟨a, R', hr, R2, h2, hq'⟩ := i2 (hq.f hb)
      exact ⟨a, R', .brf rfl hr, R2, h2, hq'⟩
  | ex k ih =>
    intro R Q hq
    obtain ⟨x, hq⟩ := hq
    obtain ⟨a, R', hr, R2, h2, hq⟩ := ih x hq
    exact ⟨a, R', .ex x hr, R2, h2, hq⟩
theorem Runs.agree {m : RM α} {R : List Loc} {a : α} (r : Runs s h m R a) (hl : ∀ l ∈ R, look s' h' l = look s h l) : Runs s' h' m R a := by
  induction r with
  | pure => exact .pure
  | slot e r ih =>
    have := hl _ (List.mem_cons_self ..)
    simp only [look, e] at this
    refine .slot ?_ (ih fun l h => hl l (List.mem_cons_of_mem _ h))
    cases e2 : get s' _ with
    | none => rw [e2] at this; cases this
    | some v => rw [e2] at this; simp at this; rw [this]
  | obj e r ih =>
    have := hl _ (List.mem_cons_self ..)
    simp only [look, e] at this
    refine .obj ?_ (ih fun l h => hl l (List.mem_cons_of_mem _ h))
    cases e2 : get h' _ with
    | none => rw [e2] at this; cases this
    | some v => rw [e2] at this; simp at this; rw [this]
  | new e r ih =>
    have := hl _ (List.mem_cons_self ..)
    simp only [look, e] at this
    refine .new ?_ (ih fun l h => hl l (List.mem_cons_of_mem _ h))
    cases e2 : get h' _ with
    | none => rfl
    | some v => rw [e2] at this; cases this
  | chkT e r ih => exact .chkT e (ih hl)
  | brt e r ih => exact .brt e (ih hl)
  | brf e r ih => exact .brf e (ih hl)
  | ex x r ih => exact .ex x (ih hl)
theorem Runs.wp {m : RM α} {R : List Loc} {a : α} (r : Runs s h m R a) {Q : α → Prop} (hq : Q a) : m.wp s h Q := by
  induction r with
  | pure => exact hq
  | slot e r ih => simp only [RM.wp, e]; exact ih hq
  | obj e r ih => simp only [RM.wp, e]; exact ih hq
  | new e r ih => simp only [RM.wp, e]; exact ih hq
  | chkT e r ih => exact ⟨e, ih hq⟩
  | brt e r ih => exact ⟨fun _ => ih hq, fun h => (by rw [e] at h; cases h)⟩
  | brf e r ih => exact ⟨fun h => (by rw [e] at h; cases h), fun _ => ih hq⟩
  | ex x r ih => exact ⟨x, ih hq⟩
end
/-! ### what some of the operations did -/
def putNew : Heap → Heap → Heap
  | [], h => h
  | x :: l, h => putNew l (x :: h)
theorem addNew_iff {K : Heap → Prop} : ∀ {nw h : Heap}, addNew nw h K → K (putNew nw h)
  | [], _, hk => hk
  | (r, o) :: l, h, hk => by
    simp only [addNew] at hk
    cases e : get h r with
    | none => rw [e] at hk; exact addNew_iff (nw := l) hk
    | some _ => rw [e] at hk; exact hk.elim
theorem addNew_fresh {K : Heap → Prop} : ∀ {nw h : Heap}, addNew nw h K → ∀ r ∈ nw.map (fun x : Nat × AO => x.1), get h r = none
  | [], _, _, r, hr => by simp at hr
  | (q, o) :: l, h, hk, r, hr => by
    simp only [addNew] at hk
    cases e : get h q with
    | some _ => rw [e] at hk; exact hk.elim
    | none =>
      rw [e] at hk
      rw [List.map_cons, List.mem_cons] at hr
      rcases hr with rfl | hr
      · exact e
      · have := addNew_fresh hk r hr
        rw [get_cons] at this
        by_cases hq : q = r
        · rw [if_pos hq] at this; cases this
        · rw [if_neg hq] at this; exact this
theorem addNew_nodup {K : Heap → Prop} : ∀ {nw h : Heap}, addNew nw h K → ∀ {h' : Heap} {K' : Heap → Prop}, (∀ r ∈ nw.map (fun x : Nat × AO => x.1), get h' r = none) → K' (putNew nw h') → addNew nw h' K'
  | [], _, _, _, _, _, hk => hk
  | (q, o) :: l, h, hk, h', K', hf, hk' => by
    simp only [addNew] at hk ⊢
    rw [hf q (by simp)]
    cases e : get h q with
    | some _ => rw [e] at hk; exact hk.elim
    | none =>
      rw [e] at hk
      refine addNew_nodup hk (fun r hr => ?_) hk'
      have h1 := addNew_fresh hk r hr
      rw [get_cons] at h1 ⊢
      by_cases hq : q = r
      · rw [if_pos hq] at h1; cases h1
      · rw [if_neg hq]; exact hf r (by rw [List.map_cons]; exact List.mem_cons_of_mem _ hr)
def putS (r : Rec) (s : Slots) : Slots := match r.d with
  | some d => (d, r.v) :: s
  | none => s
def putH (r : Rec) (h : Heap) : Heap := putNew r.nw (setOld r.up h)
def mgS (p : Nat → Bool) : List Rec → Slots → Slots
  | [], s => s
  | r :: l, s => mgS (fun k => p (k + 1)) l (if p 0 then putS r s else s)
def mgH (p : Nat → Bool) : List Rec → Heap → Heap
  | [], h => h
  | r :: l, h => mgH (fun k => p (k + 1)) l (if p 0 then putH r h else h)
theorem setOld_get : ∀ {up h : Heap} {r : Nat}, r ∉ up.map (fun x : Nat × AO => x.1) → get (setOld up h) r = get h r
  | [], _, _, _ => rfl
  | (q, o) :: l, h, r, hr => by
    rw [setOld, get_cons, if_neg (fun e => hr (by simp [e])), setOld_get (fun e => hr (by rw [List.map_cons]; exact List.mem_cons_of_mem _ e))]
theorem setOld_get2 : ∀ {up h h' : Heap} {r : Nat}, (r ∈ up.map (fun x : Nat × AO => x.1) ∨ get h r = get h' r) → get (setOld up h) r = get (setOld up h') r
  | [], _, _, _, hr => by rcases hr with hr | hr; simp at hr; exact hr
  | (q, o) :: l, h, h', r, hr => by
    rw [setOld, setOld, get_cons, get_cons]
    by_cases hq : q = r
    · rw [if_pos hq, if_pos hq]
    · rw [if_neg hq, if_neg hq]
      refine setOld_get2 ?_
      rcases hr with hr | hr
      · rw [List.map_cons, List.mem_cons] at hr
        rcases hr with hr | hr
        · exact absurd hr.symm hq
        · exact .inl hr
      · exact .inr hr
theorem putNew_get : ∀ {nw h : Heap} {r : Nat}, r ∉ nw.map (fun x : Nat × AO => x.1) → get (putNew nw h) r = get h r
  | [], _, _, _ => rfl
  | (q, o) :: l, h, r, hr => by
    rw [putNew, putNew_get (fun e => hr (by rw [List.map_cons]; exact List.mem_cons_of_mem _ e)), get_cons, if_neg (fun e => hr (by simp [e]))]
theorem putNew_get2 : ∀ {nw h h' : Heap} {r : Nat}, (r ∈ nw.map (fun x : Nat × AO => x.1) ∨ get h r = get h' r) → get (putNew nw h) r = get (putNew nw h') r
  | [], _, _, _, hr => by rcases hr with hr | hr; simp at hr; exact hr
  | (q, o) :: l, h, h', r, hr => by
    rw [putNew, putNew]
    refine putNew_get2 ?_
    rw [get_cons, get_cons]
    by_cases hq : q = r
    · right; rw [if_pos hq, if_pos hq]
    · rw [if_neg hq, if_neg hq]
      rcases hr with hr | hr
      · rw [List.map_cons, List.mem_cons] at hr
        rcases hr with hr | hr
        · exact absurd hr.symm hq
        · exact .inl hr
      · exact .inr hr
theorem mem_wr {r : Rec} {l : Loc} : l ∈ r.wr ↔ (∃ d, r.d = some d ∧ l = .s d) ∨ ∃ q, l = .o q ∧ (q ∈ r.up.map (fun x : Nat × AO => x.1) ∨ q ∈ r.nw.map (fun x : Nat × AO => x.1)) := by
  unfold Rec.wr
  simp only [List.mem_append, List.mem_map]
  constructor
  · rintro ((h | ⟨x, hx, rfl⟩) | ⟨x, hx, rfl⟩)
    · left
      cases hd : r.d with
      | none => rw [hd] at h; cases h
      | some d => rw [hd] at h; simp at h; exact ⟨d, rfl, h⟩
    · exact .inr ⟨x.1, rfl, .inl ⟨x, hx, rfl⟩⟩
    · exact .inr ⟨x.1, rfl, .inr ⟨x, hx, rfl⟩⟩
  · rintro (⟨d, hd, rfl⟩ | ⟨q, rfl, ⟨x, hx, rfl⟩ | ⟨x, hx, rfl⟩⟩)
    · left; left; rw [hd]; simp
    · left; right; exact ⟨x, hx, rfl⟩
    · right; exact ⟨x, hx, rfl⟩
theorem put_look {r : Rec} {s s' : Slots} {h h' : Heap} {l : Loc} (hl : l ∈ r.wr ∨ look s h l = look s' h' l) : look (putS r s) (putH r h) l = look (putS r s') (putH r h') l := by
  cases l with
  | s n =>
    simp only [look, putS]
    cases hd : r.d with
    | none =>
      rcases hl with hl | hl
      · rcases mem_wr.1 hl with ⟨d, h1, h2⟩ | ⟨q, h1, _⟩
        · rw [hd] at h1; cases h1
        · cases h1
      · simpa [look] using hl
    | some d =>
      simp only [get_cons]
      by_cases hn : d = n
      · rw [if_pos hn, if_pos hn]
      · rw [if_neg hn, if_neg hn]
        rcases hl with hl | hl
        · rcases mem_wr.1 hl with ⟨d', h1, h2⟩ | ⟨q, h1, _⟩
          · rw [hd] at h1; injection h1 with h1; injection h2 with h2; exact absurd (h1.trans h2.symm) hn
          · cases h1
        · simpa [look] using hl
  | o q =>
    simp only [look, putH]
    congr 1
    rcases hl with hl | hl
    · rcases mem_wr.1 hl with ⟨d', h1, h2⟩ | ⟨q', h1, h2⟩
      · cases h2
      · injection h1 with h1; subst h1
        rcases h2 with h2 | h2
        · exact putNew_get2 (.inr (setOld_get2 (.inl h2)))
        · exact putNew_get2 (.inl h2)
    · refine putNew_get2 (.inr (setOld_get2 (.inr ?_)))
      simp only [look] at hl
      cases e1 : get h q <;> cases e2 : get h' q <;> rw [e1, e2] at hl <;> simp_all
theorem put_look_not {r : Rec} {s : Slots} {h : Heap} {l : Loc} (hl : l ∉ r.wr) : look (putS r s) (putH r h) l = look s h l := by
  cases l with
  | s n =>
    simp only [look, putS]
    cases hd : r.d with
    | none => rfl
    | some d =>
      simp only [get_cons]
      rw [if_neg (fun e => hl (mem_wr.2 (.inl ⟨d, hd, by rw [e]⟩)))]
  | o q =>
    simp only [look, putH]
    rw [putNew_get (fun e => hl (mem_wr.2 (.inr ⟨q, rfl, .inr e⟩))), setOld_get (fun e => hl (mem_wr.2 (.inr ⟨q, rfl, .inl e⟩)))]
/-- Where those that write it agree. -/
theorem mg_look : ∀ (rs : List Rec) {p q : Nat → Bool} {s s' : Slots} {h h' : Heap} {l : Loc}, look s h l = look s' h' l → (∀ k r, rs[k]? = some r → l ∈ r.wr → p k = q k) → look (mgS p rs s) (mgH p rs h) l = look (mgS q rs s') (mgH q rs h') l
  | [], p, q, s, s', h, h', l, e, _ => e
  | r :: rs, p, q, s, s', h, h', l, e, hk => by
    rw [mgS, mgH, mgS, mgH]
    refine mg_look rs ?_ (fun k r' hr' hl => hk (k + 1) r' (by simpa using hr') hl)
    by_cases hl : l ∈ r.wr
    · rw [hk 0 r (by simp) hl]
      cases q 0 with
      | true => exact put_look (.inl hl)
      | false => exact e
    · have f : ∀ (b : Bool) (s : Slots) (h : Heap), look (if b then putS r s else s) (if b then putH r h else h) l = look s h l := fun b s h => by
        cases b with
        | true => exact put_look_not hl
        | false => rfl
      rw [f, f]; exact e
/-- One more. -/
theorem mg_add : ∀ (rs : List Rec) {p p' : Nat → Bool} {i : Nat} {r : Rec} {s : Slots} {h : Heap}, rs[i]? = some r → p i = false → p' i = true → (∀ k, k ≠ i → p' k = p k) → (∀ k r', i < k → rs[k]? = some r' → p k = true → ∀ l ∈ r.wr, l ∉ r'.wr) →
    ∀ l, look (mgS p' rs s) (mgH p' rs h) l = look (putS r (mgS p rs s)) (putH r (mgH p rs h)) l
  | [], _, _, _, _, _, _, e, _, _, _, _, _ => by simp at e
  | q :: rs, p, p', 0, r, s, h, e, h0, h1, hk, hd, l => by
    simp at e; subst e
    rw [mgS, mgH, mgS, mgH, h0, h1]
    have hpp : (fun k => p' (k + 1)) = (fun k => p (k + 1)) := by funext k; exact hk (k + 1) (by omega)
    rw [hpp]
    simp only [if_true, Bool.false_eq_true, if_false]
    by_cases hl : l ∈ q.wr
    · -- nobody behind writes it
      have a1 : look (mgS (fun k => p (k + 1)) rs (putS q s)) (mgH (fun k => p (k + 1)) rs (putH q h)) l = look (mgS (fun _ => false) rs (putS q s)) (mgH (fun _ => false) rs (putH q h)) l := mg_look rs rfl (fun k r' hr' hl' => by
        cases hp : p (k + 1) with
        | false => rfl
        | true => exact absurd hl' (hd (k + 1) r' (by omega) (by simpa using hr') hp l hl))
      have nobody : ∀ (rs : List Rec) (s : Slots) (h : Heap), mgS (fun _ => false) rs s = s ∧ mgH (fun _ => false) rs h = h := by
        intro rs
        induction rs with
        | nil => intro s h; exact ⟨rfl, rfl⟩
        | cons r rs ih => intro s h; rw [mgS, mgH]; simp only [Bool.false_eq_true, if_false]; exact ih s h
      rw [a1, (nobody rs (putS q s) (putH q h)).1, (nobody rs (putS q s) (putH q h)).2]
      exact put_look (.inl hl)
    · rw [put_look_not hl]
      exact mg_look rs (put_look_not hl) (fun _ _ _ _ => rfl)
  | q :: rs, p, p', i + 1, r, s, h, e, h0, h1, hk, hd, l => by
    rw [mgS, mgH, mgS, mgH, hk 0 (by omega)]
    exact mg_add rs (p := fun k => p (k + 1)) (p' := fun k => p' (k + 1)) (i := i) (by simpa using e) h0 h1 (fun k hne => hk (k + 1) (by omega)) (fun k r' hik hr' hp => hd (k + 1) r' (by omega) (by simpa using hr') hp) l
end Go.XM
