/- What the abstract machine's states say of the model's worlds. -/
import Derived.Test.YtanfllomeheiiaaGreatDoorXM1
import Derived.Below
set_option linter.unusedVariables false
set_option linter.unusedSimpArgs false
namespace Go.XM
/-- Plain data, as it lies in a world; I: blocks that never turn. -/
def D.rep (w : World) (I : Nat → Prop) : D → Value → Prop
  | .a x, v => v = x
  | .vs x n k c, v => ∃ A cap, v = .slice A n cap ∧ n ≤ cap ∧ (x = true → cap = n) ∧ (0 < n → ∃ b o, A = some ⟨b, o, none⟩ ∧ I b ∧ ∀ i j, i < n → j < k → ∃ u, w.cell? ⟨b, o + (i * k + j), none⟩ = some u ∧ u.oneCell' = true ∧ (c i j).rep w I u)
/-- Where an object lies: its block and how many cells that has. -/
abbrev Mu := Nat → Option (Nat × Nat)
mutual
def AV.rep (μ : Mu) (w : World) (I : Nat → Prop) (hp : Heap) : AV → Value → Prop
  | .d x, v => x.rep w I v
  | .rs r off len, v => ∃ A cap, v = .slice A len cap ∧ len ≤ cap ∧ ∃ o, get hp r = some o ∧ ∀ n k c, o = .row n k c → off + len ≤ n ∧ ((μ r = none ∧ cap = 0) ∨ ∃ b z, μ r = some (b, z) ∧ (0 < cap → A = some ⟨b, off * k, none⟩) ∧ (off + cap) * k ≤ z)
  | .pc r j, v => ∃ a, v = .pointer (some a) ∧ ∃ o, get hp r = some o ∧ ∀ cs, o = .cells cs → ∃ b z, μ r = some (b, z) ∧ a = ⟨b, j, none⟩
  | .pr r i j, v => ∃ a, v = .pointer (some a) ∧ ∃ o, get hp r = some o ∧ ∀ n k c, o = .row n k c → i < n ∧ ∃ b z, μ r = some (b, z) ∧ a = ⟨b, i * k + j, none⟩
  | .pv n k c i j, v => ∃ b o, v = .pointer (some ⟨b, o + (i * k + j), none⟩) ∧ i < n ∧ I b ∧ ∀ i j, i < n → j < k → ∃ u, w.cell? ⟨b, o + (i * k + j), none⟩ = some u ∧ u.oneCell' = true ∧ (c i j).rep w I u
  | .mp r, v => ∃ b, v = .map (some b) ∧ ∃ o, get hp r = some o ∧ ∀ es c, o = .map es c → ∃ z, μ r = some (b, z)
  | .ra r off len, v => ∃ A cap, v = .slice (some A) len cap ∧ len ≤ cap ∧ ∃ o, get hp r = some o ∧ ∀ n k cs, o = .rowA n k cs → off + len ≤ n ∧ ((μ r = none ∧ cap = 0) ∨ ∃ b z, μ r = some (b, z) ∧ (0 < cap → A = ⟨b, off * k, none⟩) ∧ (off + cap) * k ≤ z)
  | .pa r i j, v => ∃ a, v = .pointer (some a) ∧ ∃ o, get hp r = some o ∧ ∀ n k c, o = .rowA n k c → i < n ∧ ∃ b z, μ r = some (b, z) ∧ a = ⟨b, i * k + j, none⟩
  | .it r, v => ∃ b, v = .pointer (some ⟨b, 0, none⟩) ∧ ∃ o, get hp r = some o ∧ ((∀ m a q l, o = .itM m a q l → ∃ z, μ r = some (b, z)) ∧ ∀ t p, o = .itS t p → ∃ z, μ r = some (b, z))
  | .fn f xs ys, v => ∃ a c, v = .func f a c ∧ AV.reps μ w I hp xs a.toList ∧ AV.reps μ w I hp ys c.toList
  | .agg xs, v => ∃ a, v = .agg a ∧ AV.reps μ w I hp xs a.toList
  | .tup xs, v => ∃ a, v = .tuple a ∧ AV.reps μ w I hp xs a.toList
  | .any, _ => True
def AV.reps (μ : Mu) (w : World) (I : Nat → Prop) (hp : Heap) : List AV → List Value → Prop
  | [], [] => True
  | x :: xs, v :: vs => x.rep μ w I hp v ∧ AV.reps μ w I hp xs vs
  | _, _ => False
end
/-- No cell of a block is frozen. -/
def nofz (vs : Array Value) (fz : Nat × Nat) : Prop := ∀ j, j < vs.size → ¬ (fz.1 ≤ j ∧ j < fz.2)
def mapRep (μ : Mu) (w : World) (I : Nat → Prop) (hp : Heap) : List (Value × Nat × AV) → List MapEntry → Prop
  | [], [] => True
  | (k, b, v) :: l, e :: es => (e.key = k ∧ e.born = b ∧ v.rep μ w I hp e.val) ∧ mapRep μ w I hp l es
  | _, _ => False
def AO.rep (μ : Mu) (w : World) (I : Nat → Prop) (hp : Heap) (r : Nat) : AO → Prop
  | .dead => True
  | .cells cs => ∃ b z vs t fz, μ r = some (b, z) ∧ w.heap[b]? = some (.cells vs t fz) ∧ nofz vs fz ∧ AV.reps μ w I hp cs vs.toList
  | .row n k c => (μ r = none ∧ n = 0) ∨ ∃ b z vs t fz, μ r = some (b, z) ∧ w.heap[b]? = some (.cells vs t fz) ∧ nofz vs fz ∧ vs.size = z ∧ n * k ≤ z ∧ ∀ i j, i < n → j < k → ∃ u, vs[i * k + j]? = some u ∧ u.oneCell' = true ∧ (c i j).rep w I u
  | .rowA n k cs => cs.length = n * k ∧ ((μ r = none ∧ n = 0) ∨ ∃ b z vs t fz, μ r = some (b, z) ∧ w.heap[b]? = some (.cells vs t fz) ∧ nofz vs fz ∧ vs.size = z ∧ n * k ≤ z ∧ AV.reps μ w I hp cs (vs.toList.take (n * k)) ∧ ∀ u ∈ vs.toList.take (n * k), u.oneCell' = true)
  | .map es clock => ∃ b z es', μ r = some (b, z) ∧ w.heap[b]? = some (.map es' clock) ∧ mapRep μ w I hp es es'.toList
  | .itM m since seen last => ∃ b z m', μ r = some (b, z) ∧ w.heap[b]? = some (.mapIter m' since seen.toArray last) ∧ m.rep μ w I hp (.map m')
  | .itS s pos => ∃ b z, μ r = some (b, z) ∧ w.heap[b]? = some (.stringIter s pos)
def AO.like : AO → AO → Prop
  | .dead, .dead => True
  | .cells _, .cells _ => True
  | .row n k _, .row n' k' _ => n = n' ∧ k = k'
  | .rowA n k _, .rowA n' k' _ => n = n' ∧ k = k'
  | .map _ _, .map _ _ => True
  | .itM _ _ _ _, .itM _ _ _ _ => True
  | .itS _ _, .itS _ _ => True
  | _, _ => False
theorem AO.like.refl (o : AO) : o.like o := by cases o <;> simp [AO.like]
structure HeapLe (hp : Heap) (μ : Mu) (hp' : Heap) (μ' : Mu) : Prop where
  le : ∀ r o, get hp r = some o → ∃ o', get hp' r = some o' ∧ (o' = .dead ∨ (o.like o' ∧ μ' r = μ r))
theorem HeapLe.refl (hp : Heap) (μ : Mu) : HeapLe hp μ hp μ := ⟨fun _ o h => ⟨o, h, .inr ⟨.refl o, rfl⟩⟩⟩
universe u
theorem get_cons {β : Type u} (l : List (Nat × β)) (m : Nat) (b : β) (n : Nat) : get ((m, b) :: l) n = if m = n then some b else get l n := by
  simp only [get]
  by_cases h : m = n
  · subst h; simp
  · have : Nat.beq m n = false := by
      cases e : Nat.beq m n
      · rfl
      · exact absurd (Nat.eq_of_beq_eq_true e) h
    simp [this, h]
theorem D.rep_mono {w w' : World} {I I' : Nat → Prop} (hw : ∀ b, I b → w'.heap[b]? = w.heap[b]?) (hI : ∀ b, I b → I' b) : ∀ (x : D) (v : Value), x.rep w I v → x.rep w' I' v
  | .a _, _, h => h
  | .vs x n k c, v, h => by
    obtain ⟨A, cap, e, hc, hx, h⟩ := h
    refine ⟨A, cap, e, hc, hx, fun hn => ?_⟩
    obtain ⟨b, o, ea, hb, h⟩ := h hn
    refine ⟨b, o, ea, hI b hb, fun i j hi hj => ?_⟩
    obtain ⟨u, hu, h1, h⟩ := h i j hi hj
    refine ⟨u, ?_, h1, D.rep_mono hw hI (c i j) u h⟩
    rw [World.cell?_of_block (w := w) (w' := w') (hw b hb)]
    exact hu
/-- The same data, as far as it goes. -/
inductive DR : D → D → Prop
  | refl (d : D) : DR d d
  | vs {x x' : Bool} {n n' k : Nat} {c c' : Nat → Nat → D} (hx : x' = true → x = true) (hn : n = n') (hc : ∀ i j, i < n → j < k → DR (c i j) (c' i j)) : DR (.vs x n k c) (.vs x' n' k c')
  | nil {x : Bool} {k : Nat} {c : Nat → Nat → D} : DR (.a (.slice none 0 0)) (.vs x 0 k c)
theorem DR.of {d d' : D} (h : d = d') : DR d d' := h ▸ .refl d
theorem DR.rep {w : World} {I : Nat → Prop} {d d' : D} (h : DR d d') : ∀ {v : Value}, d.rep w I v → d'.rep w I v := by
  induction h with
  | refl => exact fun h => h
  | vs hx hn hc ih =>
    intro v h
    subst hn
    obtain ⟨A, cap, e, h1, h2, h3⟩ := h
    refine ⟨A, cap, e, h1, fun e => h2 (hx e), fun hn => ?_⟩
    obtain ⟨b, o, e, hI, h3⟩ := h3 hn
    refine ⟨b, o, e, hI, fun i j hi hj => ?_⟩
    obtain ⟨u, hu, h1, h⟩ := h3 i j hi hj
    exact ⟨u, hu, h1, ih i j hi hj h⟩
  | nil =>
    intro v h
    exact ⟨none, 0, h, Nat.le_refl _, fun _ => rfl, fun h => absurd h (by decide)⟩
theorem DR.trans {a b : D} (h : DR a b) : ∀ {c : D}, DR b c → DR a c := by
  induction h with
  | refl => exact fun h => h
  | vs hx hn hc ih =>
    intro c h
    cases h with
    | refl => exact .vs hx hn hc
    | vs hx' hn' hc' => exact .vs (fun e => hx (hx' e)) (hn.trans hn') fun i j hi hj => ih i j hi hj (hc' i j (hn ▸ hi) hj)
  | nil =>
    intro c h
    cases h with
    | refl => exact .nil
    | vs hx' hn' hc' => subst hn'; exact .nil
section
variable {μ μ' : Mu} {w w' : World} {I I' : Nat → Prop} {hp hp' : Heap}
theorem AV.reps_len : ∀ {xs : List AV} {vs : List Value}, AV.reps μ w I hp xs vs → xs.length = vs.length
  | [], [], _ => rfl
  | x :: xs, v :: vs, h => by simp [AV.reps_len h.2]
  | [], _ :: _, h => h.elim
  | _ :: _, [], h => h.elim
mutual
theorem AV.rep_mono (hl : HeapLe hp μ hp' μ') (hw : ∀ b, I b → w'.heap[b]? = w.heap[b]?) (hI : ∀ b, I b → I' b) : ∀ (x : AV) (v : Value), x.rep μ w I hp v → x.rep μ' w' I' hp' v
  | .d x, v, h => by rw [AV.rep] at h ⊢; exact D.rep_mono hw hI x v h
  | .rs r off len, v, h => by
    rw [AV.rep] at h ⊢
    obtain ⟨A, cap, e, hc, o, ho, h⟩ := h
    obtain ⟨o', ho', hk⟩ := hl.le r o ho
    refine ⟨A, cap, e, hc, o', ho', fun n k c eo => ?_⟩
    rcases hk with hk | ⟨hk, hm⟩
    · rw [hk] at eo; cases eo
    · subst eo
      match o, hk with
      | .row n' k' c', hk =>
        obtain ⟨rfl, rfl⟩ := hk
        rw [hm]
        exact h _ _ _ rfl
  | .pc r j, v, h => by
    rw [AV.rep] at h ⊢
    obtain ⟨a, e, o, ho, h⟩ := h
    obtain ⟨o', ho', hk⟩ := hl.le r o ho
    refine ⟨a, e, o', ho', fun cs eo => ?_⟩
    rcases hk with hk | ⟨hk, hm⟩
    · rw [hk] at eo; cases eo
    · subst eo
      match o, hk with
      | .cells cs', hk => rw [hm]; exact h _ rfl
  | .pr r i j, v, h => by
    rw [AV.rep] at h ⊢
    obtain ⟨a, e, o, ho, h⟩ := h
    obtain ⟨o', ho', hk⟩ := hl.le r o ho
    refine ⟨a, e, o', ho', fun n k c eo => ?_⟩
    rcases hk with hk | ⟨hk, hm⟩
    · rw [hk] at eo; cases eo
    · subst eo
      match o, hk with
      | .row n' k' c', hk =>
        obtain ⟨rfl, rfl⟩ := hk
        rw [hm]
        exact h _ _ _ rfl
  | .pv n k c i j, v, h => by
    rw [AV.rep] at h ⊢
    obtain ⟨b, o, e, hi, hb, h⟩ := h
    refine ⟨b, o, e, hi, hI b hb, fun i j hi hj => ?_⟩
    obtain ⟨u, hu, h1, h⟩ := h i j hi hj
    refine ⟨u, ?_, h1, D.rep_mono hw hI _ u h⟩
    rw [World.cell?_of_block (w := w) (w' := w') (hw b hb)]
    exact hu
  | .mp r, v, h => by
    rw [AV.rep] at h ⊢
    obtain ⟨b, e, o, ho, h⟩ := h
    obtain ⟨o', ho', hk⟩ := hl.le r o ho
    refine ⟨b, e, o', ho', fun n f eo => ?_⟩
    rcases hk with hk | ⟨hk, hm⟩
    · rw [hk] at eo; cases eo
    · subst eo
      match o, hk with
      | .map n' f', hk => rw [hm]; exact h _ _ rfl
  | .ra r off len, v, h => by
    rw [AV.rep] at h ⊢
    obtain ⟨A, cap, e, hc, o, ho, h⟩ := h
    obtain ⟨o', ho', hk⟩ := hl.le r o ho
    refine ⟨A, cap, e, hc, o', ho', fun n k c eo => ?_⟩
    rcases hk with hk | ⟨hk, hm⟩
    · rw [hk] at eo; cases eo
    · subst eo
      match o, hk with
      | .rowA n' k' c', hk =>
        obtain ⟨rfl, rfl⟩ := hk
        rw [hm]
        exact h _ _ _ rfl
  | .pa r i j, v, h => by
    rw [AV.rep] at h ⊢
    obtain ⟨a, e, o, ho, h⟩ := h
    obtain ⟨o', ho', hk⟩ := hl.le r o ho
    refine ⟨a, e, o', ho', fun n k c eo => ?_⟩
    rcases hk with hk | ⟨hk, hm⟩
    · rw [hk] at eo; cases eo
    · subst eo
      match o, hk with
      | .rowA n' k' c', hk =>
        obtain ⟨rfl, rfl⟩ := hk
        rw [hm]
        exact h _ _ _ rfl
  | .it r, v, h => by
    rw [AV.rep] at h ⊢
    obtain ⟨b, e, o, ho, h1, h2⟩ := h
    obtain ⟨o', ho', hk⟩ := hl.le r o ho
    refine ⟨b, e, o', ho', fun m a q l eo => ?_, fun t p eo => ?_⟩
    · rcases hk with hk | ⟨hk, hm⟩
      · rw [hk] at eo; cases eo
      · subst eo
        match o, hk with
        | .itM _ _ _ _, hk => rw [hm]; exact h1 _ _ _ _ rfl
    · rcases hk with hk | ⟨hk, hm⟩
      · rw [hk] at eo; cases eo
      · subst eo
        match o, hk with
        | .itS _ _, hk => rw [hm]; exact h2 _ _ rfl
  | .fn f xs ys, v, h => by
    rw [AV.rep] at h ⊢
    obtain ⟨a, c, e, h1, h2⟩ := h
    exact ⟨a, c, e, AV.reps_mono hl hw hI xs _ h1, AV.reps_mono hl hw hI ys _ h2⟩
  | .agg xs, v, h => by
    rw [AV.rep] at h ⊢
    obtain ⟨a, e, h1⟩ := h
    exact ⟨a, e, AV.reps_mono hl hw hI xs _ h1⟩
  | .tup xs, v, h => by
    rw [AV.rep] at h ⊢
    obtain ⟨a, e, h1⟩ := h
    exact ⟨a, e, AV.reps_mono hl hw hI xs _ h1⟩
  | .any, _, _ => by rw [AV.rep]; trivial
theorem AV.reps_mono (hl : HeapLe hp μ hp' μ') (hw : ∀ b, I b → w'.heap[b]? = w.heap[b]?) (hI : ∀ b, I b → I' b) : ∀ (xs : List AV) (vs : List Value), AV.reps μ w I hp xs vs → AV.reps μ' w' I' hp' xs vs
  | [], [], _ => trivial
  | x :: xs, v :: vs, h => ⟨AV.rep_mono hl hw hI x v h.1, AV.reps_mono hl hw hI xs vs h.2⟩
  | [], _ :: _, h => h.elim
  | _ :: _, [], h => h.elim
end
theorem mapRep_mono (hl : HeapLe hp μ hp' μ') (hw : ∀ b, I b → w'.heap[b]? = w.heap[b]?) (hI : ∀ b, I b → I' b) : ∀ (l : List (Value × Nat × AV)) (es : List MapEntry), mapRep μ w I hp l es → mapRep μ' w' I' hp' l es
  | [], [], _ => trivial
  | (k, b, v) :: l, e :: es, h => ⟨⟨h.1.1, h.1.2.1, AV.rep_mono hl hw hI v _ h.1.2.2⟩, mapRep_mono hl hw hI l es h.2⟩
  | [], _ :: _, h => h.elim
  | _ :: _, [], h => h.elim
/-- An object whose block stays as it is. -/
theorem AO.rep_mono {r : Nat} {o : AO} (hl : HeapLe hp μ hp' μ') (hw : ∀ b, I b → w'.heap[b]? = w.heap[b]?) (hI : ∀ b, I b → I' b) (hm : μ' r = μ r) (hb : ∀ b z, μ r = some (b, z) → w'.heap[b]? = w.heap[b]?) (h : o.rep μ w I hp r) : o.rep μ' w' I' hp' r := by
  cases o with
  | dead => trivial
  | cells cs =>
    obtain ⟨b, z, vs, t, fz, e, hh, hf, h⟩ := h
    exact ⟨b, z, vs, t, fz, hm.trans e, (hb b z e).trans hh, hf, AV.reps_mono hl hw hI _ _ h⟩
  | row n k c =>
    rcases h with ⟨e, hn⟩ | ⟨b, z, vs, t, fz, e, hh, hf, hz, hk, h⟩
    · exact .inl ⟨hm.trans e, hn⟩
    · refine .inr ⟨b, z, vs, t, fz, hm.trans e, (hb b z e).trans hh, hf, hz, hk, fun i j hi hj => ?_⟩
      obtain ⟨u, hu, h1, h⟩ := h i j hi hj
      exact ⟨u, hu, h1, D.rep_mono hw hI _ _ h⟩
  | rowA n k cs =>
    obtain ⟨hlen, h⟩ := h
    refine ⟨hlen, ?_⟩
    rcases h with ⟨e, hn⟩ | ⟨b, z, vs, t, fz, e, hh, hf, hz, hk, h, h1⟩
    · exact .inl ⟨hm.trans e, hn⟩
    · exact .inr ⟨b, z, vs, t, fz, hm.trans e, (hb b z e).trans hh, hf, hz, hk, AV.reps_mono hl hw hI _ _ h, h1⟩
  | map es c =>
    obtain ⟨b, z, es', e, hh, h⟩ := h
    exact ⟨b, z, es', hm.trans e, (hb b z e).trans hh, mapRep_mono hl hw hI es _ h⟩
  | itM m a q l =>
    obtain ⟨b, z, m', e, hh, h⟩ := h
    exact ⟨b, z, m', hm.trans e, (hb b z e).trans hh, AV.rep_mono hl hw hI _ _ h⟩
  | itS t p =>
    obtain ⟨b, z, e, hh⟩ := h
    exact ⟨b, z, hm.trans e, (hb b z e).trans hh⟩
end
/-- What stood when the function began: the world, the blocks that don't turn, the blocks that may. -/
structure Ctx where
  w0 : World
  I0 : Nat → Prop
  B0 : Nat → Prop
  pin : Nat → Option (Option (Nat × Nat))
  fr : List (Slots × Act)
def live (hp : Heap) (r : Nat) : Prop := ∃ o, get hp r = some o ∧ o ≠ .dead
/-- The world beside what the function may turn. -/
structure Base (G : Ctx) (w : World) : Prop where
  os : w.os = G.w0.os
  tape : w.tape = G.w0.tape
  output : w.output = G.w0.output
  size : G.w0.heap.size ≤ w.heap.size
  block : ∀ b, b < G.w0.heap.size → ¬ G.B0 b → w.heap[b]? = G.w0.heap[b]?
/-- Objects that were handed in stay where they are, or are given up. -/
def PinOk (G : Ctx) (μ : Mu) (hp : Heap) : Prop := ∀ r m, G.pin r = some m → ∃ o, get hp r = some o ∧ (o = .dead ∨ μ r = m)
theorem PinOk.le {G : Ctx} {μ μ' : Mu} {hp hp' : Heap} (h : PinOk G μ hp) (hl : HeapLe hp μ hp' μ') : PinOk G μ' hp' := fun r m e => by
  obtain ⟨o, ho, h⟩ := h r m e
  obtain ⟨o', ho', hk⟩ := hl.le r o ho
  refine ⟨o', ho', ?_⟩
  rcases hk with hk | ⟨hk, hm⟩
  · exact .inl hk
  · rcases h with rfl | h
    · left; cases o' <;> first | rfl | exact hk.elim
    · right; rw [hm]; exact h
/-- The objects and the world. -/
structure HSim (G : Ctx) (μ : Mu) (I : Nat → Prop) (hp : Heap) (w : World) : Prop where
  objs : ∀ r o, get hp r = some o → o.rep μ w I hp r
  inj : ∀ r r' b z z', live hp r → live hp r' → μ r = some (b, z) → μ r' = some (b, z') → r = r'
  own : ∀ r b z, live hp r → μ r = some (b, z) → ¬ I b ∧ b < w.heap.size ∧ (G.B0 b ∨ G.w0.heap.size ≤ b)
  imm : ∀ b, I b → b < w.heap.size ∧ (G.I0 b ∨ G.B0 b ∨ G.w0.heap.size ≤ b)
  base : Base G w
  pin : PinOk G μ hp
  keep : ∀ b, G.I0 b → I b
def SlotsRep (μ : Mu) (w : World) (I : Nat → Prop) (hp : Heap) (sl : Slots) (a : Act) : Prop := ∀ n v, get sl n = some v → ∃ u, a.tmps[n]? = some u ∧ v.rep μ w I hp u
/-- A state of the abstract machine, and the model's. -/
structure Sim (G : Ctx) (N : Nat) (μ : Mu) (I : Nat → Prop) (sl : Slots) (hp : Heap) (a : Act) (w : World) : Prop where
  slots : SlotsRep μ w I hp sl a
  heap : HSim G μ I hp w
  size : N ≤ a.tmps.size
  defers : a.defers = []
  frames : ∀ x ∈ G.fr, SlotsRep μ w I hp x.1 x.2
/-- What an operation may do: values that stood stand. -/
structure Ext (μ : Mu) (I : Nat → Prop) (hp : Heap) (w : World) (μ' : Mu) (I' : Nat → Prop) (hp' : Heap) (w' : World) : Prop where
  le : HeapLe hp μ hp' μ'
  imm : ∀ b, I b → I' b
  same : ∀ b, I b → w'.heap[b]? = w.heap[b]?
theorem Ext.refl (μ : Mu) (I : Nat → Prop) (hp : Heap) (w : World) : Ext μ I hp w μ I hp w := ⟨.refl _ _, fun _ h => h, fun _ _ => rfl⟩
theorem Ext.rep {μ μ' : Mu} {I I' : Nat → Prop} {hp hp' : Heap} {w w' : World} (h : Ext μ I hp w μ' I' hp' w') {x : AV} {v : Value} (hr : x.rep μ w I hp v) : x.rep μ' w' I' hp' v := AV.rep_mono h.le h.same h.imm x v hr
theorem Ext.reps {μ μ' : Mu} {I I' : Nat → Prop} {hp hp' : Heap} {w w' : World} (h : Ext μ I hp w μ' I' hp' w') {x : List AV} {v : List Value} (hr : AV.reps μ w I hp x v) : AV.reps μ' w' I' hp' x v := AV.reps_mono h.le h.same h.imm x v hr
theorem SlotsRep.ext {μ μ' : Mu} {I I' : Nat → Prop} {hp hp' : Heap} {w w' : World} (h : Ext μ I hp w μ' I' hp' w') {sl : Slots} {a : Act} (hr : SlotsRep μ w I hp sl a) : SlotsRep μ' w' I' hp' sl a := fun n v e => let ⟨u, hu, hv⟩ := hr n v e; ⟨u, hu, h.rep hv⟩
/-- A slot is written. -/
theorem SlotsRep.put {μ : Mu} {I : Nat → Prop} {hp : Heap} {w : World} {sl : Slots} {a : Act} {N d : Nat} {v : AV} {u : Value} (h : SlotsRep μ w I hp sl a) (hN : N ≤ a.tmps.size) (hd : d < N) (hv : v.rep μ w I hp u) : SlotsRep μ w I hp ((d, v) :: sl) (a.put (some d) u) := by
  intro n x e
  rw [get_cons] at e
  by_cases hn : d = n
  · rw [if_pos hn] at e; injection e with e; subst e; subst hn
    exact ⟨u, by simp only [Act.put]; rw [Array.getElem?_setIfInBounds, if_pos rfl, if_pos (by omega)], hv⟩
  · rw [if_neg hn] at e
    obtain ⟨y, hy, hx⟩ := h n x e
    exact ⟨y, by simp only [Act.put]; rw [Array.getElem?_setIfInBounds, if_neg hn]; exact hy, hx⟩
end Go.XM
