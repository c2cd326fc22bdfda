/- What may become of the objects and the world. -/
import Derived.Test.YtanfllomeheiiaaGreatDoorXM3
set_option linter.unusedVariables false
set_option linter.unusedSimpArgs false
namespace Go.XM
def upd (μ : Mu) (r : Nat) (m : Option (Nat × Nat)) : Mu := fun q => if q = r then m else μ q
theorem upd_same (μ : Mu) (r : Nat) (m : Option (Nat × Nat)) : upd μ r m r = m := if_pos rfl
theorem upd_other {μ : Mu} {r q : Nat} {m : Option (Nat × Nat)} (h : q ≠ r) : upd μ r m q = μ q := if_neg h
section
variable {G : Ctx} {μ : Mu} {I : Nat → Prop} {hp : Heap} {w w' : World}
/-- The same blocks, and what else a world has but the count of draws. -/
structure Like (w w' : World) : Prop where
  os : w'.os = w.os
  tape : w'.tape = w.tape
  output : w'.output = w.output
theorem Like.refl (w : World) : Like w w := ⟨rfl, rfl, rfl⟩
theorem HSim.same (S : HSim G μ I hp w) (hl : Like w w') (hh : w'.heap = w.heap) : HSim G μ I hp w' where
  objs r o h := AO.rep_mono (.refl _ _) (fun b _ => by rw [hh]) (fun _ h => h) rfl (fun b z _ => by rw [hh]) (S.objs r o h)
  inj := S.inj
  own r b z h e := by rw [hh]; exact S.own r b z h e
  imm b h := by rw [hh]; exact S.imm b h
  base := ⟨hl.os.trans S.base.os, hl.tape.trans S.base.tape, hl.output.trans S.base.output, by rw [hh]; exact S.base.size, fun b h1 h2 => by rw [hh]; exact S.base.block b h1 h2⟩
  pin := S.pin
  keep := S.keep
theorem Ext.of_heap (hh : w'.heap = w.heap) : Ext μ I hp w μ I hp w' := ⟨.refl _ _, fun _ h => h, fun b _ => by rw [hh]⟩
theorem live_cons {hp : Heap} {r r' : Nat} {o : AO} (h : live ((r, o) :: hp) r') (hne : r' ≠ r) : live hp r' := by
  obtain ⟨o', e, h⟩ := h
  rw [get_cons, if_neg (fun e => hne e.symm)] at e
  exact ⟨o', e, h⟩
/-- An object is laid: a new one, or in the place of one of its kind. -/
theorem HSim.set (S : HSim G μ I hp w) {r : Nat} {o : AO} {m : Option (Nat × Nat)} (hl : Like w w') (hsz : w.heap.size ≤ w'.heap.size)
    (hle : HeapLe hp μ ((r, o) :: hp) (upd μ r m))
    (hfresh : ∀ r' b z z', live hp r' → r' ≠ r → μ r' = some (b, z) → m ≠ some (b, z'))
    (hI : ∀ b z, m = some (b, z) → ¬ I b ∧ b < w'.heap.size ∧ (G.B0 b ∨ G.w0.heap.size ≤ b))
    (hw : ∀ b, b < w.heap.size → (∀ z, m ≠ some (b, z)) → w'.heap[b]? = w.heap[b]?)
    (ho : Ext μ I hp w (upd μ r m) I ((r, o) :: hp) w' → o.rep (upd μ r m) w' I ((r, o) :: hp) r) :
    HSim G (upd μ r m) I ((r, o) :: hp) w' ∧ Ext μ I hp w (upd μ r m) I ((r, o) :: hp) w' := by
  have hIw : ∀ b, I b → w'.heap[b]? = w.heap[b]? := fun b hb => hw b (S.imm b hb).1 (fun z e => (hI b z e).1 hb)
  have X : Ext μ I hp w (upd μ r m) I ((r, o) :: hp) w' := ⟨hle, fun _ h => h, hIw⟩
  refine ⟨⟨fun r' o' e => ?_, fun r1 r2 b z z' h1 h2 e1 e2 => ?_, fun r' b z h e => ?_, fun b h => ⟨Nat.lt_of_lt_of_le (S.imm b h).1 hsz, (S.imm b h).2⟩, ?_, S.pin.le hle, S.keep⟩, X⟩
  · rw [get_cons] at e
    by_cases hr : r = r'
    · rw [if_pos hr] at e; injection e with e; subst e; subst hr; exact ho X
    · rw [if_neg hr] at e
      by_cases hd : o' = .dead
      · subst hd; trivial
      · exact AO.rep_mono hle hIw (fun _ h => h) (upd_other (fun e => hr e.symm)) (fun b z e2 => hw b (S.own r' b z ⟨o', e, hd⟩ e2).2.1 (fun z' e3 => hfresh r' b z z' ⟨o', e, hd⟩ (fun e => hr e.symm) e2 e3)) (S.objs r' o' e)
  · by_cases c1 : r1 = r
    · by_cases c2 : r2 = r
      · rw [c1, c2]
      · subst c1
        rw [upd_same] at e1; rw [upd_other c2] at e2
        exact absurd e1 (hfresh r2 b z' z (live_cons h2 c2) c2 e2)
    · by_cases c2 : r2 = r
      · subst c2
        rw [upd_same] at e2; rw [upd_other c1] at e1
        exact absurd e2 (hfresh r1 b z z' (live_cons h1 c1) c1 e1)
      · rw [upd_other c1] at e1; rw [upd_other c2] at e2
        exact S.inj r1 r2 b z z' (live_cons h1 c1) (live_cons h2 c2) e1 e2
  · by_cases c : r' = r
    · subst c; rw [upd_same] at e; exact hI b z e
    · rw [upd_other c] at e
      have := S.own r' b z (live_cons h c) e
      exact ⟨this.1, Nat.lt_of_lt_of_le this.2.1 hsz, this.2.2⟩
  · refine ⟨hl.os.trans S.base.os, hl.tape.trans S.base.tape, hl.output.trans S.base.output, Nat.le_trans S.base.size hsz, fun b h1 h2 => ?_⟩
    rw [hw b (Nat.lt_of_lt_of_le h1 S.base.size) (fun z e => by rcases (hI b z e).2.2 with h | h; exact h2 h; omega)]
    exact S.base.block b h1 h2
theorem le_new {r : Nat} {o : AO} {m : Option (Nat × Nat)} (h : get hp r = none) : HeapLe hp μ ((r, o) :: hp) (upd μ r m) := ⟨fun q o' e => by
  have hq : q ≠ r := by intro e2; subst e2; rw [h] at e; cases e
  exact ⟨o', by rw [get_cons, if_neg (fun e => hq e.symm)]; exact e, .inr ⟨.refl _, upd_other hq⟩⟩⟩
theorem le_set {r : Nat} {o o' : AO} {m : Option (Nat × Nat)} (h : get hp r = some o) (hk : o.like o') (hm : m = μ r) : HeapLe hp μ ((r, o') :: hp) (upd μ r m) := ⟨fun q p e => by
  by_cases hq : q = r
  · subst hq
    rw [h] at e; injection e with e; subst e
    exact ⟨o', by rw [get_cons, if_pos rfl], .inr ⟨hk, by rw [upd_same, hm]⟩⟩
  · exact ⟨p, by rw [get_cons, if_neg (fun e => hq e.symm)]; exact e, .inr ⟨.refl _, upd_other hq⟩⟩⟩
/-- A new object in a new block. -/
theorem HSim.new (S : HSim G μ I hp w) {r : Nat} (hr : get hp r = none) (ob : Obj) (z : Nat) (o : AO) (hl : Like w w') (hh : w'.heap = w.heap.push ob)
    (ho : Ext μ I hp w (upd μ r (some (w.heap.size, z))) I ((r, o) :: hp) w' → o.rep (upd μ r (some (w.heap.size, z))) w' I ((r, o) :: hp) r) :
    HSim G (upd μ r (some (w.heap.size, z))) I ((r, o) :: hp) w' ∧ Ext μ I hp w (upd μ r (some (w.heap.size, z))) I ((r, o) :: hp) w' := by
  refine S.set hl (by rw [hh]; simp) (le_new hr) (fun r' b z1 z2 h1 h2 e1 e2 => ?_) (fun b z' e => ?_) (fun b hb hne => ?_) ho
  · injection e2 with e2; injection e2 with e2 e3
    have := (S.own r' b z1 h1 e1).2.1
    omega
  · injection e with e; injection e with e e'
    subst e
    refine ⟨fun h => ?_, by rw [hh]; simp, .inr S.base.size⟩
    have := (S.imm _ h).1
    omega
  · rw [hh, Array.getElem?_push, if_neg (by omega)]
/-- A row of no elements, nowhere yet. -/
theorem HSim.newV (S : HSim G μ I hp w) {r k : Nat} (hr : get hp r = none) (c : Nat → Nat → D) :
    HSim G (upd μ r none) I ((r, .row 0 k c) :: hp) w ∧ Ext μ I hp w (upd μ r none) I ((r, .row 0 k c) :: hp) w :=
  S.set (.refl w) (Nat.le_refl _) (le_new hr) (fun _ _ _ _ _ _ _ => by simp) (fun _ _ e => by cases e) (fun _ _ _ => rfl) (fun _ => .inl ⟨upd_same _ _ _, rfl⟩)
/-- A block is turned whose object stands. -/
theorem HSim.turn (S : HSim G μ I hp w) {r b z : Nat} {o o' : AO} (hr : get hp r = some o) (hd : o ≠ .dead) (hk : o.like o') (hm : μ r = some (b, z)) (hl : Like w w') (hsz : w'.heap.size = w.heap.size)
    (hw : ∀ k, k ≠ b → w'.heap[k]? = w.heap[k]?)
    (ho : Ext μ I hp w μ I ((r, o') :: hp) w' → o'.rep μ w' I ((r, o') :: hp) r) :
    HSim G μ I ((r, o') :: hp) w' ∧ Ext μ I hp w μ I ((r, o') :: hp) w' := by
  have e : upd μ r (some (b, z)) = μ := by
    funext q
    by_cases h : q = r
    · subst h; rw [upd_same, hm]
    · exact upd_other h
  have := S.set (r := r) (o := o') (m := some (b, z)) hl (Nat.le_of_eq hsz.symm) (le_set hr hk hm.symm) (fun r' b' z1 z2 h1 h2 e1 e2 => ?_) (fun b' z' e2 => ?_) (fun k hk hne => ?_) (by rw [e]; exact ho)
  · rw [e] at this; exact this
  · injection e2 with e2; injection e2 with e2 e3
    subst e2
    exact h2 (S.inj r' r b z1 z h1 ⟨o, hr, hd⟩ e1 hm)
  · injection e2 with e2; injection e2 with e2 e3
    subst e2
    have := S.own r b z ⟨o, hr, hd⟩ hm
    exact ⟨this.1, by rw [hsz]; exact this.2.1, this.2.2⟩
  · exact hw k (fun e => hne z (by rw [e]))
/-- An object is given up. -/
theorem HSim.kill (S : HSim G μ I hp w) (r : Nat) : HSim G μ I ((r, .dead) :: hp) w ∧ Ext μ I hp w μ I ((r, .dead) :: hp) w := by
  have hle : HeapLe hp μ ((r, .dead) :: hp) μ := ⟨fun q o e => by
    by_cases h : r = q
    · exact ⟨.dead, by rw [get_cons, if_pos h], .inl rfl⟩
    · exact ⟨o, by rw [get_cons, if_neg h]; exact e, .inr ⟨.refl _, rfl⟩⟩⟩
  have lv : ∀ {q}, live ((r, .dead) :: hp) q → live hp q ∧ q ≠ r := fun {q} ⟨o, e, h⟩ => by
    rw [get_cons] at e
    by_cases hq : r = q
    · rw [if_pos hq] at e; injection e with e; exact absurd e.symm h
    · rw [if_neg hq] at e; exact ⟨⟨o, e, h⟩, fun e => hq e.symm⟩
  refine ⟨⟨fun q o e => ?_, fun r1 r2 b z z' h1 h2 => S.inj r1 r2 b z z' (lv h1).1 (lv h2).1, fun q b z h => S.own q b z (lv h).1, S.imm, S.base, S.pin.le hle, S.keep⟩, ⟨hle, fun _ h => h, fun _ _ => rfl⟩⟩
  rw [get_cons] at e
  by_cases hq : r = q
  · rw [if_pos hq] at e; injection e with e; subst e; trivial
  · rw [if_neg hq] at e
    exact AO.rep_mono hle (fun _ _ => rfl) (fun _ h => h) rfl (fun _ _ _ => rfl) (S.objs q o e)
/-- A given object's block goes to a new one. -/
theorem HSim.hand (S : HSim G μ I hp w) {r f b z : Nat} {o : AO} (hr : get hp r = some o) (hd : o ≠ .dead) (hf : get hp f = none) (hm : μ r = some (b, z)) (o' : AO) (hl : Like w w') (hsz : w'.heap.size = w.heap.size)
    (hw : ∀ k, k ≠ b → w'.heap[k]? = w.heap[k]?)
    (ho : Ext μ I hp w (upd μ f (some (b, z))) I ((f, o') :: (r, .dead) :: hp) w' → o'.rep (upd μ f (some (b, z))) w' I ((f, o') :: (r, .dead) :: hp) f) :
    HSim G (upd μ f (some (b, z))) I ((f, o') :: (r, .dead) :: hp) w' ∧ Ext μ I hp w (upd μ f (some (b, z))) I ((f, o') :: (r, .dead) :: hp) w' := by
  obtain ⟨S1, X1⟩ := S.kill r
  have hrf : r ≠ f := by intro e; subst e; rw [hr] at hf; cases hf
  have hf1 : get ((r, AO.dead) :: hp) f = none := by rw [get_cons, if_neg hrf]; exact hf
  have tr : ∀ {μ' : Mu} {hp' : Heap}, Ext μ I ((r, .dead) :: hp) w μ' I hp' w' → Ext μ I hp w μ' I hp' w' := fun {μ' hp'} X2 => ⟨⟨fun q p e => by
    obtain ⟨p1, e1, h1⟩ := X1.le.le q p e
    obtain ⟨p2, e2, h2⟩ := X2.le.le q p1 e1
    refine ⟨p2, e2, ?_⟩
    rcases h2 with h2 | ⟨h2, m2⟩
    · exact .inl h2
    · rcases h1 with h1 | ⟨h1, m1⟩
      · subst h1
        left
        cases p2 <;> first | rfl | exact h2.elim
      · right
        refine ⟨?_, m2⟩
        cases p <;> cases p1 <;> cases p2 <;> simp_all [AO.like]⟩, fun b hb => hb, X2.same⟩
  have := S1.set (r := f) (o := o') (m := some (b, z)) hl (Nat.le_of_eq hsz.symm) (le_new hf1) (fun r' b' z1 z2 h1 h2 e1 e2 => ?_) (fun b' z' e2 => ?_) (fun k hk hne => hw k (fun e => hne z (by rw [e]))) (fun X => ho (tr X))
  · exact ⟨this.1, tr this.2⟩
  · injection e2 with e2; injection e2 with e2 e3
    subst e2
    obtain ⟨p, e, hp'⟩ := h1
    rw [get_cons] at e
    by_cases hq : r = r'
    · rw [if_pos hq] at e; injection e with e; exact hp' e.symm
    · rw [if_neg hq] at e
      exact hq (S.inj r r' b z z1 ⟨o, hr, hd⟩ ⟨p, e, hp'⟩ hm e1)
  · injection e2 with e2; injection e2 with e2 e3
    subst e2
    have := S.own r b z ⟨o, hr, hd⟩ hm
    exact ⟨this.1, by rw [hsz]; exact this.2.1, this.2.2⟩
/-- A new block that never turns. -/
theorem HSim.imm_new (S : HSim G μ I hp w) (ob : Obj) (hl : Like w w') (hh : w'.heap = w.heap.push ob) :
    HSim G μ (fun b => I b ∨ b = w.heap.size) hp w' ∧ Ext μ I hp w μ (fun b => I b ∨ b = w.heap.size) hp w' := by
  have hw : ∀ b, b < w.heap.size → w'.heap[b]? = w.heap[b]? := fun b hb => by rw [hh, Array.getElem?_push, if_neg (by omega)]
  have hIw : ∀ b, I b → w'.heap[b]? = w.heap[b]? := fun b hb => hw b (S.imm b hb).1
  refine ⟨⟨fun r o e => ?_, S.inj, fun r b z h e => ?_, fun b h => ?_, ?_, S.pin, fun b h => .inl (S.keep b h)⟩, ⟨.refl _ _, fun _ h => .inl h, hIw⟩⟩
  · by_cases hd : o = .dead
    · subst hd; trivial
    · exact AO.rep_mono (.refl _ _) hIw (fun _ h => .inl h) rfl (fun b z e2 => hw b (S.own r b z ⟨o, e, hd⟩ e2).2.1) (S.objs r o e)
  · have := S.own r b z h e
    refine ⟨fun h => ?_, by rw [hh]; simp; omega, this.2.2⟩
    rcases h with h | h
    · exact this.1 h
    · omega
  · rcases h with h | h
    · have := S.imm b h
      exact ⟨by rw [hh]; simp; omega, this.2⟩
    · subst h
      exact ⟨by rw [hh]; simp, .inr (.inr S.base.size)⟩
  · refine ⟨hl.os.trans S.base.os, hl.tape.trans S.base.tape, hl.output.trans S.base.output, by rw [hh]; simp; exact Nat.le_succ_of_le S.base.size, fun b h1 h2 => ?_⟩
    rw [hw b (Nat.lt_of_lt_of_le h1 S.base.size)]
    exact S.base.block b h1 h2
/-- A given object's block is turned and never turns again. -/
theorem HSim.freeze (S : HSim G μ I hp w) {r b z : Nat} {o : AO} (hr : get hp r = some o) (hd : o ≠ .dead) (hm : μ r = some (b, z)) (hl : Like w w') (hsz : w'.heap.size = w.heap.size) (hw : ∀ k, k ≠ b → w'.heap[k]? = w.heap[k]?) :
    HSim G μ (fun k => I k ∨ k = b) ((r, .dead) :: hp) w' ∧ Ext μ I hp w μ (fun k => I k ∨ k = b) ((r, .dead) :: hp) w' := by
  obtain ⟨S1, X1⟩ := S.kill r
  have hob := S.own r b z ⟨o, hr, hd⟩ hm
  have hIw : ∀ k, I k → w'.heap[k]? = w.heap[k]? := fun k hk => hw k (fun e => hob.1 (e ▸ hk))
  have lv : ∀ {q}, live ((r, .dead) :: hp) q → live hp q ∧ q ≠ r := fun {q} ⟨o, e, h⟩ => by
    rw [get_cons] at e
    by_cases hq : r = q
    · rw [if_pos hq] at e; injection e with e; exact absurd e.symm h
    · rw [if_neg hq] at e; exact ⟨⟨o, e, h⟩, fun e => hq e.symm⟩
  refine ⟨⟨fun q p e => ?_, S1.inj, fun q b' z' h e => ?_, fun k hk => ?_, ?_, S1.pin, fun k hk => .inl (S.keep k hk)⟩, ⟨X1.le, fun _ h => .inl h, hIw⟩⟩
  · by_cases hd2 : p = .dead
    · subst hd2; trivial
    · refine AO.rep_mono (.refl _ _) hIw (fun _ h => .inl h) rfl (fun b' z' e2 => hw b' (fun e3 => ?_)) (S1.objs q p e)
      have hlv := lv ⟨p, e, hd2⟩
      rw [e3] at e2
      exact hlv.2 (S.inj q r b z' z hlv.1 ⟨o, hr, hd⟩ e2 hm)
  · have hlv := lv h
    have := S.own q b' z' hlv.1 e
    refine ⟨fun h => ?_, by rw [hsz]; exact this.2.1, this.2.2⟩
    rcases h with h | h
    · exact this.1 h
    · rw [h] at e; exact hlv.2 (S.inj q r b z' z hlv.1 ⟨o, hr, hd⟩ e hm)
  · rw [hsz]
    rcases hk with hk | hk
    · exact S.imm k hk
    · rw [hk]; exact ⟨hob.2.1, .inr hob.2.2⟩
  · refine ⟨hl.os.trans S.base.os, hl.tape.trans S.base.tape, hl.output.trans S.base.output, by rw [hsz]; exact S.base.size, fun k h1 h2 => ?_⟩
    rw [hw k (fun e => by rw [e] at h1 h2; rcases hob.2.2 with h | h; exact h2 h; omega)]
    exact S.base.block k h1 h2
end
end Go.XM
