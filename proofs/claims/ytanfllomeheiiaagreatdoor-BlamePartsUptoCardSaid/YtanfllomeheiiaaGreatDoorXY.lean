/- The abstract machine, worked out: what it comes to is so. -/
import Derived.Test.YtanfllomeheiiaaGreatDoorXX
import Derived.Test.YtanfllomeheiiaaGreatDoorXM13
set_option linter.unusedVariables false
set_option linter.unusedSimpArgs false
namespace Go.XM
open RM Go.RowKit
theorem get_or' {β : Type} (l m : List (Nat × β)) (q : Nat) : get (l ++ m) q = (get l q).or (get m q) := by
  induction l with
  | nil => rfl
  | cons x l ih =>
    obtain ⟨a, b⟩ := x
    rw [List.cons_append, get_cons, get_cons]
    by_cases h : a = q
    · rw [if_pos h, if_pos h]; rfl
    · rw [if_neg h, if_neg h, ih]
theorem setOld_get' (up h : Heap) (q : Nat) : get (setOld up h) q = (get up q).or (get h q) := by
  have : ∀ up h : Heap, setOld up h = up ++ h := by
    intro up
    induction up with
    | nil => intro h; rfl
    | cons x l ih => intro h; rw [setOld, ih h]; rfl
  rw [this, get_or']
theorem get_not' {β : Type} {l : List (Nat × β)} {n : Nat} (h : n ∉ l.map fun x : Nat × β => x.1) : get l n = none := by
  cases e : get l n with
  | none => rfl
  | some b => exact absurd (get_mem e) h
theorem putNew_or' {K : Heap → Prop} : ∀ {nw h : Heap}, addNew nw h K → ∀ q, get (putNew nw h) q = (get nw q).or (get h q)
  | [], _, _, _ => rfl
  | (r, o) :: l, h, hk, q => by
    have hk0 := hk
    simp only [addNew] at hk
    cases e : get h r with
    | some _ => rw [e] at hk; exact hk.elim
    | none =>
      rw [e] at hk
      rw [putNew, putNew_or' hk q, get_cons, get_cons]
      by_cases hq : r = q
      · rw [if_pos hq, if_pos hq]
        have : get l q = none := get_not' fun hm => by
          have := addNew_fresh hk q hm
          rw [get_cons, if_pos hq] at this
          cases this
        rw [this]; rfl
      · rw [if_neg hq, if_neg hq]
/-- The tree's state is the lists' state; hp0: the objects of the one that calls. -/
structure Ag (hp0 : Heap) (st : St) (s : Slots) (h : Heap) : Prop where
  slots : ∀ n v, Tr.at st.d st.s n = some v → get s n = some v
  objs : ∀ r o, Tr.at dO st.t r = some o → get h r = some o
  rest : ∀ r, Tr.at dO st.t r = none → get h r = get hp0 r
  trk : ∀ r, r ∉ st.u → (r < st.b ∨ st.f ≤ r) → get h r = get hp0 r
  bf : st.b ≤ st.f
section
variable {α : Type} {sl0 : Slots} {hp0 : Heap} {s : Slots} {h : Heap} {Φ : Eff → Prop}
theorem setK_wp {β : Type} {b : β} {n : Nat} {d : Nat} {t : Tr β} {r : Nat} {k : Tr β → RE} (hk : (Tr.setK b (.fail n) d t r k).wp sl0 hp0 Φ) : ∃ t', (k t').wp sl0 hp0 Φ ∧ ∀ m, Tr.at d t' m = if m = r then some b else Tr.at d t m := by
  rcases Tr.setK_is (x := b) (z := (.fail n : RE)) (d := d) (t := t) (n := r) (k := k) with e | ⟨t', e, ht⟩
  · rw [e] at hk; exact hk.elim
  · rw [e] at hk; exact ⟨t', hk, ht⟩
theorem new_wp {r : Nat} {k : RE} (hk : (RM.new r k).wp sl0 hp0 Φ) : get hp0 r = none ∧ k.wp sl0 hp0 Φ := by
  simp only [RM.wp] at hk
  cases e : get hp0 r with
  | none => rw [e] at hk; exact ⟨rfl, hk⟩
  | some o => rw [e] at hk; exact hk.elim
/-- An object that was read is kept. -/
theorem Ag.read {st : St} {r : Nat} {o : AO} {t' : Tr AO} (A : Ag hp0 st s h) (hn : Tr.at dO st.t r = none) (ho : get hp0 r = some o) (ht : ∀ m, Tr.at dO t' m = if m = r then some o else Tr.at dO st.t m) : Ag hp0 ⟨st.s, t', st.u, st.b, st.f, st.d⟩ s h where
  slots := A.slots
  objs q p e := by
    have e : Tr.at dO t' q = some p := e
    rw [ht] at e
    by_cases hq : q = r
    · rw [if_pos hq] at e; injection e with e; subst e; subst hq
      rw [A.rest _ hn, ho]
    · rw [if_neg hq] at e; exact A.objs q p e
  rest q e := by
    have e : Tr.at dO t' q = none := e
    rw [ht] at e
    by_cases hq : q = r
    · rw [if_pos hq] at e; cases e
    · rw [if_neg hq] at e; exact A.rest q e
  trk := A.trk
  bf := A.bf
theorem ip_runs : ∀ {m : RM α} {st : St} {k : α → St → RE}, (m.ip st k).wp sl0 hp0 Φ → Ag hp0 st s h → ∃ a R st', Runs s h m R a ∧ Ag hp0 st' s h ∧ (k a st').wp sl0 hp0 Φ ∧ st'.f = st.f ∧ st'.b = st.b := by
  intro m
  induction m with
  | pure a => intro st k hk A; exact ⟨a, [], st, .pure, A, hk, rfl, rfl⟩
  | fail n => intro st k hk A; exact hk.elim
  | slot n f ih =>
    intro st k hk A
    have hk : (slotK st n fun v => (f v).ip st k).wp sl0 hp0 Φ := hk
    rw [slotK_eq] at hk
    cases e : Tr.at st.d st.s n with
    | none => rw [e] at hk; exact hk.elim
    | some v =>
      rw [e] at hk
      obtain ⟨a, R, st', hr, A', hk, hf⟩ := ih v hk A
      exact ⟨a, _, st', .slot (A.slots n v e) hr, A', hk, hf⟩
  | obj r f ih =>
    intro st k hk A
    have hk : (objK st r fun o st => (f o).ip st k).wp sl0 hp0 Φ := hk
    rw [objK_eq] at hk
    cases e : Tr.at dO st.t r with
    | some o =>
      rw [e] at hk
      obtain ⟨a, R, st', hr, A', hk, hf⟩ := ih o hk A
      exact ⟨a, _, st', .obj (A.objs r o e) hr, A', hk, hf⟩
    | none =>
      rw [e] at hk
      obtain ⟨o, ho, hk⟩ := obj_wp hk
      obtain ⟨t', hk, ht⟩ := setK_wp hk
      obtain ⟨a, R, st', hr, A', hk, hf⟩ := ih o hk (A.read e ho ht)
      exact ⟨a, _, st', .obj (by rw [A.rest r e, ho]) hr, A', hk, hf⟩
  | new r f ih =>
    intro st k hk A
    have hk : (noK st r (f.ip st k)).wp sl0 hp0 Φ := hk
    rw [noK_eq] at hk
    cases e : Tr.at dO st.t r with
    | some o => rw [e] at hk; exact hk.elim
    | none =>
      rw [e] at hk
      obtain ⟨ho, hk⟩ := new_wp hk
      obtain ⟨a, R, st', hr, A', hk, hf⟩ := ih hk A
      exact ⟨a, _, st', .new (by rw [A.rest r e, ho]) hr, A', hk, hf⟩
  | chkT p b hb f ih =>
    intro st k hk A
    cases b with
    | false => exact hk.elim
    | true =>
      obtain ⟨a, R, st', hr, A', hk, hf⟩ := ih hk A
      exact ⟨a, _, st', .chkT (hb rfl) hr, A', hk, hf⟩
  | br b x y i1 i2 =>
    intro st k hk A
    cases b with
    | true =>
      obtain ⟨a, R, st', hr, A', hk, hf⟩ := i1 hk A
      exact ⟨a, _, st', .brt rfl hr, A', hk, hf⟩
    | false =>
      obtain ⟨a, R, st', hr, A', hk, hf⟩ := i2 hk A
      exact ⟨a, _, st', .brf rfl hr, A', hk, hf⟩
  | ex f ih => intro st k hk A; exact hk.elim
theorem ipR_runs : ∀ {m : RM α} {st : St} {R0 : List Loc} {k : α → St → List Loc → RE}, (m.ipR st R0 k).wp sl0 hp0 Φ → Ag hp0 st s h → ∃ a R R1 st', Runs s h m R a ∧ (∀ l ∈ R, l ∈ R1) ∧ (∀ l ∈ R0, l ∈ R1) ∧ Ag hp0 st' s h ∧ (k a st' R1).wp sl0 hp0 Φ ∧ st'.f = st.f ∧ st'.b = st.b := by
  intro m
  induction m with
  | pure a => intro st R0 k hk A; exact ⟨a, [], R0, st, .pure, fun _ h => by (cases h), fun _ h => h, A, hk, rfl, rfl⟩
  | fail n => intro st R0 k hk A; exact hk.elim
  | slot n f ih =>
    intro st R0 k hk A
    have hk : (slotK st n fun v => (f v).ipR st (.s n :: R0) k).wp sl0 hp0 Φ := hk
    rw [slotK_eq] at hk
    cases e : Tr.at st.d st.s n with
    | none => rw [e] at hk; exact hk.elim
    | some v =>
      rw [e] at hk
      obtain ⟨a, R, R1, st', hr, h1, h2, A', hk, hf⟩ := ih v hk A
      exact ⟨a, _, R1, st', .slot (A.slots n v e) hr, fun l hl => (List.mem_cons.1 hl).elim (fun e => h2 l (by rw [e]; exact List.mem_cons_self ..)) (h1 l), fun l hl => h2 l (List.mem_cons_of_mem _ hl), A', hk, hf⟩
  | obj r f ih =>
    intro st R0 k hk A
    have hk : (objK st r fun o st => (f o).ipR st (.o r :: R0) k).wp sl0 hp0 Φ := hk
    rw [objK_eq] at hk
    cases e : Tr.at dO st.t r with
    | some o =>
      rw [e] at hk
      obtain ⟨a, R, R1, st', hr, h1, h2, A', hk, hf⟩ := ih o hk A
      exact ⟨a, _, R1, st', .obj (A.objs r o e) hr, fun l hl => (List.mem_cons.1 hl).elim (fun e => h2 l (by rw [e]; exact List.mem_cons_self ..)) (h1 l), fun l hl => h2 l (List.mem_cons_of_mem _ hl), A', hk, hf⟩
    | none =>
      rw [e] at hk
      obtain ⟨o, ho, hk⟩ := obj_wp hk
      obtain ⟨t', hk, ht⟩ := setK_wp hk
      obtain ⟨a, R, R1, st', hr, h1, h2, A', hk, hf⟩ := ih o hk (A.read e ho ht)
      exact ⟨a, _, R1, st', .obj (by rw [A.rest r e, ho]) hr, fun l hl => (List.mem_cons.1 hl).elim (fun e => h2 l (by rw [e]; exact List.mem_cons_self ..)) (h1 l), fun l hl => h2 l (List.mem_cons_of_mem _ hl), A', hk, hf⟩
  | new r f ih =>
    intro st R0 k hk A
    have hk : (noK st r (f.ipR st (.o r :: R0) k)).wp sl0 hp0 Φ := hk
    rw [noK_eq] at hk
    cases e : Tr.at dO st.t r with
    | some o => rw [e] at hk; exact hk.elim
    | none =>
      rw [e] at hk
      obtain ⟨ho, hk⟩ := new_wp hk
      obtain ⟨a, R, R1, st', hr, h1, h2, A', hk, hf⟩ := ih hk A
      exact ⟨a, _, R1, st', .new (by rw [A.rest r e, ho]) hr, fun l hl => (List.mem_cons.1 hl).elim (fun e => h2 l (by rw [e]; exact List.mem_cons_self ..)) (h1 l), fun l hl => h2 l (List.mem_cons_of_mem _ hl), A', hk, hf⟩
  | chkT p b hb f ih =>
    intro st R0 k hk A
    cases b with
    | false => exact hk.elim
    | true =>
      obtain ⟨a, R, R1, st', hr, h1, h2, A', hk, hf⟩ := ih hk A
      exact ⟨a, _, R1, st', .chkT (hb rfl) hr, h1, h2, A', hk, hf⟩
  | br b x y i1 i2 =>
    intro st R0 k hk A
    cases b with
    | true =>
      obtain ⟨a, R, R1, st', hr, h1, h2, A', hk, hf⟩ := i1 hk A
      exact ⟨a, _, R1, st', .brt rfl hr, h1, h2, A', hk, hf⟩
    | false =>
      obtain ⟨a, R, R1, st', hr, h1, h2, A', hk, hf⟩ := i2 hk A
      exact ⟨a, _, R1, st', .brf rfl hr, h1, h2, A', hk, hf⟩
  | ex f ih => intro st R0 k hk A; exact hk.elim
theorem upH_wp : ∀ {up : Heap} {st : St} {k : St → RE}, (upH up st k).wp sl0 hp0 Φ → Ag hp0 st s h → ∃ st', Ag hp0 st' s (setOld up h) ∧ (k st').wp sl0 hp0 Φ ∧ st'.f = st.f ∧ st'.b = st.b
  | [], st, k, hk, A => ⟨st, A, hk, rfl, rfl⟩
  | (r, o) :: l, st, k, hk, A => by
    obtain ⟨st1, A1, hk, hf, hb⟩ := upH_wp (up := l) hk A
    rw [frN_eq, AO.fr_eq] at hk
    obtain ⟨ts, t, u, b, f, d⟩ := st1
    simp only at hk
    cases hlt : Nat.blt r f with
    | false => rw [hlt] at hk; exact hk.elim
    | true =>
      rw [hlt] at hk
      simp only at hk
      have hlt : r < f := by simpa [Nat.blt_eq] using hlt
      obtain ⟨t', hk, ht⟩ := setK_wp hk
      have base : ∀ u', (∀ q, q ∉ u' → (q < b ∨ f ≤ q) → q ∉ u ∧ q ≠ r) → Ag hp0 (.mk ts t' u' b f d) s (setOld ((r, o) :: l) h) := fun u' hu => by
        refine ⟨A1.slots, fun q p e => ?_, fun q e => ?_, fun q hq hc => ?_, A1.bf⟩
        · have e : Tr.at dO t' q = some p := e
          rw [ht] at e
          rw [setOld, get_cons]
          by_cases hq : q = r
          · rw [if_pos hq] at e; injection e with e; subst e; rw [if_pos hq.symm]
          · rw [if_neg hq] at e; rw [if_neg (fun e => hq e.symm)]; exact A1.objs q p e
        · have e : Tr.at dO t' q = none := e
          rw [ht] at e
          rw [setOld, get_cons]
          by_cases hq : q = r
          · rw [if_pos hq] at e; cases e
          · rw [if_neg hq] at e; rw [if_neg (fun e => hq e.symm)]; exact A1.rest q e
        · obtain ⟨h1, h2⟩ := hu q hq hc
          rw [setOld, get_cons, if_neg (fun e => h2 e.symm)]
          exact A1.trk q h1 hc
      cases hble : Nat.ble b r with
      | true =>
        rw [hble] at hk
        have hble := Nat.le_of_ble_eq_true hble
        exact ⟨_, base u (fun q hq hc => ⟨hq, fun e => by omega⟩), hk, hf, hb⟩
      | false =>
        rw [hble] at hk
        exact ⟨_, base (r :: u) (fun q hq hc => ⟨fun e => hq (List.mem_cons_of_mem _ e), fun e => hq (by rw [e]; exact List.mem_cons_self ..)⟩), hk, hf, hb⟩
theorem nwH_wp : ∀ {nw : Heap} {st : St} {h : Heap} {k : St → RE}, (nwH nw st k).wp sl0 hp0 Φ → Ag hp0 st s h → ∃ st', Ag hp0 st' s (putNew nw h) ∧ addNew nw h (fun _ => True) ∧ (k st').wp sl0 hp0 Φ ∧ st'.b = st.b
  | [], st, h, k, hk, A => ⟨st, A, trivial, hk, rfl⟩
  | (r, o) :: l, st, h, k, hk, A => by
    have hk : (frN r fun r => @St.rec (fun _ => RE) (fun s t u b f d => @Bool.rec (fun _ => RE) (.fail 1010) (noK (.mk s t u b f d) r (o.fr true fun o => Tr.setK o (.fail 1012) dO t r fun t => frN (Nat.succ f) fun f => nwH l (.mk s t u b f d) k)) (Nat.beq r f)) st).wp sl0 hp0 Φ := hk
    rw [frN_eq] at hk
    obtain ⟨ts, t, u, b, f, d⟩ := st
    simp only at hk
    cases hbeq : Nat.beq r f with
    | false => rw [hbeq] at hk; exact hk.elim
    | true =>
      rw [hbeq] at hk
      simp only at hk
      have hrf : r = f := Nat.eq_of_beq_eq_true hbeq
      rw [noK_eq] at hk
      split at hk
      · exact hk.elim
      · rename_i hn
        obtain ⟨ho, hk⟩ := new_wp hk
        have hg : get h r = none := by rw [A.rest r hn, ho]
        rw [AO.fr_eq] at hk
        obtain ⟨t', hk, ht⟩ := setK_wp hk
        rw [frN_eq] at hk
        have A1 : Ag hp0 (.mk ts t' u b (Nat.succ f) d) s ((r, o) :: h) := by
          refine ⟨A.slots, fun q p e => ?_, fun q e => ?_, fun q hq hc => ?_, Nat.le_succ_of_le A.bf⟩
          · have e : Tr.at dO t' q = some p := e
            rw [ht] at e
            rw [get_cons]
            by_cases hq : q = r
            · rw [if_pos hq] at e; injection e with e; subst e; rw [if_pos hq.symm]
            · rw [if_neg hq] at e; rw [if_neg (fun e => hq e.symm)]; exact A.objs q p e
          · have e : Tr.at dO t' q = none := e
            rw [ht] at e
            rw [get_cons]
            by_cases hq : q = r
            · rw [if_pos hq] at e; cases e
            · rw [if_neg hq] at e; rw [if_neg (fun e => hq e.symm)]; exact A.rest q e
          · have hc : q < b ∨ f + 1 ≤ q := hc
            have hbf : b ≤ f := A.bf
            rw [get_cons, if_neg (by omega)]
            exact A.trk q hq (by show q < b ∨ f ≤ q; omega)
        obtain ⟨st', A2, hadd, hk, hb⟩ := nwH_wp hk A1
        refine ⟨st', A2, ?_, hk, hb⟩
        simp only [addNew, hg]
        exact hadd
/-- A slot is written, or none. -/
def dS (d : Option Nat) (v : AV) (s : Slots) : Slots := match d with
  | some d => (d, v) :: s
  | none => s
theorem putD_wp {nt : Nat} {d : Option Nat} {v : AV} {st : St} {k : St → RE} (hk : (putD nt d v st k).wp sl0 hp0 Φ) (A : Ag hp0 st s h) : ∃ st', Ag hp0 st' (dS d v s) h ∧ (k st').wp sl0 hp0 Φ ∧ (∀ d', d = some d' → d' < nt) ∧ st'.b = st.b := by
  unfold putD at hk
  cases d with
  | none => exact ⟨st, A, hk, fun _ e => (by cases e), rfl⟩
  | some d =>
    simp only at hk
    cases hlt : Nat.blt d nt with
    | false => rw [hlt] at hk; exact hk.elim
    | true =>
      rw [hlt] at hk
      obtain ⟨ts, t, u, b, f, dd⟩ := st
      simp only at hk
      obtain ⟨s', hk, hs⟩ := setK_wp hk
      refine ⟨.mk s' t u b f dd, ⟨fun q p e => ?_, A.objs, A.rest, A.trk, A.bf⟩, hk, fun d' e => ?_, rfl⟩
      · have e : Tr.at dd s' q = some p := e
        rw [hs] at e
        show get ((d, v) :: s) q = some p
        rw [get_cons]
        by_cases hq : q = d
        · rw [if_pos hq] at e; injection e with e; subst e; rw [if_pos hq.symm]
        · rw [if_neg hq] at e; rw [if_neg (fun e => hq e.symm)]; exact A.slots q p e
      · injection e with e; subst e; simpa [Nat.blt_eq] using hlt
/-- One operation's doing. -/
theorem effX_wp {E : Env} {o : Oper} {v : AV} {up nw : Heap} {st : St} {k : AV → St → RE} (hk : (effX E o (.mk v up nw) st k).wp sl0 hp0 Φ) (A : Ag hp0 st s h) :
    ∃ st', Ag hp0 st' (dS o.dst v s) (putNew nw (setOld up h)) ∧ addNew nw (setOld up h) (fun _ => True) ∧ (k v st').wp sl0 hp0 Φ ∧ (∀ d', o.dst = some d' → d' < E.nt) ∧ st'.b = st.b := by
  unfold effX at hk
  simp only [AV.fr_eq] at hk
  obtain ⟨st1, A1, hk, _, b1⟩ := upH_wp hk A
  obtain ⟨st2, A2, hadd, hk, b2⟩ := nwH_wp hk A1
  obtain ⟨st3, A3, hk, hd, b3⟩ := putD_wp hk A2
  exact ⟨st3, A3, hadd, hk, hd, b3.trans (b2.trans b1)⟩
end
section
variable {P : Program} {E : Env} {G : Ctx} {Q : Exit → Act → World → Prop} {sl0 : Slots} {hp0 : Heap} {Φ : Eff → Prop}
theorem then_of {N : Nat} {sl : Slots} {a : Act} {dst : Option Tmp} {K : Act → World → Prop} {hp : Heap} {v : AV} {up nw : Heap} (hadd : addNew nw (setOld up hp) (fun _ => True)) (hK : ∀ μ' I' u w', Sim G N μ' I' sl (putNew nw (setOld up hp)) a w' → v.rep μ' w' I' (putNew nw (setOld up hp)) u → K (a.put dst u) w') : Then G N sl a dst K hp (.mk v up nw) :=
  addNew_nodup hadd (fun r hr => addNew_fresh hadd r hr) hK
theorem regX_sound (T : TyOk P E.tt) (F : FnsOk P E) {ops : Array Oper} {k : St → RE} {b0 : Nat} (hQ : ∀ st μ I s h a w, Sim G E.nt μ I s h a w → Ag hp0 st s h → st.b = b0 → (k st).wp sl0 hp0 Φ → Q .normal a w) :
    ∀ (l : List Oper) {st : St} {μ : Mu} {I : Nat → Prop} {s : Slots} {h : Heap} {a : Act} {w : World}, Sim G E.nt μ I s h a w → Ag hp0 st s h → st.b = b0 → (regX E ops.toList l st k).wp sl0 hp0 Φ → wpList P ops Q l a w
  | [], st, μ, I, s, h, a, w, S, A, hb, hk => wpList_nil (hQ st μ I s h a w S A hb hk)
  | o :: l, st, μ, I, s, h, a, w, S, A, hb, hk => by
    have hk : (regO E ops.toList o st fun st => regX E ops.toList l st k).wp sl0 hp0 Φ := hk
    rw [regO_eq] at hk
    refine wpList_step fun K hK => ?_
    obtain ⟨⟨v, up, nw⟩, R, st1, hr, A1, hk, _, b1⟩ := ip_runs hk A
    obtain ⟨st2, A2, hadd, hk, hd, b2⟩ := effX_wp hk A1
    have hb2 : st2.b = b0 := b2.trans (b1.trans hb)
    refine guarded_sound (K := K) (Q := Q) T F S (hr.wp (Q := Then G E.nt s a o.dst K h) (then_of hadd fun μ' I' u w' S' hv => hK _ _ ?_))
    cases hdst : o.dst with
    | none =>
      rw [hdst] at A2
      exact regX_sound T F hQ l S' A2 hb2 hk
    | some d =>
      rw [hdst] at A2
      exact regX_sound T F hQ l (S'.putSlot (hd d hdst) hv) A2 hb2 hk
theorem drX_run {ops : List Oper} {k : St → RE} : ∀ {l : List Oper} {st : St} {s : Slots} {h : Heap} {acc : List Rec}, (drX E ops l st acc k).wp sl0 hp0 Φ → Ag hp0 st s h → ∃ rs sf hf st', TRun E ops l s h rs sf hf ∧ noInt ops 0 (acc.reverse ++ rs) = true ∧ edgesOk 0 ops = true ∧ Ag hp0 st' sf hf ∧ (k st').wp sl0 hp0 Φ ∧ st'.b = st.b
  | [], st, s, h, acc, hk, A => by
    have hk : (@Bool.rec (fun _ => RE) (.fail 1013) (k st) (noInt ops 0 acc.reverse && edgesOk 0 ops)).wp sl0 hp0 Φ := hk
    cases hb : (noInt ops 0 acc.reverse && edgesOk 0 ops) with
    | true =>
      rw [hb] at hk
      rw [Bool.and_eq_true] at hb
      exact ⟨[], s, h, st, .nil, by rw [List.append_nil]; exact hb.1, hb.2, A, hk, rfl⟩
    | false => rw [hb] at hk; exact hk.elim
  | o :: l, st, s, h, acc, hk, A => by
    unfold drX at hk
    obtain ⟨⟨v, up, nw⟩, R, R1, st1, hr, h1, _, A1, hk, _, b1⟩ := ipR_runs hk A
    obtain ⟨st2, A2, hadd, hk, hd, b2⟩ := effX_wp hk A1
    have hput : putS ⟨o.dst, v, up, nw, R1⟩ s = dS o.dst v s := by unfold putS dS; cases o.dst <;> rfl
    rw [← hput] at A2
    obtain ⟨rs, sf, hf, st', hT, hno, he, A', hk, b3⟩ := drX_run hk A2
    refine ⟨⟨o.dst, v, up, nw, R1⟩ :: rs, sf, hf, st', .cons rfl hd hr h1 ⟨_, hadd⟩ hT, ?_, he, A', hk, b3.trans (b2.trans b1)⟩
    rw [List.reverse_cons, List.append_assoc] at hno
    exact hno
def Ex.out : Ex → Exit
  | .nrm => .normal
  | .ext id => .exit id
  | .ret => .ret
/-- How code ends. -/
def EndX (G : Ctx) (N : Nat) (sl0 : Slots) (hp0 : Heap) (Φ : Eff → Prop) (b0 : Nat) (k : Ex → St → RE) (x : Exit) (a : Act) (w : World) : Prop := ∃ e st μ I s h, x = Ex.out e ∧ Sim G N μ I s h a w ∧ Ag hp0 st s h ∧ st.b = b0 ∧ (k e st).wp sl0 hp0 Φ
theorem loopX_sound {N b0 : Nat} {c : Code} {body : St → (Ex → St → RE) → RE}
    (hbody : ∀ {k : Ex → St → RE} {st : St} {μ : Mu} {I : Nat → Prop} {s : Slots} {h : Heap} {a : Act} {w : World}, Sim G N μ I s h a w → Ag hp0 st s h → st.b = b0 → (body st k).wp sl0 hp0 Φ → c.wp P (EndX G N sl0 hp0 Φ b0 k) a w) {k : Ex → St → RE} :
    ∀ (n : Nat) {st : St} {μ : Mu} {I : Nat → Prop} {s : Slots} {h : Heap} {a : Act} {w : World}, Sim G N μ I s h a w → Ag hp0 st s h → st.b = b0 → (loopX body n st k).wp sl0 hp0 Φ → Code.rounds P c (EndX G N sl0 hp0 Φ b0 k) n a w
  | 0, st, μ, I, s, h, a, w, S, A, hb, hk => hk.elim
  | n + 1, st, μ, I, s, h, a, w, S, A, hb, hk => by
    unfold loopX at hk
    rw [rounds_succ]
    refine Code.wp_mono (fun x a w q => ?_) (hbody S A hb hk)
    obtain ⟨e, st', μ', I', s', h', rfl, S', A', hb', hk'⟩ := q
    cases e with
    | nrm => exact loopX_sound hbody n S' A' hb' hk'
    | ext id => exact ⟨.ext id, st', μ', I', s', h', rfl, S', A', hb', hk'⟩
    | ret => exact ⟨.ret, st', μ', I', s', h', rfl, S', A', hb', hk'⟩
theorem execX_sound (T : TyOk P E.tt) (F : FnsOk P E) (hm : P.follows .mixedOrders = true) {fuel b0 : Nat} : ∀ (c : Code) {k : Ex → St → RE} {st : St} {μ : Mu} {I : Nat → Prop} {s : Slots} {h : Heap} {a : Act} {w : World}, Sim G E.nt μ I s h a w → Ag hp0 st s h → st.b = b0 → (execX E fuel c st k).wp sl0 hp0 Φ → c.wp P (EndX G E.nt sl0 hp0 Φ b0 k) a w
  | .skip, k, st, μ, I, s, h, a, w, S, A, hb, hk => wp_skip ⟨.nrm, st, μ, I, s, h, rfl, S, A, hb, hk⟩
  | .region id ops d, k, st, μ, I, s, h, a, w, S, A, hb, hk => by
    unfold execX at hk
    cases d with
    | false => exact wp_region_list (regX_sound T F (fun st μ I s h a w S A hb hk => ⟨.nrm, st, μ, I, s, h, rfl, S, A, hb, hk⟩) _ S A hb hk)
    | true =>
      obtain ⟨rs, sf, hf, st', hT, hno, he, A', hk, b3⟩ := drX_run hk A
      rw [List.reverse_nil, List.nil_append] at hno
      exact drawT_sound T F hm S hT hno he fun μ I a w S => ⟨.nrm, st', μ, I, sf, hf, rfl, S, A', b3.trans hb, hk⟩
  | .seq x y, k, st, μ, I, s, h, a, w, S, A, hb, hk => by
    unfold execX at hk
    refine wp_seq (Code.wp_mono (fun x a w q => ?_) (execX_sound T F hm x S A hb hk))
    obtain ⟨e, st', μ', I', s', h', rfl, S', A', hb', hk'⟩ := q
    cases e with
    | nrm => exact execX_sound T F hm y S' A' hb' hk'
    | ext id => exact ⟨.ext id, st', μ', I', s', h', rfl, S', A', hb', hk'⟩
    | ret => exact ⟨.ret, st', μ', I', s', h', rfl, S', A', hb', hk'⟩
  | .cond c x y, k, st, μ, I, s, h, a, w, S, A, hb, hk => by
    have hk : (((opd c).bind asB).ip st fun b st => @Bool.rec (fun _ => RE) (execX E fuel y st k) (execX E fuel x st k) b).wp sl0 hp0 Φ := by
      rw [ip_bind, opdK_ip]; exact hk
    obtain ⟨b, R, st', hr, A', hk, _, b1⟩ := ip_runs hk A
    have hw := hr.wp (Q := fun b' => b' = b) rfl
    rw [wp_bind] at hw
    obtain ⟨v, hw, hv⟩ := opd_wp S.slots hw
    obtain ⟨b', rfl, hbb⟩ := asB_wp hw
    subst hbb
    have e := rep_a hv
    refine wp_cond_split e (fun hb' => ?_) (fun hb' => ?_)
    · subst hb'; exact execX_sound T F hm x S A' (b1.trans hb) hk
    · subst hb'; exact execX_sound T F hm y S A' (b1.trans hb) hk
  | .block id c, k, st, μ, I, s, h, a, w, S, A, hb, hk => by
    unfold execX at hk
    refine wp_block (Code.wp_mono (fun x a w q => ?_) (execX_sound T F hm c S A hb hk))
    obtain ⟨e, st', μ', I', s', h', rfl, S', A', hb', hk'⟩ := q
    cases e with
    | nrm => exact ⟨.nrm, st', μ', I', s', h', rfl, S', A', hb', hk'⟩
    | ret => exact ⟨.ret, st', μ', I', s', h', rfl, S', A', hb', hk'⟩
    | ext j =>
      show (if j = id then _ else _)
      by_cases hj : j = id
      · rw [if_pos hj]
        have : Nat.beq j id = true := by rw [hj]; simp
        simp only [this] at hk'
        exact ⟨.nrm, st', μ', I', s', h', rfl, S', A', hb', hk'⟩
      · rw [if_neg hj]
        have : Nat.beq j id = false := by
          cases e : Nat.beq j id
          · rfl
          · exact absurd (Nat.eq_of_beq_eq_true e) hj
        simp only [this] at hk'
        exact ⟨.ext j, st', μ', I', s', h', rfl, S', A', hb', hk'⟩
  | .loop c, k, st, μ, I, s, h, a, w, S, A, hb, hk => by
    unfold execX at hk
    exact wp_loop_rounds _ (loopX_sound (c := c) (fun S A hb hk => execX_sound T F hm c S A hb hk) fuel S A hb hk)
  | .exit id, k, st, μ, I, s, h, a, w, S, A, hb, hk => wp_exit ⟨.ext id, st, μ, I, s, h, rfl, S, A, hb, hk⟩
  | .ret, k, st, μ, I, s, h, a, w, S, A, hb, hk => wp_ret ⟨.ret, st, μ, I, s, h, rfl, S, A, hb, hk⟩
  | .scope c, k, st, μ, I, s, h, a, w, S, A, hb, hk => wp_scope_straight (Code.wp_mono (fun x a w q => by
      obtain ⟨e, st', μ', I', s', h', rfl, r⟩ := q
      cases e with
      | nrm => exact ⟨.nrm, st', μ', I', s', h', rfl, r⟩
      | ext id => exact ⟨.ext id, st', μ', I', s', h', rfl, r⟩
      | ret => exact ⟨.ret, st', μ', I', s', h', rfl, r⟩) (execX_sound T F hm c S A hb hk))
  | .label _, k, st, μ, I, s, h, a, w, S, A, hb, hk => wp_label ⟨.nrm, st, μ, I, s, h, rfl, S, A, hb, hk⟩
  | .goto _, _, _, _, _, _, _, _, _, _, _, _, hk => hk.elim
  | .rangeFunc _ _ _ _, _, _, _, _, _, _, _, _, _, _, _, hk => hk.elim
  | .refuse _, _, _, _, _, _, _, _, _, _, _, _, hk => hk.elim
end
/-! ### functions -/
section
variable {sl0 : Slots} {hp0 : Heap} {Φ : Eff → Prop}
theorem argX_wp {d : Nat} : ∀ {args : List AV} {i : Nat} {s : Tr AV} {k : Tr AV → RE}, (argX d args i s k).wp sl0 hp0 Φ → ∃ s', (k s').wp sl0 hp0 Φ ∧ ∀ n v, Tr.at d s' n = some v → (get (argSlots args i) n = some v ∨ (Tr.at d s n = some v ∧ n < i) ∨ (Tr.at d s n = some v ∧ i + args.length ≤ n))
  | [], i, s, k, hk => ⟨s, hk, fun n v e => .inr (by by_cases h : n < i; exact .inl ⟨e, h⟩; exact .inr ⟨e, by simp; omega⟩)⟩
  | x :: l, i, s, k, hk => by
    unfold argX at hk
    obtain ⟨s1, hk, hs⟩ := setK_wp hk
    rw [frN_eq] at hk
    obtain ⟨s', hk, h⟩ := argX_wp hk
    refine ⟨s', hk, fun n v e => ?_⟩
    rw [argSlots, get_cons]
    rcases h n v e with h | ⟨h, hn⟩ | ⟨h, hn⟩
    · by_cases hi : i = n
      · exfalso
        subst hi
        -- argSlots from i + 1 on has no i
        have : ∀ (l : List AV) (j : Nat), i < j → get (argSlots l j) i = none := by
          intro l
          induction l with
          | nil => intro j _; rfl
          | cons y l ih => intro j hj; rw [argSlots, get_cons, if_neg (by omega)]; exact ih (j + 1) (by omega)
        rw [this l (i + 1) (by omega)] at h; cases h
      · rw [if_neg hi]; exact .inl h
    · rw [hs] at h
      by_cases hi : n = i
      · rw [if_pos hi] at h; rw [if_pos hi.symm]; exact .inl h
      · rw [if_neg hi] at h; exact .inr (.inl ⟨h, by have : n < i + 1 := hn; omega⟩)
    · rw [hs] at h
      have hn : i + 1 + l.length ≤ n := hn
      rw [if_neg (by omega)] at h
      exact .inr (.inr ⟨h, by simp; omega⟩)
theorem hasH_get {r : Nat} : ∀ {l : Heap}, hasH r l = true → (get l r).isSome = true
  | [], h => by cases h
  | (q, o) :: l, h => by
    rw [get_cons]
    by_cases hq : q = r
    · rw [if_pos hq]; rfl
    · rw [if_neg hq]
      unfold hasH at h
      split at h
      · rename_i hb; exact absurd (Nat.eq_of_beq_eq_true hb) hq
      · exact hasH_get h
theorem gatU_wp {t : Tr AO} : ∀ {l : List Nat} {up : Heap} {k : Heap → RE}, (gatU t l up k).wp sl0 hp0 Φ → (∀ r o, get up r = some o → Tr.at dO t r = some o) → ∃ up', (k up').wp sl0 hp0 Φ ∧ (∀ r o, get up' r = some o → Tr.at dO t r = some o) ∧ (∀ r, (get up' r).isSome = true ↔ (r ∈ l ∨ (get up r).isSome = true))
  | [], up, k, hk, hu => ⟨up, hk, hu, fun r => by simp⟩
  | r :: l, up, k, hk, hu => by
    unfold gatU at hk
    split at hk
    · rename_i hh
      obtain ⟨up', hk, h1, h2⟩ := gatU_wp hk hu
      refine ⟨up', hk, h1, fun q => ?_⟩
      rw [h2 q, List.mem_cons]
      constructor
      · rintro (h | h)
        · exact .inl (.inr h)
        · exact .inr h
      · rintro ((h | h) | h)
        · rw [h]; exact .inr (hasH_get hh)
        · exact .inl h
        · exact .inr h
    · split at hk
      · exact hk.elim
      · rename_i o ho
        obtain ⟨up', hk, h1, h2⟩ := gatU_wp (up := (r, o) :: up) hk (fun q p e => by
          rw [get_cons] at e
          by_cases hq : r = q
          · rw [if_pos hq] at e; injection e with e; subst e; rw [← hq]; exact ho
          · rw [if_neg hq] at e; exact hu q p e)
        refine ⟨up', hk, h1, fun q => ?_⟩
        rw [h2 q, List.mem_cons, get_cons]
        by_cases hq : r = q
        · rw [if_pos hq]; simp [hq]
        · rw [if_neg hq]
          constructor
          · rintro (h | h)
            · exact .inl (.inr h)
            · exact .inr h
          · rintro ((h | h) | h)
            · exact absurd h.symm hq
            · exact .inl h
            · exact .inr h
theorem gatN_wp {t : Tr AO} : ∀ {n r : Nat} {k : Heap → RE}, (gatN t r n k).wp sl0 hp0 Φ → ∃ nw, (k nw).wp sl0 hp0 Φ ∧ (∀ q o, get nw q = some o → Tr.at dO t q = some o) ∧ ∀ q, (get nw q).isSome = true ↔ (r ≤ q ∧ q < r + n)
  | 0, r, k, hk => ⟨[], hk, fun q o e => by (cases e), fun q => ⟨fun h => (by cases h), fun h => by omega⟩⟩
  | n + 1, r, k, hk => by
    unfold gatN at hk
    split at hk
    · exact hk.elim
    · rename_i o ho
      rw [frN_eq] at hk
      obtain ⟨nw, hk, h1, h2⟩ := gatN_wp hk
      refine ⟨(r, o) :: nw, hk, fun q p e => ?_, fun q => ?_⟩
      · rw [get_cons] at e
        by_cases hq : r = q
        · rw [if_pos hq] at e; injection e with e; subst e; rw [← hq]; exact ho
        · rw [if_neg hq] at e; exact h1 q p e
      · rw [get_cons]
        by_cases hq : r = q
        · rw [if_pos hq]; simp; omega
        · rw [if_neg hq, h2 q]; omega
end
theorem body_ok {P : Program} {E : Env} {g : Nat} {fn : Func} {c : Code} {fuel : Nat} (T : TyOk P E.tt) (F : FnsOk P E) (hm : P.follows .mixedOrders = true) (is : FnIs P g) (hf : P.funcs[g]? = some fn) (hb : fn.body = some c) (hn : E.nt = fn.ntmps) : SummOk P g (fun args fr => bodyX E fuel c fn.results.toList args fr) := by
    intro G N μ I sl hp a w args vals fr dst K S hr hk
    refine .inl ⟨is, ?_⟩
    unfold bodyX at hk
    obtain ⟨ts, hk, hts⟩ := argX_wp hk
    let G' : Ctx := ⟨G.w0, G.I0, G.B0, G.pin, (sl, a) :: G.fr⟩
    have toG : ∀ {μ I h w}, HSim G μ I h w → HSim G' μ I h w := fun H => ⟨H.objs, H.inj, H.own, H.imm, ⟨H.base.os, H.base.tape, H.base.output, H.base.size, H.base.block⟩, H.pin, H.keep⟩
    have ofG : ∀ {μ I h w}, HSim G' μ I h w → HSim G μ I h w := fun H => ⟨H.objs, H.inj, H.own, H.imm, ⟨H.base.os, H.base.tape, H.base.output, H.base.size, H.base.block⟩, H.pin, H.keep⟩
    refine calls_of_wp hf hb ?_
    have S' : Sim G' E.nt μ I (argSlots args 0) hp { tmps := vals.toArray ++ Array.replicate (fn.ntmps - vals.toArray.size) undef, defers := [] } w := by
      refine ⟨fun n v e => ?_, toG S.heap, ?_, rfl, fun x hx => ?_⟩
      · obtain ⟨u, _, hu, hv⟩ := argSlots_get hr e
        rw [Nat.sub_zero] at hu
        have hlt : n < vals.toArray.size := by have := (List.getElem?_eq_some_iff.1 hu).1; simpa using this
        exact ⟨u, by rw [Array.getElem?_append_left hlt]; simpa using hu, hv⟩
      · simp only [Array.size_append, Array.size_replicate]; omega
      · rcases List.mem_cons.1 hx with rfl | hx
        · exact S.slots
        · exact S.frames x hx
    have A : Ag hp (.mk ts .nil [] fr fr (dOf E.nt)) (argSlots args 0) hp := by
      refine ⟨fun n v e => ?_, fun r o e => by (rw [show Tr.at dO Tr.nil r = none from Tr.at_nil _ _] at e; cases e), fun _ _ => rfl, fun _ _ _ => rfl, Nat.le_refl _⟩
      rcases hts n v e with h | ⟨h, _⟩ | ⟨h, _⟩
      · exact h
      · rw [Tr.at_nil] at h; cases h
      · rw [Tr.at_nil] at h; cases h
    refine Code.wp_mono (fun x a' w' q => ?_) (execX_sound (b0 := fr) T F hm c S' A rfl hk)
    obtain ⟨e, st, μ', I', s', h', rfl, S1, A1, hb1, hk1⟩ := q
    have fin : ((resR E fn.results.toList).ip st fun vs st => (pack vs).fr false fun v => match st with
      | .mk _ t u _ f _ => gatU t u [] fun up => gatN t fr (Nat.sub f fr) fun nw => .pure (.mk v up nw)).wp sl hp (Then G N sl a dst K hp) → a'.defers = [] ∧ ∃ v, (results fn a'.tmps).run P w' = .ok v w' ∧ ∃ u, Ending.returned v = .returned u ∧ K (a.put dst u) w' := by
      intro hk2
      obtain ⟨vs, R, st2, hr2, A2, hk2, _, b2⟩ := ip_runs hk2 A1
      obtain ⟨vs', us, hvs, hrs, hrun⟩ := resR_run T S1 (hr2.wp (Q := fun q => q = vs) rfl)
      subst hvs
      obtain ⟨u, hu, hv⟩ := results_run hrs hrun
      rw [AV.fr_eq] at hk2
      obtain ⟨s2, t, ul, b, f, dd⟩ := st2
      have hbfr : b = fr := b2.trans hb1
      subst hbfr
      simp only at hk2
      obtain ⟨up, hk2, u1, u2⟩ := gatU_wp hk2 (fun r o e => by (cases e))
      obtain ⟨nw, hk2, n1, n2⟩ := gatN_wp hk2
      have hT : Then G N sl a dst K hp (.mk (pack vs') up nw) := hk2
      have hT : addNew nw (setOld up hp) _ := hT
      have hK := addNew_iff hT
      have hget := putNew_or' hT
      refine ⟨S1.defers, u, hu, u, rfl, ?_⟩
      have hbf : b ≤ f := A2.bf
      have look1 : ∀ r, get (putNew nw (setOld up hp)) r = get h' r := fun r => by
        rw [hget r, setOld_get' up hp r]
        cases en : get nw r with
        | some o => exact (A2.objs r o (n1 r o en)).symm
        | none =>
          cases eu : get up r with
          | some o => exact (A2.objs r o (u1 r o eu)).symm
          | none =>
            have h1 : ¬ (b ≤ r ∧ r < b + Nat.sub f b) := fun hc => by have := (n2 r).2 hc; rw [en] at this; cases this
            have h2 : r ∉ ul := fun hc => by have := (u2 r).2 (.inl hc); rw [eu] at this; cases this
            have hsub : Nat.sub f b = f - b := rfl
            exact (A2.trk r h2 (by show r < b ∨ f ≤ r; omega)).symm
      have hle : HeapLe h' μ' (putNew nw (setOld up hp)) μ' := ⟨fun r o ho => ⟨o, by rw [look1]; exact ho, .inr ⟨.refl _, rfl⟩⟩⟩
      have S2 : Sim G N μ' I' sl h' a w' := ⟨S1.frames (sl, a) (List.mem_cons_self ..), ofG S1.heap, S.size, S.defers, fun x hx => S1.frames x (List.mem_cons_of_mem _ hx)⟩
      refine hK _ _ _ _ (S2.congr fun l => ?_) (AV.rep_mono hle (fun _ _ => rfl) (fun _ h => h) _ _ hv)
      cases l with
      | s n => rfl
      | o r => simp only [look]; rw [look1]
    cases e with
    | nrm => exact fin hk1
    | ret => exact fin hk1
    | ext id => exact hk1.elim
/-- Functions that are known, and those whose texts are worked out. -/
theorem sumX_ok {P : Program} {tt : Nat → Option TyD} {ext : Nat → Option Summ} {tab : Nat → Option Func} {fuel : Nat} (T : TyOk P tt) (hm : P.follows .mixedOrders = true) (hext : ∀ g s, ext g = some s → SummOk P g s) (htab : ∀ g fn, tab g = some fn → P.funcs[g]? = some fn ∧ (fn.name == "runtime.NumGoroutine") = false) :
    ∀ (n g : Nat) (s : Summ), sumX tt ext tab fuel n g = some s → SummOk P g s
  | 0, g, s, h => by cases h
  | n + 1, g, s, h => by
    unfold sumX at h
    cases he : ext g with
    | some s' => rw [he] at h; injection h with h; subst h; exact hext g s' he
    | none =>
      rw [he] at h
      simp only at h
      cases ht : tab g with
      | none => rw [ht] at h; cases h
      | some fn =>
        rw [ht] at h
        simp only at h
        cases hb : fn.body with
        | none => rw [hb] at h; cases h
        | some c =>
          rw [hb] at h
          injection h with h
          subst h
          exact body_ok (E := ⟨tt, sumX tt ext tab fuel n, [], fn.ntmps, true⟩) T (fun g' s' h' => sumX_ok T hm hext htab n g' s' h') hm ⟨fn, (htab g fn ht).1, (htab g fn ht).2, by rw [hb]; rfl⟩ (htab g fn ht).1 hb rfl
/-- A reading that is done. -/
theorem run_wp {α : Type} {obs : Tr AO} {sl : Slots} {hp : Heap} (ho : ∀ r o, Tr.at dO obs r = some o → get hp r = some o) (hno : ∀ r, Tr.at dO obs r = none → get hp r = none) {Q : α → Prop} : ∀ {m : RM α} {a : α}, m.run obs = some a → Q a → m.wp sl hp Q := by
  intro m
  induction m with
  | pure b => intro a e hq; injection e with e; subst e; exact hq
  | fail n => intro a e; cases e
  | slot n f ih => intro a e; cases e
  | obj r f ih =>
    intro a e hq
    simp only [RM.run] at e
    cases e2 : Tr.at dO obs r with
    | none => rw [e2] at e; cases e
    | some o => rw [e2] at e; simp only [RM.wp, ho r o e2]; exact ih o e hq
  | new r f ih =>
    intro a e hq
    simp only [RM.run] at e
    cases e2 : Tr.at dO obs r with
    | some o => rw [e2] at e; cases e
    | none => rw [e2] at e; simp only [RM.wp, hno r e2]; exact ih e hq
  | chkT p b hb f ih =>
    intro a e hq
    simp only [RM.run] at e
    cases b with
    | false => cases e
    | true => exact ⟨hb rfl, ih e hq⟩
  | br b x y i1 i2 =>
    intro a e hq
    simp only [RM.run] at e
    cases b with
    | true => exact ⟨fun _ => i1 e hq, fun h => by cases h⟩
    | false => exact ⟨fun h => (by cases h), fun _ => i2 e hq⟩
  | ex f ih => intro a e; cases e
end Go.XM
