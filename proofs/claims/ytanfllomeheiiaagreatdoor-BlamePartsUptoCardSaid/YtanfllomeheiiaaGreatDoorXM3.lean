/- The abstract machine's operations are the model's: first part. -/
import Derived.Test.YtanfllomeheiiaaGreatDoorXM2
import Derived.Laws.Tables
import Derived.Deep.AppendSrc
import Derived.Deep.DeepAppendWide
set_option linter.unusedVariables false
set_option linter.unusedSimpArgs false
namespace Go.XM
open RM
/-! ### types -/
def aggD : Option TypeDesc → Bool
  | some (.struct _) => true
  | some (.array _ _) => true
  | _ => false
def fieldD (P : Program) (f : Field) : Option (Nat × Nat × Bool) := match P.info? f.type, P.underlying f.type with
  | some i, some u => some (f.offset, i.size, aggD (some u))
  | _, _ => none
def allSome {α : Type} : List (Option α) → Option (List α)
  | [] => some []
  | none :: _ => none
  | some x :: l => (allSome l).map (x :: ·)
theorem allSome_is {α : Type} : ∀ {l : List (Option α)} {r : List α}, allSome l = some r → l = r.map some
  | [], r, h => by injection h with h; subst h; rfl
  | none :: _, r, h => by exact absurd h (by simp [allSome])
  | some x :: l, r, h => by
    simp only [allSome, Option.map_eq_some_iff] at h
    obtain ⟨q, hq, rfl⟩ := h
    rw [allSome_is hq]; rfl
def kOf (P : Program) : TypeDesc → Option TyK
  | .struct fs => (allSome (fs.toList.map (fieldD P))).map .struct
  | .array n e => some (.arr n e)
  | .slice e => some (.slice e)
  | .map k e => some (.map k e)
  | .string => some .str
  | .named _ _ => none
  | .int k => some (.int k)
  | .pointer _ => some .ptr
  | .func _ _ _ => some .func
  | _ => some .atom
def kGood (P : Program) : TyK → TypeDesc → Prop
  | .struct fo, u => ∃ fs, u = .struct fs ∧ fs.toList.map (fieldD P) = fo.map some
  | .arr n e, u => u = .array n e
  | .slice e, u => u = .slice e
  | .map k e, u => u = .map k e
  | .str, u => u = .string
  | .ptr, u => ∃ e, u = .pointer e
  | .func, u => ∃ p r v, u = .func p r v
  | .atom, u => aggD (some u) = false
  | .int k, u => u = .int k
theorem kOf_good {P : Program} {u : TypeDesc} {k : TyK} (h : kOf P u = some k) : kGood P k u ∧ aggD (some u) = k.agg := by
  cases u <;> simp only [kOf, Option.some.injEq, Option.map_eq_some_iff, reduceCtorEq] at h
  case struct fs =>
    obtain ⟨fo, hf, rfl⟩ := h
    exact ⟨⟨fs, rfl, allSome_is hf⟩, rfl⟩
  all_goals (subst h; first | exact ⟨rfl, rfl⟩ | exact ⟨⟨_, rfl⟩, rfl⟩ | exact ⟨⟨_, _, _, rfl⟩, rfl⟩)
/-- An atom's kind. -/
def atK (P : Program) (t : Nat) : Option Nat := match P.underlying t with
  | some (.int _) => some 0
  | some .bool => some 1
  | some .string => some 2
  | _ => none
def flatFs (P : Program) : Nat → List Field → Option (List Nat)
  | _, [] => some []
  | i, f :: fs => match f.name != "_" && Nat.beq f.offset i, atK P f.type, flatFs P (i + 1) fs with
    | true, some k, some ks => some (k :: ks)
    | _, _, _ => none
/-- What is compared: an atom of a kind, or a struct of atoms. -/
def eqsOf (P : Program) (t : Nat) : TypeDesc → List Nat
  | .int _ => [0]
  | .bool => [1]
  | .string => [2]
  | .struct fs => match flatFs P 0 fs.toList with
    | some ks => match P.stoodInHeld t || P.eqGuardType P.depth t with
      | false => ks
      | true => []
    | none => []
  | _ => []
def aggV : Value → Bool
  | .agg _ => true
  | _ => false
/-- A type, as the abstract machine knows it. -/
def tyOf (P : Program) (t : Nat) : Option TyD := match P.info? t, P.underlying t with
  | some i, some u => match i.zero with
    | some z => match Nat.beq z.cells.toList.length i.size && z.cells.toList.all Value.one with
      | true => match kOf P u with
        | some k => match aggV z == k.agg with
          | true => some ⟨k, i.size, z.cells.toList, i.bytes, eqsOf P t u⟩
          | false => none
        | none => none
      | false => none
    | none => none
  | _, _ => none
structure TyGood (P : Program) (t : Nat) (d : TyD) where
  i : TypeInfo
  z : Value
  u : TypeDesc
  info : P.info? t = some i
  size : i.size = d.size
  bytes : i.bytes = d.bytes
  zero : i.zero = some z
  cells : z.cells.toList = d.zero
  und : P.underlying t = some u
  k : kGood P d.k u
  agg : aggD (some u) = d.k.agg
  len : d.zero.length = d.size
  one : ∀ v ∈ d.zero, Value.one v = true
  eqs : d.eqs = eqsOf P t u
  zagg : aggV z = d.k.agg
theorem tyOf_good {P : Program} {t : Nat} {d : TyD} (h : tyOf P t = some d) : Nonempty (TyGood P t d) := by
  unfold tyOf at h
  cases hi : P.info? t with
  | none => rw [hi] at h; cases h
  | some i =>
    cases hu : P.underlying t with
    | none => rw [hi, hu] at h; cases h
    | some u =>
      rw [hi, hu] at h
      simp only at h
      cases hz : i.zero with
      | none => rw [hz] at h; cases h
      | some z =>
        rw [hz] at h
        simp only at h
        split at h
        · rename_i hb
          rw [Bool.and_eq_true] at hb
          split at h
          · rename_i k hk
            split at h
            · rename_i ha
              injection h with h
              subst h
              have ha : aggV z = k.agg := by simpa using ha
              have hg := kOf_good hk
              exact ⟨⟨i, z, u, hi, rfl, rfl, hz, rfl, hu, hg.1, hg.2, Nat.eq_of_beq_eq_true hb.1, fun v hv => List.all_eq_true.1 hb.2 v hv, rfl, ha⟩⟩
            · cases h
          · cases h
        · cases h
def TyOk (P : Program) (tt : Nat → Option TyD) : Prop := ∀ t d, tt t = some d → tyOf P t = some d
theorem tyOk_of {P : Program} : ∀ {tt : List (Nat × TyD)}, tt.map (fun x => tyOf P x.1) = tt.map (fun x => some x.2) → TyOk P (get tt)
  | [], _, t, d, h => by cases h
  | (m, b) :: l, e, t, d, h => by
    simp only [List.map_cons, List.cons.injEq] at e
    rw [get_cons] at h
    by_cases hm : m = t
    · rw [if_pos hm] at h; injection h with h; subst hm; subst h; exact e.1
    · rw [if_neg hm] at h; exact tyOk_of e.2 t d h
theorem TyOk.good {P : Program} {tt : Nat → Option TyD} (h : TyOk P tt) {t : Nat} {d : TyD} (e : tt t = some d) : Nonempty (TyGood P t d) := tyOf_good (h t d e)
theorem TyGood.isAgg {P : Program} {t : Nat} {d : TyD} (g : TyGood P t d) (w : World) : (isAgg t).run P w = .ok d.k.agg w := by
  rw [← g.agg]
  unfold Go.isAgg
  rw [Sem.run_bind, run_underlying g.und]
  cases g.u <;> rfl
theorem TyGood.sizeOf {P : Program} {t : Nat} {d : TyD} (g : TyGood P t d) (w : World) : (sizeOf t).run P w = .ok d.size w := by
  simp [Go.sizeOf, typeInfo, g.info, g.size]
theorem TyGood.zeroValue {P : Program} {t : Nat} {d : TyD} (g : TyGood P t d) (w : World) : (zeroValue t).run P w = .ok g.z w := by
  simp [Go.zeroValue, typeInfo, g.info, g.zero]
theorem TyGood.field {P : Program} {t : Nat} {d : TyD} (g : TyGood P t d) {fo : List (Nat × Nat × Bool)} {f : Nat} {x : Nat × Nat × Bool} (hk : d.k = .struct fo) (hx : fo[f]? = some x) : ∃ fs fl i u, P.underlying t = some (.struct fs) ∧ fs[f]? = some fl ∧ P.info? fl.type = some i ∧ P.underlying fl.type = some u ∧ x = (fl.offset, i.size, aggD (some u)) := by
  have h := g.k
  rw [hk] at h
  obtain ⟨fs, hu, hf⟩ := h
  have e : (fs.toList.map (fieldD P))[f]? = some (some x) := by rw [hf, List.getElem?_map, hx]; rfl
  rw [List.getElem?_map, Option.map_eq_some_iff] at e
  obtain ⟨fl, hfl, e⟩ := e
  unfold fieldD at e
  split at e
  · rename_i i u hi hu2
    injection e with e
    exact ⟨fs, fl, i, u, by rw [g.und, hu], by simpa using hfl, hi, hu2, e.symm⟩
  · cases e
/-! ### the reader -/
section
variable {α β : Type} {sl : Slots} {hp : Heap}
theorem wp_bind (m : RM α) (f : α → RM β) (Q : β → Prop) : (m.bind f).wp sl hp Q = m.wp sl hp fun a => (f a).wp sl hp Q := by
  induction m with
  | pure a => rfl
  | fail n => rfl
  | slot n k ih => simp only [RM.bind, RM.wp]; cases get sl n <;> simp [ih]
  | obj n k ih => simp only [RM.bind, RM.wp]; cases get hp n <;> simp [ih]
  | new n k ih => simp only [RM.bind, RM.wp]; cases get hp n <;> simp [ih]
  | chkT p b hb k ih => simp only [RM.bind, RM.wp, ih]
  | br b t e i1 i2 => simp only [RM.bind, RM.wp, i1, i2]
  | ex k ih => simp only [RM.bind, RM.wp, ih]
theorem wp_mono {m : RM α} {Q Q' : α → Prop} (hq : ∀ a, Q a → Q' a) (h : m.wp sl hp Q) : m.wp sl hp Q' := by
  induction m with
  | pure a => exact hq _ h
  | fail n => exact h
  | slot n k ih => simp only [RM.wp] at h ⊢; cases e : get sl n with
    | none => rw [e] at h; exact h
    | some v => rw [e] at h; exact ih _ h
  | obj n k ih => simp only [RM.wp] at h ⊢; cases e : get hp n with
    | none => rw [e] at h; exact h
    | some v => rw [e] at h; exact ih _ h
  | new n k ih => simp only [RM.wp] at h ⊢; cases e : get hp n with
    | none => rw [e] at h; exact ih h
    | some v => rw [e] at h; exact h
  | chkT p b hb k ih => exact ⟨h.l, ih h.r⟩
  | br b t e i1 i2 => exact ⟨fun hb => i1 (h.t hb), fun hb => i2 (h.f hb)⟩
  | ex k ih => obtain ⟨x, h⟩ := h; exact ⟨x, ih x h⟩
theorem need_wp {b : Bool} {m : RM α} {Q : α → Prop} (h : (need b m).wp sl hp Q) : b = true ∧ m.wp sl hp Q := by
  cases b with
  | true => exact ⟨rfl, h⟩
  | false => exact h.elim
theorem obj_wp {r : Nat} {k : AO → RM α} {Q : α → Prop} (h : (RM.obj r k).wp sl hp Q) : ∃ o, get hp r = some o ∧ (k o).wp sl hp Q := by
  simp only [RM.wp] at h
  cases e : get hp r with
  | none => rw [e] at h; exact h.elim
  | some o => rw [e] at h; exact ⟨o, rfl, h⟩
theorem slot_wp {r : Nat} {k : AV → RM α} {Q : α → Prop} (h : (RM.slot r k).wp sl hp Q) : ∃ o, get sl r = some o ∧ (k o).wp sl hp Q := by
  simp only [RM.wp] at h
  cases e : get sl r with
  | none => rw [e] at h; exact h.elim
  | some o => rw [e] at h; exact ⟨o, rfl, h⟩
theorem ty_wp {E : Env} {t : Nat} {Q : TyD → Prop} (h : (ty E t).wp sl hp Q) : ∃ d, E.tt t = some d ∧ Q d := by
  unfold ty at h
  cases e : E.tt t with
  | none => rw [e] at h; exact h.elim
  | some d => rw [e] at h; exact ⟨d, rfl, h⟩
theorem elemOf_wp {E : Env} {t : Nat} {Q : Nat → Prop} (h : (elemOf E t).wp sl hp Q) : ∃ d e, E.tt t = some d ∧ (d.k = .slice e ∨ ∃ n, d.k = .arr n e) ∧ Q e := by
  unfold elemOf at h
  rw [wp_bind] at h
  obtain ⟨d, hd, h⟩ := ty_wp h
  cases hk : d.k <;> rw [hk] at h <;> first | exact h.elim | exact ⟨d, _, hd, .inl hk, h⟩ | exact ⟨d, _, hd, .inr ⟨_, hk⟩, h⟩
theorem elemS_wp {E : Env} {t : Nat} {Q : Nat → Prop} (h : (elemS E t).wp sl hp Q) : ∃ d e, E.tt t = some d ∧ d.k = .slice e ∧ Q e := by
  unfold elemS at h
  rw [wp_bind] at h
  obtain ⟨d, hd, h⟩ := ty_wp h
  cases hk : d.k <;> rw [hk] at h <;> first | exact h.elim | exact ⟨d, _, hd, hk, h⟩
theorem fieldOf_wp {E : Env} {t f : Nat} {Q : Nat × Nat × Bool → Prop} (h : (fieldOf E t f).wp sl hp Q) : ∃ d fo x, E.tt t = some d ∧ d.k = .struct fo ∧ fo[f]? = some x ∧ Q x := by
  unfold fieldOf at h
  rw [wp_bind] at h
  obtain ⟨d, hd, h⟩ := ty_wp h
  cases hk : d.k <;> rw [hk] at h
  case struct fo =>
    simp only at h
    cases hf : fo[f]? with
    | none => rw [hf] at h; exact h.elim
    | some x => rw [hf] at h; exact ⟨d, fo, x, hd, hk, hf, h⟩
  all_goals exact h.elim
theorem asI_wp {v : AV} {Q : IntKind × Int → Prop} (h : (asI v).wp sl hp Q) : ∃ k n, v = av (.int k n) ∧ Q (k, n) := by
  unfold asI at h
  split at h
  · exact ⟨_, _, rfl, h⟩
  · exact h.elim
theorem asB_wp {v : AV} {Q : Bool → Prop} (h : (asB v).wp sl hp Q) : ∃ b, v = av (.bool b) ∧ Q b := by
  unfold asB at h
  split at h
  · exact ⟨_, rfl, h⟩
  · exact h.elim
theorem inBound_wp {v : AV} {n : Nat} {Q : Nat → Prop} (h : (inBound v n).wp sl hp Q) : ∃ k i, v = av (.int k i) ∧ 0 ≤ i ∧ i < n ∧ Q i.toNat := by
  unfold inBound at h
  rw [wp_bind] at h
  obtain ⟨k, i, e, h⟩ := asI_wp h
  exact ⟨k, i, e, h.l.1, h.l.2, h.r⟩
end
section
variable {μ : Mu} {w : World} {I : Nat → Prop} {hp : Heap} {sl : Slots} {a : Act}
theorem reps_atoms : ∀ (l : List Value), AV.reps μ w I hp (l.map av) l
  | [] => trivial
  | v :: l => ⟨by rw [AV.rep, D.rep], reps_atoms l⟩
theorem opd_wp {x : Operand} {Q : AV → Prop} (hs : SlotsRep μ w I hp sl a) (h : (opd x).wp sl hp Q) : ∃ v, Q v ∧ v.rep μ w I hp (a.eval x) := by
  cases x with
  | tmp t =>
    obtain ⟨v, e, h⟩ := slot_wp h
    obtain ⟨u, hu, hr⟩ := hs t v e
    refine ⟨v, h, ?_⟩
    have : a.eval (.tmp t) = u := by simp [Act.eval, Array.getD_eq_getD_getElem?, hu]
    rw [this]; exact hr
  | const c =>
    cases c <;> first
      | exact ⟨_, h, by rw [AV.rep, D.rep]; rfl⟩
      | exact ⟨_, h, by rw [AV.rep]; exact ⟨_, rfl, reps_atoms _⟩⟩
  | global g => exact ⟨_, h, by rw [AV.rep, D.rep]; rfl⟩
  | func f => exact ⟨_, h, by rw [AV.rep]; exact ⟨#[], #[], rfl, trivial, trivial⟩⟩
theorem opds_wp {Q : List AV → Prop} (hs : SlotsRep μ w I hp sl a) : ∀ {xs : List Operand} {Q : List AV → Prop}, (opds xs).wp sl hp Q → ∃ vs, Q vs ∧ AV.reps μ w I hp vs (xs.map a.eval)
  | [], Q, h => ⟨[], h, trivial⟩
  | x :: xs, Q, h => by
    unfold opds at h
    rw [wp_bind] at h
    obtain ⟨v, h, hv⟩ := opd_wp hs h
    rw [wp_bind] at h
    obtain ⟨vs, h, hvs⟩ := opds_wp (Q := fun vs => Q (v :: vs)) hs h
    exact ⟨v :: vs, h, hv, hvs⟩
theorem reps_get : ∀ {xs : List AV} {vs : List Value} {i : Nat} {x : AV}, AV.reps μ w I hp xs vs → xs[i]? = some x → ∃ v, vs[i]? = some v ∧ x.rep μ w I hp v
  | x :: xs, v :: vs, 0, y, h, e => by simp at e; subst e; exact ⟨v, by simp, h.1⟩
  | x :: xs, v :: vs, i + 1, y, h, e => by simp at e; obtain ⟨u, hu, hr⟩ := reps_get h.2 e; exact ⟨u, by simpa using hu, hr⟩
  | [], _, _, _, _, e => by simp at e
  | _ :: _, [], _, _, h, _ => h.elim
theorem reps_drop : ∀ {xs : List AV} {vs : List Value} (n : Nat), AV.reps μ w I hp xs vs → AV.reps μ w I hp (xs.drop n) (vs.drop n)
  | xs, vs, 0, h => h
  | [], [], _ + 1, _ => trivial
  | x :: xs, v :: vs, n + 1, h => reps_drop n h.2
  | [], _ :: _, _ + 1, h => h.elim
  | _ :: _, [], _ + 1, h => h.elim
theorem reps_take : ∀ {xs : List AV} {vs : List Value} (n : Nat), AV.reps μ w I hp xs vs → AV.reps μ w I hp (xs.take n) (vs.take n)
  | xs, vs, 0, h => trivial
  | [], [], _ + 1, _ => trivial
  | x :: xs, v :: vs, n + 1, h => ⟨h.1, reps_take n h.2⟩
  | [], _ :: _, _ + 1, h => h.elim
  | _ :: _, [], _ + 1, h => h.elim
theorem reps_app : ∀ {xs ys : List AV} {vs us : List Value}, AV.reps μ w I hp xs vs → AV.reps μ w I hp ys us → AV.reps μ w I hp (xs ++ ys) (vs ++ us)
  | [], ys, [], us, _, h => h
  | x :: xs, ys, v :: vs, us, h, h' => ⟨h.1, reps_app h.2 h'⟩
  | [], _, _ :: _, _, h, _ => h.elim
  | _ :: _, _, [], _, h, _ => h.elim
theorem reps_set : ∀ {xs : List AV} {vs : List Value} {i : Nat} {x : AV} {v : Value}, AV.reps μ w I hp xs vs → x.rep μ w I hp v → AV.reps μ w I hp (xs.set i x) (vs.set i v)
  | x :: xs, v :: vs, 0, y, u, h, e => ⟨e, h.2⟩
  | x :: xs, v :: vs, i + 1, y, u, h, e => ⟨h.1, reps_set h.2 e⟩
  | [], [], _, _, _, _, _ => trivial
  | [], _ :: _, _, _, _, h, _ => h.elim
  | _ :: _, [], _, _, _, h, _ => h.elim
theorem reps_put : ∀ {ys : List AV} {us : List Value} {xs : List AV} {vs : List Value} {i : Nat}, AV.reps μ w I hp xs vs → AV.reps μ w I hp ys us → AV.reps μ w I hp (putL xs i ys) (putL vs i us)
  | [], [], xs, vs, i, h, _ => h
  | y :: ys, u :: us, xs, vs, i, h, h' => reps_put (xs := xs.set i y) (vs := vs.set i u) (reps_set h h'.1) h'.2
  | [], _ :: _, _, _, _, _, h => h.elim
  | _ :: _, [], _, _, _, _, h => h.elim
/-- A value's cells. -/
theorem rep_cells {v : AV} {u : Value} (h : v.rep μ w I hp u) (ho : oks v.cells = true) : AV.reps μ w I hp v.cells u.cells.toList ∧ ∀ x ∈ u.cells.toList, x.oneCell' = true := by
  have one : ∀ {x : AV} {v : Value}, x.rep μ w I hp v → x.ok = true → v.oneCell' = true := by
    intro x v hr hx
    cases x with
    | d x =>
      rw [AV.rep] at hr
      cases x with
      | a x => rw [D.rep] at hr; subst hr; cases v <;> first | rfl | (simp [AV.ok, D.ok, Value.one] at hx)
      | vs x n k c => rw [D.rep] at hr; obtain ⟨A, cap, e, _⟩ := hr; subst e; rfl
    | rs => rw [AV.rep] at hr; obtain ⟨A, cap, e, _⟩ := hr; subst e; rfl
    | pc => rw [AV.rep] at hr; obtain ⟨A, e, _⟩ := hr; subst e; rfl
    | pr => rw [AV.rep] at hr; obtain ⟨A, e, _⟩ := hr; subst e; rfl
    | pv => rw [AV.rep] at hr; obtain ⟨b, o, e, _⟩ := hr; subst e; rfl
    | mp => rw [AV.rep] at hr; obtain ⟨b, e, _⟩ := hr; subst e; rfl
    | ra => rw [AV.rep] at hr; obtain ⟨A, cap, e, _⟩ := hr; subst e; rfl
    | pa => rw [AV.rep] at hr; obtain ⟨A, e, _⟩ := hr; subst e; rfl
    | it => rw [AV.rep] at hr; obtain ⟨b, e, _⟩ := hr; subst e; rfl
    | fn => rw [AV.rep] at hr; obtain ⟨b, c, e, _⟩ := hr; subst e; rfl
    | agg => simp [AV.ok] at hx
    | tup => simp [AV.ok] at hx
    | any => simp [AV.ok] at hx
  have all : ∀ {xs : List AV} {vs : List Value}, AV.reps μ w I hp xs vs → oks xs = true → ∀ x ∈ vs, x.oneCell' = true := by
    intro xs
    induction xs with
    | nil => intro vs h _ x hx; cases vs with
      | nil => cases hx
      | cons => exact h.elim
    | cons y ys ih =>
      intro vs h ho x hx
      cases vs with
      | nil => cases hx
      | cons v vs =>
        unfold oks at ho
        split at ho
        · rename_i hy
          rcases List.mem_cons.1 hx with rfl | hx
          · exact one h.1 hy
          · exact ih h.2 ho x hx
        · cases ho
  cases v with
  | agg cs =>
    rw [AV.rep] at h
    obtain ⟨a, rfl, h⟩ := h
    exact ⟨h, all h ho⟩
  | _ =>
    have hx : u.oneCell' = true := all (xs := [_]) (vs := [u]) ⟨h, trivial⟩ ho u (by simp)
    have hu : u.cells = #[u] := by cases u <;> first | rfl | cases hx
    rw [hu]
    exact ⟨⟨h, trivial⟩, fun x hx' => by simp at hx'; subst hx'; exact hx⟩
end
end Go.XM
