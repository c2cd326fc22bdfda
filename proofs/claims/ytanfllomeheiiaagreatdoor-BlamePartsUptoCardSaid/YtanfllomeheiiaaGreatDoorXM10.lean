/- The abstract machine's operations are the model's: len, append, calls. -/
import Derived.Test.YtanfllomeheiiaaGreatDoorXM9
set_option linter.unusedVariables false
set_option linter.unusedSimpArgs false
namespace Go.XM
open RM Go.RowKit
/-- A function whose body is there. -/
def FnIs (P : Program) (f : Nat) : Prop := ∃ fn, P.funcs[f]? = some fn ∧ (fn.name == "runtime.NumGoroutine") = false ∧ fn.body.isNone = false
/-- A function's call: its body's, or what the model says in its stead. -/
def CallOk (P : Program) (f : Nat) (vals : List Value) (w : World) (Q : Value → World → Prop) : Prop :=
  (FnIs P f ∧ Calls P f vals.toArray w fun e w' => ∃ u, e = .returned u ∧ Q u w') ∨ ∃ u w', (callFunc f vals.toArray).run P w = .ok (.value u) w' ∧ Q u w'
/-- What is known of a function is so. -/
def SummOk (P : Program) (f : Nat) (g : Summ) : Prop := ∀ (G : Ctx) (N : Nat) (μ : Mu) (I : Nat → Prop) (sl : Slots) (hp : Heap) (a : Act) (w : World) (args : List AV) (vals : List Value) (fr : Nat) (dst : Option Tmp) (K : Act → World → Prop),
    Sim G N μ I sl hp a w → AV.reps μ w I hp args vals → (g args fr).wp sl hp (Then G N sl a dst K hp) → CallOk P f vals w fun u w' => K (a.put dst u) w'
def FnsOk (P : Program) (E : Env) : Prop := ∀ f g, E.fs f = some g → SummOk P f g
section
variable {P : Program} {E : Env} {G : Ctx} {N : Nat} {μ : Mu} {I : Nat → Prop} {sl : Slots} {hp : Heap} {a : Act} {w : World} {K : Act → World → Prop} {Q : Exit → Act → World → Prop} {o : Oper} {d f : Nat}
theorem map_toArray (xs : Array Operand) {l : List Value} (h : xs.toList.map a.eval = l) : xs.map a.eval = l.toArray := by
  apply Array.ext'
  rw [Array.toList_map, h]
/-! ### len -/
theorem getMap {b c : Nat} {es : Array MapEntry} (hb : w.heap[b]? = some (.map es c)) : (getObj b).run P w = .ok (.map es c) w := by
  simp [getObj, Sem.run, hb]
theorem setMap {b c : Nat} {es : Array MapEntry} (ob : Obj) (hb : w.heap[b]? = some (.map es c)) : (setObj b ob).run P w = .ok () { w with heap := w.heap.setIfInBounds b ob } := by
  simp [setObj, Sem.run, hb]
theorem mapRep_len : ∀ {es : List (Value × Nat × AV)} {es' : List MapEntry}, mapRep μ w I hp es es' → es.length = es'.length
  | [], [], _ => rfl
  | _ :: es, _ :: es', h => by rw [List.length_cons, List.length_cons, mapRep_len h.2]
  | [], _ :: _, h => h.elim
  | _ :: _, [], h => h.elim
/-- A map, read. -/
theorem mp_wp {r : Nat} {es : List (Value × Nat × AV)} {c : Nat} {v : Value} (H : HSim G μ I hp w) (hv : (AV.mp r).rep μ w I hp v) (hr : get hp r = some (.map es c)) : ∃ b z es', v = .map (some b) ∧ μ r = some (b, z) ∧ w.heap[b]? = some (.map es' c) ∧ mapRep μ w I hp es es'.toList := by
  rw [AV.rep] at hv
  obtain ⟨b, rfl, o, ho, hv⟩ := hv
  rw [hr] at ho; injection ho with ho; subst ho
  obtain ⟨z, hm⟩ := hv _ _ rfl
  obtain ⟨b', z', es', hm', hh, hrep⟩ := H.objs r _ hr
  rw [hm] at hm'; injection hm' with hm'; injection hm' with e1 e2; subst e1; subst e2
  exact ⟨b, z, es', rfl, hm, hh, hrep⟩
theorem mapEs_wp {x : AV} {v : Value} {R : List (Value × Nat × AV) → Prop} (H : HSim G μ I hp w) (hv : x.rep μ w I hp v) (h : (mapEs x).wp sl hp R) : ∃ es, R es ∧ ((v = .map none ∧ es = []) ∨ ∃ b es' c, v = .map (some b) ∧ w.heap[b]? = some (.map es' c) ∧ mapRep μ w I hp es es'.toList) := by
  unfold mapEs at h
  split at h
  · exact ⟨_, h, .inl ⟨rep_a hv, rfl⟩⟩
  · obtain ⟨o, ho, h⟩ := obj_wp h
    split at h
    · rename_i es c
      obtain ⟨b, z, es', e, _, hh, hr⟩ := mp_wp H hv ho
      exact ⟨es, h, .inr ⟨b, es', c, e, hh, hr⟩⟩
    · exact h.elim
  · exact h.elim
theorem lenOf_wp {t : Nat} {td : TyD} {x : AV} {v : Value} {ty : Nat} {R : AV → Prop} (H : HSim G μ I hp w) (g : TyGood P t td) (hv : x.rep μ w I hp v) (h : (lenOf td.k x).wp sl hp R) : ∃ u, R (av u) ∧ (Builtin.len_ #[t] ty #[v]).run P w = .ok u w := by
  have hkk := g.k
  unfold lenOf at h
  cases hk : td.k with
  | str =>
    rw [hk] at h hkk
    have hund : P.underlying t = some .string := by rw [g.und, hkk]
    cases x with
    | d x =>
      cases x with
      | a val =>
        cases val with
        | string s => exact ⟨_, h, by rw [rep_a hv]; simp [Builtin.len_, run_und hund, goInt]⟩
        | _ => exact h.elim
      | vs _ _ _ _ => exact h.elim
    | _ => exact h.elim
  | slice e =>
    rw [hk] at h hkk
    have hund : P.underlying t = some (.slice e) := by rw [g.und, hkk]
    cases x with
    | d x =>
      cases x with
      | a val =>
        cases val with
        | slice A n c' =>
          cases A with
          | some _ => exact h.elim
          | none =>
            match n, c', hv, h with
            | 0, 0, hv, h => exact ⟨_, h, by rw [rep_a hv]; simp [Builtin.len_, run_und hund, goInt]⟩
            | 0, _ + 1, _, h => exact h.elim
            | _ + 1, _, _, h => exact h.elim
        | _ => exact h.elim
      | vs x n k c' =>
        rw [AV.rep, D.rep] at hv
        obtain ⟨A, cap, e, _⟩ := hv
        exact ⟨_, h, by rw [e]; simp [Builtin.len_, run_und hund, goInt]⟩
    | rs r off n =>
      rw [AV.rep] at hv
      obtain ⟨A, cap, e, _⟩ := hv
      exact ⟨_, h, by rw [e]; simp [Builtin.len_, run_und hund, goInt]⟩
    | ra r off n =>
      rw [AV.rep] at hv
      obtain ⟨A, cap, e, _⟩ := hv
      exact ⟨_, h, by rw [e]; simp [Builtin.len_, run_und hund, goInt]⟩
    | _ => exact h.elim
  | map kt et =>
    rw [hk] at h hkk
    have hund : P.underlying t = some (.map kt et) := by rw [g.und, hkk]
    have h : ((mapEs x).bind _).wp sl hp R := h
    rw [wp_bind] at h
    obtain ⟨es, h, hes⟩ := mapEs_wp H hv h
    refine ⟨_, h, ?_⟩
    rcases hes with ⟨rfl, rfl⟩ | ⟨b, es', c, rfl, hh, hr⟩
    · simp [Builtin.len_, run_und hund, goInt]
    · simp [Builtin.len_, run_und hund, goInt, getMap hh, mapRep_len hr]
  | _ => rw [hk] at h; exact h.elim
theorem reps1 {x : AV} {vs : List Value} (h : AV.reps μ w I hp [x] vs) : ∃ v, vs = [v] ∧ x.rep μ w I hp v := by
  match vs, h with
  | [v], h => exact ⟨v, rfl, h.1⟩
  | _ :: _ :: _, h => exact h.2.elim
theorem reps2 {x y : AV} {vs : List Value} (h : AV.reps μ w I hp [x, y] vs) : ∃ v u, vs = [v, u] ∧ x.rep μ w I hp v ∧ y.rep μ w I hp u := by
  match vs, h with
  | [v, u], h => exact ⟨v, u, rfl, h.1, h.2.1⟩
  | [_], h => exact h.2.elim
  | _ :: _ :: _ :: _, h => exact h.2.2.elim
theorem op_len {c : Call} (ho : o.op = .call c) (hc : c.callee = .builtin .len) (T : TyOk P E.tt) (S : Sim G N μ I sl hp a w) (h : (step E d f (.call c)).wp sl hp (Then G N sl a o.dst K hp)) : o.wp P a w K Q := by
  unfold step at h
  rw [wp_bind] at h
  obtain ⟨vs, h, hvs⟩ := opds_wp (Q := fun _ => True) S.slots h
  rw [hc] at h
  simp only at h
  cases hat : c.argTypes.toList with
  | nil => rw [hat] at h; exact h.elim
  | cons t l =>
    cases l with
    | cons _ _ => rw [hat] at h; exact h.elim
    | nil =>
      rw [hat] at h
      match vs, hvs, h with
      | [], _, h => exact h.elim
      | _ :: _ :: _, _, h => exact h.elim
      | [x], hvs, h =>
        have h : ((ty E t).bind _).wp sl hp (Then G N sl a o.dst K hp) := h
        rw [wp_bind] at h
        obtain ⟨td, ht, h⟩ := ty_wp h
        obtain ⟨g⟩ := T.good ht
        rw [wp_bind] at h
        obtain ⟨v, he, hv⟩ := reps1 hvs
        obtain ⟨u, h, hrun⟩ := lenOf_wp (P := P) (ty := o.type) S.heap g hv h
        have hat' : c.argTypes = #[t] := by apply Array.ext'; rw [hat]
        have := map_toArray c.args he
        exact upV (u := u) (w' := w) (by simp [execOp, ho, resolve, hc, invoke, builtin, hat', this, hrun]) (h μ I _ w S (a_rep _))
/-! ### append -/
/-- What is appended, cell by cell. -/
structure News (P : Program) (kk : Nat) (t' : Nat) (v : Value) (n : Nat) (c : Nat → Nat → D) (w : World) (I : Nat → Prop) (l : List Value) : Prop where
  src : Src P kk t' v n l w
  cells : ∀ i j, i < n → j < kk → ∃ u, l[i * kk + j]? = some u ∧ u.oneCell' = true ∧ (c i j).rep w I u
theorem news_of {kk t' e' : Nat} {A : Option Addr} {cap n : Nat} {c : Nat → Nat → D} (hu : P.underlying t' = some (.slice e')) (hn : 0 < n → ∃ b o, A = some ⟨b, o, none⟩ ∧ ∀ i j, i < n → j < kk → ∃ u, w.cell? ⟨b, o + (i * kk + j), none⟩ = some u ∧ u.oneCell' = true ∧ (c i j).rep w I u) :
    ∃ l, News P kk t' (.slice A n cap) n c w I l := by
  cases n with
  | zero =>
    refine ⟨[], ?_, fun i j hi => by omega⟩
    cases A with
    | none => exact Src.ofNil w hu cap
    | some b => exact Src.ofSlice w hu b 0 cap [] (by simp) (fun j u e => by simp at e) (fun u h => by simp at h)
  | succ m =>
    obtain ⟨b, o, rfl, h⟩ := hn (by omega)
    have dm : ∀ q, q < (m + 1) * kk → q / kk < m + 1 ∧ q % kk < kk ∧ q / kk * kk + q % kk = q := fun q hq => by
      have hk : 0 < kk := by cases kk with
        | zero => simp at hq
        | succ k => omega
      refine ⟨(Nat.div_lt_iff_lt_mul hk).2 hq, Nat.mod_lt _ hk, by rw [Nat.mul_comm]; exact Nat.div_add_mod q kk⟩
    obtain ⟨l, hl, hp'⟩ := exists_list (n := (m + 1) * kk) (p := fun q u => w.cell? ⟨b, o + q, none⟩ = some u ∧ u.oneCell' = true ∧ (c (q / kk) (q % kk)).rep w I u) (fun q hq => by
      obtain ⟨h1, h2, h3⟩ := dm q hq
      obtain ⟨u, hu⟩ := h (q / kk) (q % kk) h1 h2
      rw [h3] at hu
      exact ⟨u, hu⟩)
    refine ⟨l, Src.ofSlice w hu ⟨b, o, none⟩ (m + 1) cap l hl (fun j u e => by rw [add_lit0]; exact (hp' j u e).1) (fun u hu => ?_), fun i j hi hj => ?_⟩
    · obtain ⟨q, hq⟩ := List.getElem?_of_mem hu
      exact (hp' q u hq).2.1
    · have hlt : i * kk + j < l.length := by
        have : (i + 1) * kk ≤ (m + 1) * kk := Nat.mul_le_mul_right _ hi
        rw [Nat.add_mul] at this; omega
      have := hp' (i * kk + j) _ (List.getElem?_eq_getElem hlt)
      have hd := dm (i * kk + j) (by omega)
      have he := idx_eq hd.2.1 hj hd.2.2
      rw [he.1, he.2] at this
      exact ⟨_, List.getElem?_eq_getElem hlt, this.2.1, this.2.2⟩
theorem rowOf_wp {kk t' e' : Nat} {y : AV} {v : Value} {R : Nat × (Nat → Nat → D) → Prop} (H : HSim G μ I hp w) (hu : P.underlying t' = some (.slice e')) (hv : y.rep μ w I hp v) (h : (rowOf kk y).wp sl hp R) : ∃ n c l, R (n, c) ∧ News P kk t' v n c w I l := by
  unfold rowOf at h
  cases y with
  | d x =>
    cases x with
    | a val =>
      cases val with
      | slice A n c =>
        cases A with
        | some _ => exact h.elim
        | none =>
          match n, c with
          | 0, 0 =>
            have e := rep_a hv
            subst e
            obtain ⟨l, hl⟩ := news_of (P := P) (kk := kk) (A := none) (cap := 0) (n := 0) (c := fun _ _ => default) (w := w) (I := I) hu (fun h => by omega)
            exact ⟨0, _, l, h, hl⟩
          | 0, _ + 1 => exact h.elim
          | _ + 1, _ => exact h.elim
      | _ => exact h.elim
    | vs x n k c =>
      obtain ⟨hb, h9⟩ := need_wp h
      have hk := Nat.eq_of_beq_eq_true hb
      subst hk
      rw [AV.rep, D.rep] at hv
      obtain ⟨A, cap, rfl, hc, hx, hv⟩ := hv
      obtain ⟨l, hl⟩ := news_of (P := P) (kk := k) (A := A) (cap := cap) (n := n) (c := c) (w := w) (I := I) hu (fun hn => let ⟨b, o, e, _, h⟩ := hv hn; ⟨b, o, e, h⟩)
      exact ⟨n, c, l, h9, hl⟩
  | rs r off len =>
    obtain ⟨ob, e, h⟩ := obj_wp h
    cases ob with
    | row n k c =>
      obtain ⟨hb, h9⟩ := need_wp h
      have hk := Nat.eq_of_beq_eq_true hb
      subst hk
      rw [AV.rep] at hv
      obtain ⟨A, cap, rfl, hc, ob, e3, hv⟩ := hv
      rw [e] at e3; injection e3 with e3; subst e3
      obtain ⟨hn, hv⟩ := hv _ _ _ rfl
      obtain ⟨l, hl⟩ := news_of (P := P) (kk := k) (A := A) (cap := cap) (n := len) (c := fun i j => c (off + i) j) (w := w) (I := I) hu (fun hpos => by
        rcases hv with ⟨_, hv⟩ | ⟨b, z, hm, hA, hz⟩
        · omega
        · refine ⟨b, off * k, hA (by omega), fun i j hi hj => ?_⟩
          rcases H.objs r _ e with ⟨hm', hn'⟩ | ⟨b', z', vs, t'', fz, hm', hh, hf, hz', hk, hr⟩
          · omega
          · rw [hm] at hm'; injection hm' with hm'; injection hm' with e1 e2; subst e1; subst e2
            obtain ⟨u, hu, h1, hur⟩ := hr (off + i) j (by omega) hj
            refine ⟨u, ?_, h1, hur⟩
            rw [cell_of_row w b _ vs t'' fz hh, ← hu, Nat.add_mul]
            congr 1; omega)
      exact ⟨len, _, l, h9, hl⟩
    | _ => exact h.elim
  | _ => exact h.elim
theorem srcOf_wp {kk t' : Nat} {td' : TyD} {y : AV} {v : Value} {R : Nat × (Nat → Nat → D) → Prop} (H : HSim G μ I hp w) (g : TyGood P t' td') (hv : y.rep μ w I hp v) (h : (srcOf td'.k kk y).wp sl hp R) : ∃ n c l, R (n, c) ∧ News P kk t' v n c w I l := by
  have hkk := g.k
  unfold srcOf at h
  cases hk : td'.k with
  | slice e =>
    rw [hk] at h hkk
    exact rowOf_wp H (by rw [g.und, hkk]) hv h
  | str =>
    rw [hk] at h hkk
    have hund : P.underlying t' = some .string := by rw [g.und, hkk]
    cases y with
    | d x =>
      cases x with
      | a val =>
        cases val with
        | string s =>
          cases hb : Nat.beq kk 1 with
          | false => simp only [hb] at h; exact h.elim
          | true =>
            simp only [hb] at h
            have := Nat.eq_of_beq_eq_true hb
            subst this
            have e := rep_a hv
            subst e
            refine ⟨s.size, _, byteCells s, h, Src.ofString w hund s, fun i j hi hj => ?_⟩
            have hj0 : j = 0 := by omega
            subst hj0
            have hlt : i < s.data.size := hi
            refine ⟨.int .u8 (s.data.getD i 0).toNat, ?_, rfl, by rw [D.rep]⟩
            unfold byteCells
            rw [Nat.mul_one, Nat.add_zero, List.getElem?_map]
            have e2 : s.data[i]? = some s.data[i] := Array.getElem?_eq_getElem hlt
            rw [Array.getD_eq_getD_getElem?, e2]
            simp [e2]
        | _ => exact h.elim
      | vs _ _ _ _ => exact h.elim
    | _ => exact h.elim
  | _ => rw [hk] at h; exact h.elim
/-- What is appended, cells of any kind. -/
structure NewsA (P : Program) (kk : Nat) (t' : Nat) (v : Value) (n : Nat) (cs : List AV) (μ : Mu) (w : World) (I : Nat → Prop) (hp : Heap) (l : List Value) : Prop where
  src : Src P kk t' v n l w
  len : cs.length = n * kk
  reps : AV.reps μ w I hp cs l
  one : ∀ u ∈ l, u.oneCell' = true
theorem newsA_nil {kk t' e' : Nat} {A : Option Addr} {cap : Nat} (hu : P.underlying t' = some (.slice e')) : NewsA P kk t' (.slice A 0 cap) 0 [] μ w I hp [] := by
  refine ⟨?_, by simp, trivial, fun u h => by simp at h⟩
  cases A with
  | none => exact Src.ofNil w hu cap
  | some b => exact Src.ofSlice w hu b 0 cap [] (by simp) (fun j u e => by simp at e) (fun u h => by simp at h)
theorem rowA_wp {kk t' e' : Nat} {y : AV} {v : Value} {R : Nat × List AV → Prop} (H : HSim G μ I hp w) (hu : P.underlying t' = some (.slice e')) (hv : y.rep μ w I hp v) (h : (rowA kk y).wp sl hp R) : ∃ n cs l, R (n, cs) ∧ NewsA P kk t' v n cs μ w I hp l := by
  unfold rowA at h
  cases y with
  | d x =>
    cases x with
    | a val =>
      cases val with
      | slice A n c =>
        cases A with
        | some _ => exact h.elim
        | none =>
          match n, c with
          | 0, 0 =>
            have e := rep_a hv
            subst e
            exact ⟨0, _, _, h, newsA_nil hu⟩
          | 0, _ + 1 => exact h.elim
          | _ + 1, _ => exact h.elim
      | _ => exact h.elim
    | vs x n k c =>
      match x, n, hv, h with
      | true, 0, hv, h =>
        rw [AV.rep, D.rep] at hv
        obtain ⟨A, cap, rfl, _⟩ := hv
        exact ⟨0, _, _, h, newsA_nil hu⟩
      | true, _ + 1, _, h => exact h.elim
      | false, _, _, h => exact h.elim
  | ra r off len =>
    obtain ⟨ob, e, h⟩ := obj_wp h
    cases ob with
    | rowA n k cs =>
      obtain ⟨hb, h9⟩ := need_wp h
      have hk := Nat.eq_of_beq_eq_true hb
      subst hk
      rw [AV.rep] at hv
      obtain ⟨A, cap, rfl, hc, ob, e3, hv⟩ := hv
      rw [e] at e3; injection e3 with e3; subst e3
      obtain ⟨hn, hv2⟩ := hv _ _ _ rfl
      clear hv
      obtain ⟨hlen, ho⟩ := H.objs r _ e
      have hle : (off + len) * k ≤ n * k := Nat.mul_le_mul_right _ hn
      rw [Nat.add_mul] at hle
      cases len with
      | zero => exact ⟨0, _, [], h9, by rw [Nat.zero_mul, List.take_zero]; exact newsA_nil hu⟩
      | succ m =>
        rcases hv2 with ⟨_, hv2⟩ | ⟨b, z, hm, hA, hz⟩
        · omega
        rcases ho with ⟨hm', hn'⟩ | ⟨b', z', vs, t'', fz, hm', hh, hf, hz', hkz, hr, h1⟩
        · omega
        rw [hm] at hm'; injection hm' with hm'; injection hm' with e1 e2; subst e1; subst e2
        have hA := hA (by omega)
        subst hA
        have hsub : ∀ u ∈ ((vs.toList.take (n * k)).drop (off * k)).take ((m + 1) * k), u ∈ vs.toList.take (n * k) := fun u hu => List.mem_of_mem_drop (List.mem_of_mem_take hu)
        have hl : (((vs.toList.take (n * k)).drop (off * k)).take ((m + 1) * k)).length = (m + 1) * k := by
          rw [List.length_take, List.length_drop, List.length_take, Array.length_toList]; omega
        refine ⟨m + 1, _, ((vs.toList.take (n * k)).drop (off * k)).take ((m + 1) * k), h9, ⟨Src.ofSlice w hu ⟨b, off * k, none⟩ (m + 1) cap _ hl (fun j u hj => ?_) (fun u hu => h1 u (hsub u hu)), by rw [List.length_take, List.length_drop]; omega, reps_take _ (reps_drop _ hr), fun u hu => h1 u (hsub u hu)⟩⟩
        rw [add_lit0, cell_of_row w b _ vs t'' fz hh]
        rw [List.getElem?_take] at hj
        split at hj
        · rw [List.getElem?_drop, List.getElem?_take] at hj
          split at hj
          · simpa using hj
          · cases hj
        · cases hj
    | _ => exact h.elim
  | _ => exact h.elim
theorem reps_bytes : ∀ (l : List UInt8), AV.reps μ w I hp (l.map fun b => av (.int .u8 b.toNat)) (l.map fun b => .int .u8 b.toNat)
  | [] => trivial
  | b :: l => ⟨by rw [AV.rep, D.rep], reps_bytes l⟩
theorem srcA_wp {kk t' : Nat} {td' : TyD} {y : AV} {v : Value} {R : Nat × List AV → Prop} (H : HSim G μ I hp w) (g : TyGood P t' td') (hv : y.rep μ w I hp v) (h : (srcA td'.k kk y).wp sl hp R) : ∃ n cs l, R (n, cs) ∧ NewsA P kk t' v n cs μ w I hp l := by
  have hkk := g.k
  unfold srcA at h
  cases hk : td'.k with
  | slice e =>
    rw [hk] at h hkk
    exact rowA_wp H (by rw [g.und, hkk]) hv h
  | str =>
    rw [hk] at h hkk
    have hund : P.underlying t' = some .string := by rw [g.und, hkk]
    cases y with
    | d x =>
      cases x with
      | a val =>
        cases val with
        | string s =>
          cases hb : Nat.beq kk 1 with
          | false => simp only [hb] at h; exact h.elim
          | true =>
            simp only [hb] at h
            have := Nat.eq_of_beq_eq_true hb
            subst this
            have e := rep_a hv
            subst e
            refine ⟨_, _, byteCells s, h, ?_, ?_, reps_bytes _, fun u hu => ?_⟩
            · have := Src.ofString w hund s
              rw [show s.data.toList.length = s.size from Array.length_toList]; exact this
            · rw [List.length_map, Nat.mul_one]
            · obtain ⟨b, _, rfl⟩ := List.mem_map.1 hu; rfl
        | _ => exact h.elim
      | vs _ _ _ _ => exact h.elim
    | _ => exact h.elim
  | _ => rw [hk] at h; exact h.elim
/-- Nothing is appended, and there is room for it. -/
theorem run_append_none {t t' ty e kk : Nat} {i : TypeInfo} {A : Option Addr} {len cap : Nat} {v : Value} {l : List Value} (hu : P.underlying t = some (.slice e)) (hi : P.info? e = some i) (hs : i.size = kk) (hS : Src P kk t' v 0 l w) (hc : len ≤ cap) :
    (Builtin.append_ #[t, t'] ty #[.slice A len cap, v]).run P w = .ok (.slice A len cap) w := by
  subst hs
  have hl : l = [] := List.eq_nil_of_length_eq_zero (by simpa using hS.newsLen)
  subst hl
  rcases hS.kind with ⟨e', hk⟩ | hk <;> cases A <;> simp [Builtin.append_, run_und hu, run_und hk, sizeOf, typeInfo, hi, hS.len, hc, hS.cells, storeCells]
theorem fits {need cap bytes : Nat} (h : cap < need) (hb : 0 < bytes) (hb2 : bytes ≤ 65536) (hn : need * bytes ≤ 35184372088832) : Builtin.nextslicecap need cap * bytes ≤ 281474976710656 ∧ ((need : Nat) : Int) ≤ 9223372036854775807 := by
  have hle : need ≤ need * bytes := Nat.le_mul_of_pos_right _ hb
  refine ⟨growslice_fits_wide h ?_, by omega⟩
  have : (need + need / 4 + 192) * bytes = need * bytes + need / 4 * bytes + 192 * bytes := by rw [Nat.add_mul, Nat.add_mul]
  have h2 : need / 4 * bytes ≤ need * bytes := Nat.mul_le_mul_right _ (Nat.div_le_self _ _)
  omega
theorem exec_append {c : Call} {t t' : Nat} {x y : AV} (ho : o.op = .call c) (hc : c.callee = .builtin .append) (hat : c.argTypes.toList = [t, t']) {u v r : Value} {w' : World} (he : c.args.toList.map a.eval = [u, v]) (hrun : (Builtin.append_ #[t, t'] o.type #[u, v]).run P w = .ok r w') : (execOp a.eval o).run P w = .ok (.value r) w' := by
  have hat' : c.argTypes = #[t, t'] := by apply Array.ext'; rw [hat]
  have := map_toArray c.args he
  simp [execOp, ho, resolve, hc, invoke, builtin, hat', this, hrun]
theorem newRow0 {x : Bool} {k : Nat} {c : Nat → Nat → D} {dst : Nat} {A : Option Addr} (hx : x = true → True) (S : Sim G N μ I sl hp a w) (h : Then G N sl a o.dst K hp (newRow E dst f x 0 k c)) : K (a.put o.dst (.slice A 0 0)) w := by
  unfold newRow at h
  split at h
  · refine h μ I _ w S ?_
    rw [AV.rep, D.rep]
    exact ⟨A, 0, rfl, Nat.le_refl _, fun _ => rfl, fun h => by omega⟩
  · have h : (match get hp f with
      | none => _
      | some _ => False) := h
    cases hr : get hp f with
    | some q => rw [hr] at h; exact h.elim
    | none =>
      rw [hr] at h
      have H := S.heap.newV (k := k) hr c
      refine h _ _ _ w (S.next H) ?_
      rw [AV.rep]
      refine ⟨A, 0, rfl, Nat.le_refl _, _, by rw [get_cons, if_pos rfl], fun n k' c' e => ?_⟩
      injection e with e1 e2 e3
      exact ⟨by omega, .inl ⟨upd_same _ _ _, rfl⟩⟩
/-- A row made by append: the old cells, the new ones, and what else there is. -/
theorem grown_cells {kk n m : Nat} {l l' : List Value} {c c' : Nat → Nat → D} {z : Array Value} (hl : l.length = n * kk) (h1 : ∀ i j, i < n → j < kk → ∃ u, l[i * kk + j]? = some u ∧ u.oneCell' = true ∧ (c i j).rep w I u) (h2 : ∀ i j, i < m → j < kk → ∃ u, l'[i * kk + j]? = some u ∧ u.oneCell' = true ∧ (c' i j).rep w I u) :
    ∀ i j, i < n + m → j < kk → ∃ u, ((l ++ l').toArray ++ z)[i * kk + j]? = some u ∧ u.oneCell' = true ∧ (appC n c c' i j).rep w I u := by
  intro i j hi hj
  have key : ∀ {q : Nat} {u : Value}, (l ++ l')[q]? = some u → ((l ++ l').toArray ++ z)[q]? = some u := fun {q u} e => by
    have hq : q < (l ++ l').length := (List.getElem?_eq_some_iff.1 e).1
    rw [Array.getElem?_append_left (by simpa using hq)]
    simpa using e
  unfold appC
  by_cases hc : i < n
  · rw [if_pos hc]
    obtain ⟨u, hu, h⟩ := h1 i j hc hj
    refine ⟨u, key ?_, h⟩
    rw [List.getElem?_append_left (by exact (List.getElem?_eq_some_iff.1 hu).1)]; exact hu
  · rw [if_neg hc]
    obtain ⟨u, hu, h⟩ := h2 (i - n) j (by omega) hj
    refine ⟨u, key ?_, h⟩
    have : i * kk + j = l.length + ((i - n) * kk + j) := by
      rw [hl, ← Nat.add_assoc, ← Nat.add_mul]; congr 2; omega
    rw [this, List.getElem?_append_right (by omega), Nat.add_sub_cancel_left]; exact hu
end
end Go.XM
