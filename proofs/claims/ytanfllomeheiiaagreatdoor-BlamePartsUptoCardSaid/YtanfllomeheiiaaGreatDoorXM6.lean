/- The abstract machine's operations are the model's: memory. -/
import Derived.Test.YtanfllomeheiiaaGreatDoorXM5
set_option linter.unusedVariables false
set_option linter.unusedSimpArgs false
namespace Go.XM
open RM Go.RowKit
section
variable {α : Type} {sl : Slots} {hp : Heap}
theorem wrapT_wp {b : Bool} {cs : List AV} {Q : AV → Prop} (h : (wrapT b cs).wp sl hp Q) : (b = true ∧ Q (.agg cs)) ∨ (b = false ∧ ∃ v, cs = [v] ∧ Q v) := by
  unfold wrapT at h
  cases b with
  | true => exact .inl ⟨rfl, h⟩
  | false =>
    simp only at h
    split at h
    · exact .inr ⟨rfl, _, rfl, h⟩
    · exact h.elim
theorem toDs_wp : ∀ {xs : List AV} {Q : List D → Prop}, (toDs xs).wp sl hp Q → ∃ ds, xs = ds.map .d ∧ (∀ x ∈ ds, x.ok = true) ∧ Q ds
  | [], Q, h => ⟨[], rfl, fun _ h => (by cases h), h⟩
  | x :: xs, Q, h => by
    unfold toDs at h
    rw [wp_bind] at h
    cases x <;> simp only [AV.toD] at h <;> try exact h.elim
    rename_i x
    split at h
    · rename_i hx
      have h : ((toDs xs).bind fun vs => RM.pure (x :: vs)).wp sl hp Q := h
      rw [wp_bind] at h
      obtain ⟨ds, e, ho, h⟩ := toDs_wp (Q := fun vs => Q (x :: vs)) h
      exact ⟨x :: ds, by rw [e]; rfl, fun y hy => by rcases List.mem_cons.1 hy with rfl | hy; exact hx; exact ho y hy, h⟩
    · exact h.elim
end
section
variable {P : Program} {E : Env} {G : Ctx} {N : Nat} {μ : Mu} {I : Nat → Prop} {sl : Slots} {hp : Heap} {a : Act} {w : World} {K : Act → World → Prop} {Q : Exit → Act → World → Prop} {o : Oper} {d f : Nat}
theorem exists_list {p : Nat → Value → Prop} : ∀ {n : Nat}, (∀ q, q < n → ∃ u, p q u) → ∃ l : List Value, l.length = n ∧ ∀ q u, l[q]? = some u → p q u
  | 0, _ => ⟨[], rfl, fun q u h => by simp at h⟩
  | n + 1, h => by
    obtain ⟨l, hl, hp⟩ := exists_list (n := n) fun q hq => h q (by omega)
    obtain ⟨u, hu⟩ := h n (by omega)
    refine ⟨l ++ [u], by simp [hl], fun q v e => ?_⟩
    rcases Nat.lt_or_ge q n with hq | hq
    · rw [List.getElem?_append_left (by omega)] at e; exact hp q v e
    · rw [List.getElem?_append_right (by omega)] at e
      have : q - l.length = 0 := by
        rcases Nat.lt_or_ge (q - l.length) 1 with h | h
        · omega
        · rw [List.getElem?_eq_none (by simpa using h)] at e; cases e
      rw [this] at e
      simp at e
      have : q = n := by omega
      subst this; subst e; exact hu
theorem reps_ds {F : Nat → D} : ∀ {l : List Value} {s : Nat}, (∀ q u, l[q]? = some u → (F (s + q)).rep w I u) → AV.reps μ w I hp ((List.range' s l.length).map fun j => .d (F j)) l
  | [], _, _ => trivial
  | u :: l, s, h => by
    refine ⟨by rw [AV.rep]; exact h 0 u (by simp), ?_⟩
    exact reps_ds (fun q v e => by have := h (q + 1) v (by simpa using e); rwa [show s + (q + 1) = s + 1 + q from by omega] at this)
theorem reps_range {F : Nat → D} {l : List Value} {n : Nat} (hl : l.length = n) (h : ∀ q u, l[q]? = some u → (F q).rep w I u) : AV.reps μ w I hp (rangeCells n F) l := by
  unfold rangeCells
  rw [List.range_eq_range', ← hl]
  exact reps_ds (by simpa using h)
theorem add_lit0 (b o n : Nat) : Addr.add ⟨b, o, none⟩ n = ⟨b, o + n, none⟩ := Addr.add_lit b o n
/-- A variable is read, cell by cell. -/
theorem run_loadT {t : Nat} {td : TyD} (g : TyGood P t td) {b j : Nat} {l : List Value} (hl : l.length = td.size) (hc : ∀ i v, l[i]? = some v → w.cell? ⟨b, j + i, none⟩ = some v) {cs : List AV} (hr : AV.reps μ w I hp cs l) {Q : AV → Prop} (h : (wrapT td.k.agg cs).wp sl hp Q) :
    ∃ v u, Q v ∧ v.rep μ w I hp u ∧ (loadVar t ⟨b, j, none⟩).run P w = .ok u w := by
  have hcells : (loadCells ⟨b, j, none⟩ td.size).run P w = .ok l.toArray w := by
    rw [← hl]
    exact run_loadCells_list (P := P) w ⟨b, j, none⟩ l (fun i v e => by rw [add_lit0]; exact hc i v e)
  rcases wrapT_wp h with ⟨hb, h2⟩ | ⟨hb, v, e, h2⟩
  · refine ⟨_, .agg l.toArray, h2, by rw [AV.rep]; exact ⟨_, rfl, hr⟩, ?_⟩
    simp [loadVar, g.isAgg, hb, g.sizeOf, hcells]
  · subst e
    match l, hr, hl, hc with
    | [u], hr, hl, hc =>
      refine ⟨v, u, h2, hr.1, ?_⟩
      have := hc 0 u rfl
      simp only [Nat.add_zero] at this
      simp [loadVar, g.isAgg, hb, this]
theorem load_run {t : Nat} {x : Operand} {Φ : Eff → Prop} (T : TyOk P E.tt) (S : Sim G N μ I sl hp a w) (h : (step E d f (.load t x)).wp sl hp Φ) : ∃ v u p, Φ (.mk v [] []) ∧ v.rep μ w I hp u ∧ a.eval x = .pointer (some p) ∧ (loadVar t p).run P w = .ok u w := by
  unfold step at h
  rw [wp_bind] at h
  obtain ⟨td, ht, h⟩ := ty_wp h
  obtain ⟨g⟩ := T.good ht
  rw [wp_bind] at h
  obtain ⟨v, h, hv⟩ := opd_wp S.slots h
  have fin : ∀ {b j : Nat} {l : List Value} {cs : List AV}, a.eval x = .pointer (some ⟨b, j, none⟩) → l.length = td.size → (∀ i v, l[i]? = some v → w.cell? ⟨b, j + i, none⟩ = some v) → AV.reps μ w I hp cs l → ((wrapT td.k.agg cs).bind fun v => RM.pure (Eff.mk v [] [])).wp sl hp Φ → ∃ v u p, Φ (.mk v [] []) ∧ v.rep μ w I hp u ∧ a.eval x = .pointer (some p) ∧ (loadVar t p).run P w = .ok u w := by
    intro b j l cs hx hl hc hr h
    rw [wp_bind] at h
    obtain ⟨v, u, h, hvr, hrun⟩ := run_loadT (P := P) (μ := μ) (I := I) (sl := sl) (hp := hp) g hl hc hr h
    exact ⟨v, u, _, h, hvr, hx, hrun⟩
  cases v with
  | pc r j =>
    obtain ⟨ob, e, h⟩ := obj_wp h
    cases ob with
    | dead => exact h.elim
    | row _ _ _ => exact h.elim
    | map _ _ => exact h.elim
    | rowA _ _ _ => exact h.elim
    | itM _ _ _ _ => exact h.elim
    | itS _ _ => exact h.elim
    | cells cs =>
    obtain ⟨hb, h⟩ := need_wp h
    have hb := Nat.le_of_ble_eq_true hb
    rw [AV.rep] at hv
    obtain ⟨p, hx, ob, e2, hv⟩ := hv
    rw [e] at e2; injection e2 with e2; subst e2
    obtain ⟨b, z, hm, rfl⟩ := hv _ rfl
    obtain ⟨b', z', vs, t', fz, hm', hh, hf, hr⟩ := S.heap.objs r _ e
    rw [hm] at hm'; injection hm' with hm'; injection hm' with e1 e2; subst e1; subst e2
    have hlen : cs.length = vs.size := by rw [AV.reps_len hr]; simp
    refine fin (l := (vs.toList.drop j).take td.size) hx (by rw [List.length_take, List.length_drop, Array.length_toList]; omega) (fun i v e => ?_) (reps_take _ (reps_drop _ hr)) h
    rw [cell_of_row w b (j + i) vs t' fz hh]
    rw [List.getElem?_take] at e
    split at e
    · rw [List.getElem?_drop] at e; simpa using e
    · cases e
  | pr r i j =>
    obtain ⟨ob, e, h⟩ := obj_wp h
    cases ob with
    | dead => exact h.elim
    | cells _ => exact h.elim
    | map _ _ => exact h.elim
    | rowA _ _ _ => exact h.elim
    | itM _ _ _ _ => exact h.elim
    | itS _ _ => exact h.elim
    | row n k c =>
    obtain ⟨hb, h⟩ := need_wp h
    have hb := Nat.le_of_ble_eq_true hb
    rw [AV.rep] at hv
    obtain ⟨p, hx, ob, e2, hv⟩ := hv
    rw [e] at e2; injection e2 with e2; subst e2
    obtain ⟨hi, b, z, hm, rfl⟩ := hv _ _ _ rfl
    rcases S.heap.objs r _ e with ⟨hm', hn⟩ | ⟨b', z', vs, t', fz, hm', hh, hf, hz, hk, hr⟩
    · omega
    rw [hm] at hm'; injection hm' with hm'; injection hm' with e1 e2; subst e1; subst e2
    obtain ⟨l, hl, hp'⟩ := exists_list (n := td.size) (p := fun q u => vs[i * k + (j + q)]? = some u ∧ (c i (j + q)).rep w I u) (fun q hq => let ⟨u, h1, _, h2⟩ := hr i (j + q) hi (by omega); ⟨u, h1, h2⟩)
    refine fin (l := l) hx hl (fun q v e => ?_) (reps_range hl (fun q u e => (hp' q u e).2)) h
    rw [cell_of_row w b _ vs t' fz hh, ← (hp' q v e).1]
    congr 1; omega
  | pv n k c i j =>
    obtain ⟨hb, h⟩ := need_wp h
    have hb := Nat.le_of_ble_eq_true hb
    rw [AV.rep] at hv
    obtain ⟨b, off, hx, hi, hI, hr⟩ := hv
    obtain ⟨l, hl, hp'⟩ := exists_list (n := td.size) (p := fun q u => w.cell? ⟨b, off + (i * k + (j + q)), none⟩ = some u ∧ (c i (j + q)).rep w I u) (fun q hq => let ⟨u, h1, _, h2⟩ := hr i (j + q) hi (by omega); ⟨u, h1, h2⟩)
    refine fin (l := l) hx hl (fun q v e => ?_) (reps_range hl (fun q u e => (hp' q u e).2)) h
    rw [← (hp' q v e).1]
    congr 2; omega
  | pa r i j =>
    obtain ⟨ob, e, h⟩ := obj_wp h
    cases ob with
    | rowA n k cs =>
      obtain ⟨hb, h⟩ := need_wp h
      rw [Bool.and_eq_true] at hb
      have hb1 := Nat.le_of_ble_eq_true hb.1
      rw [AV.rep] at hv
      obtain ⟨p, hx, ob, e2, hv⟩ := hv
      rw [e] at e2; injection e2 with e2; subst e2
      obtain ⟨hi, b, z, hm, rfl⟩ := hv _ _ _ rfl
      obtain ⟨hlen, hR⟩ := S.heap.objs r _ e
      rcases hR with ⟨hm', hn⟩ | ⟨b', z', vs, t', fz, hm', hh, hf, hz, hk, hr, hone⟩
      · omega
      rw [hm] at hm'; injection hm' with hm'; injection hm' with e1 e2; subst e1; subst e2
      have hik : (i + 1) * k ≤ n * k := Nat.mul_le_mul_right _ hi
      rw [Nat.add_mul, Nat.one_mul] at hik
      refine fin (l := ((vs.toList.take (n * k)).drop (i * k + j)).take td.size) hx (by rw [List.length_take, List.length_drop, List.length_take, Array.length_toList]; omega) (fun q v e => ?_) (reps_take _ (reps_drop _ hr)) h
      rw [cell_of_row w b _ vs t' fz hh]
      rw [List.getElem?_take] at e
      split at e
      · rw [List.getElem?_drop, List.getElem?_take] at e
        split at e
        · simpa using e
        · cases e
      · cases e
    | _ => exact h.elim
  | _ => exact h.elim
theorem op_load {t : Nat} {x : Operand} (ho : o.op = .load t x) (T : TyOk P E.tt) (S : Sim G N μ I sl hp a w) (h : (step E d f (.load t x)).wp sl hp (Then G N sl a o.dst K hp)) : o.wp P a w K Q := by
  obtain ⟨v, u, p, h, hv, hx, hrun⟩ := load_run (P := P) T S h
  exact upV (u := u) (w' := w) (by simp [execOp, ho, hx, Instr.loadAt, Instr.sureAddr, hrun]) (h μ I _ w S hv)
/-! ### stores -/
def putA (vs : Array Value) : Nat → List Value → Array Value
  | _, [] => vs
  | o, u :: l => putA (vs.setIfInBounds o u) (o + 1) l
theorem putA_list : ∀ (l : List Value) (vs : Array Value) (o : Nat), (putA vs o l).toList = putL vs.toList o l
  | [], _, _ => rfl
  | u :: l, vs, o => by rw [putA, putL, putA_list l]; simp
theorem putA_size : ∀ (l : List Value) (vs : Array Value) (o : Nat), (putA vs o l).size = vs.size
  | [], _, _ => rfl
  | u :: l, vs, o => by rw [putA, putA_size l]; simp
theorem putA_out : ∀ (l : List Value) (vs : Array Value) (o i : Nat), (i < o ∨ o + l.length ≤ i) → (putA vs o l)[i]? = vs[i]?
  | [], _, _, _, _ => rfl
  | u :: l, vs, o, i, h => by
    rw [putA, putA_out l _ _ _ (by simp only [List.length_cons] at h; omega), Array.getElem?_setIfInBounds, if_neg (by simp only [List.length_cons] at h; omega)]
theorem putA_in : ∀ (l : List Value) (vs : Array Value) (o q : Nat), q < l.length → o + l.length ≤ vs.size → (putA vs o l)[o + q]? = l[q]?
  | u :: l, vs, o, 0, _, h => by
    rw [putA, putA_out l _ _ _ (by omega), Nat.add_zero, Array.getElem?_setIfInBounds, if_pos rfl, if_pos (by simp only [List.length_cons] at h; omega)]; rfl
  | u :: l, vs, o, q + 1, hq, h => by
    have := putA_in l (vs.setIfInBounds o u) (o + 1) q (by simpa using hq) (by simp only [List.length_cons] at h; simp; omega)
    rw [putA, show o + (q + 1) = o + 1 + q from by omega, this]; simp
  | [], _, _, _, h, _ => by simp at h
theorem setCells_block (b : Nat) : ∀ (l : List Value) (o : Nat) (w : World) (vs : Array Value) (t : Nat) (fz : Nat × Nat), w.heap[b]? = some (.cells vs t fz) → (w.setCells b o l).heap[b]? = some (.cells (putA vs o l) t fz)
  | [], _, _, _, _, _, h => h
  | u :: l, o, w, vs, t, fz, h => by
    rw [World.setCells, putA]
    refine setCells_block b l (o + 1) _ _ t fz ?_
    simp [World.setCell, Array.getElem?_modify, h]
theorem setCells_far (b : Nat) : ∀ (l : List Value) (o : Nat) (w : World) (k : Nat), k ≠ b → (w.setCells b o l).heap[k]? = w.heap[k]?
  | [], _, _, _, _ => rfl
  | u :: l, o, w, k, h => by rw [World.setCells, setCells_far b l _ _ k h, Below.heap_setCell _ _ _ _ h]
theorem setCells_like (b : Nat) : ∀ (l : List Value) (o : Nat) (w : World), Like w (w.setCells b o l) ∧ (w.setCells b o l).heap.size = w.heap.size
  | [], _, _ => ⟨.refl _, rfl⟩
  | u :: l, o, w => by
    obtain ⟨h, hs⟩ := setCells_like b l (o + 1) (w.setCell ⟨b, o, none⟩ u)
    exact ⟨⟨h.os.trans rfl, h.tape.trans rfl, h.output.trans rfl⟩, by rw [World.setCells, hs]; simp⟩
theorem nofz_frozen {b j : Nat} {vs : Array Value} {t : Nat} {fz : Nat × Nat} (hh : w.heap[b]? = some (.cells vs t fz)) (hf : nofz vs fz) (hj : j < vs.size) : w.frozen? ⟨b, j, none⟩ = false := by
  have := hf j hj
  obtain ⟨lo, hi⟩ := fz
  simp only [World.frozen?, hh]
  simp only at this
  rw [Bool.and_eq_false_iff]
  rcases Nat.lt_or_ge j lo with h | h
  · left; exact decide_eq_false (by omega)
  · right; exact decide_eq_false (by omega)
theorem nofz_put {vs : Array Value} {fz : Nat × Nat} (h : nofz vs fz) (o : Nat) (l : List Value) : nofz (putA vs o l) fz := fun j hj => h j (by rw [putA_size] at hj; exact hj)
/-- A variable is written. -/
theorem run_storeT {t : Nat} {td : TyD} (g : TyGood P t td) {b j : Nat} {u : Value} {vs : Array Value} {t' : Nat} {fz : Nat × Nat} (hsz : u.cells.toList.length = td.size) (h1 : ∀ x ∈ u.cells.toList, x.oneCell' = true) (hh : w.heap[b]? = some (.cells vs t' fz)) (hf : nofz vs fz) (hin : j + td.size ≤ vs.size) :
    (storeVar t ⟨b, j, none⟩ u).run P w = .ok () (w.setCells b j u.cells.toList) := by
  have hst := run_storeCells_cells (P := P) b j u.cells.toList 0 w (fun q hq => by rw [cell_of_row w b _ vs t' fz hh, Array.getElem?_eq_getElem (by omega)]; rfl) (fun q hq => nofz_frozen hh hf (by omega)) h1
  simp only [Nat.add_zero] at hst
  have hs2 : u.cells.size = td.size := by rw [← Array.length_toList]; exact hsz
  simp [storeVar, g.sizeOf, hs2, hst]
theorem idx_eq {i i' k x y : Nat} (hx : x < k) (hy : y < k) (h : i * k + x = i' * k + y) : i = i' ∧ x = y := by
  have h1 : (i * k + x) / k = i := by rw [Nat.mul_comm, Nat.mul_add_div (by omega), Nat.div_eq_of_lt hx]; omega
  have h2 : (i' * k + y) / k = i' := by rw [Nat.mul_comm, Nat.mul_add_div (by omega), Nat.div_eq_of_lt hy]; omega
  have : i = i' := by rw [← h1, ← h2, h]
  subst this
  exact ⟨rfl, by omega⟩
theorem reps_d : ∀ {ds : List D} {vs : List Value} {q : Nat} {x : D}, AV.reps μ w I hp (ds.map .d) vs → ds[q]? = some x → ∃ v, vs[q]? = some v ∧ x.rep w I v := by
  intro ds vs q x h e
  obtain ⟨v, hv, hr⟩ := reps_get (x := .d x) h (by rw [List.getElem?_map, e]; rfl)
  rw [AV.rep] at hr
  exact ⟨v, hv, hr⟩
theorem putL_len' {β : Type} : ∀ (l : List β) (cs : List β) (o : Nat), (putL cs o l).length = cs.length
  | [], _, _ => rfl
  | x :: l, cs, o => by rw [putL, putL_len' l, List.length_set]
theorem putL_take {β : Type} : ∀ (l : List β) (cs : List β) (o n : Nat), o + l.length ≤ n → (putL cs o l).take n = putL (cs.take n) o l
  | [], _, _, _, _ => rfl
  | x :: l, cs, o, n, h => by
    rw [List.length_cons] at h
    rw [putL, putL, putL_take l _ _ _ (by omega), List.take_set]
theorem putL_all {β : Type} {p : β → Prop} : ∀ (l : List β) (cs : List β) (o : Nat), (∀ x ∈ cs, p x) → (∀ x ∈ l, p x) → ∀ x ∈ putL cs o l, p x
  | [], _, _, h, _ => h
  | y :: l, cs, o, h, h' => putL_all l _ _ (fun x hx => by
      rcases List.mem_or_eq_of_mem_set hx with hx | rfl
      · exact h x hx
      · exact h' _ (by simp)) (fun x hx => h' x (by simp [hx]))
theorem op_store {t : Nat} {x y : Operand} (ho : o.op = .store t x y) (T : TyOk P E.tt) (S : Sim G N μ I sl hp a w) (h : (step E d f (.store t x y)).wp sl hp (Then G N sl a o.dst K hp)) : o.wp P a w K Q := by
  unfold step at h
  rw [wp_bind] at h
  obtain ⟨td, ht, h⟩ := ty_wp h
  obtain ⟨g⟩ := T.good ht
  rw [wp_bind] at h
  obtain ⟨p, h, hp'⟩ := opd_wp S.slots h
  rw [wp_bind] at h
  obtain ⟨v, h, hv⟩ := opd_wp S.slots h
  obtain ⟨hb, h⟩ := need_wp h
  rw [Bool.and_eq_true] at hb
  have hsz := Nat.eq_of_beq_eq_true hb.2
  obtain ⟨hc, h1⟩ := rep_cells hv hb.1
  have hlen := AV.reps_len hc
  have hsz2 : (a.eval y).cells.toList.length = td.size := by rw [← hlen, hsz]
  have fin : ∀ {r b j z : Nat} {ob ob' : AO} {vs : Array Value} {t' : Nat} {fz : Nat × Nat}, a.eval x = .pointer (some ⟨b, j, none⟩) → get hp r = some ob → ob ≠ .dead → ob.like ob' → μ r = some (b, z) → w.heap[b]? = some (.cells vs t' fz) → nofz vs fz → j + td.size ≤ vs.size →
      (Ext μ I hp w μ I ((r, ob') :: hp) (w.setCells b j (a.eval y).cells.toList) → ob'.rep μ (w.setCells b j (a.eval y).cells.toList) I ((r, ob') :: hp) r) → Then G N sl a o.dst K hp (.mk (av undef) [(r, ob')] []) → o.wp P a w K Q := by
    intro r b j z ob ob' vs t' fz hx e hd hk hm hh hf hin hrep h
    have hrun := run_storeT (P := P) g hsz2 h1 hh hf hin
    have hl := setCells_like b (a.eval y).cells.toList j w
    have H := S.heap.turn e hd hk hm hl.1 hl.2 (setCells_far b _ _ _) hrep
    exact upS (w' := w.setCells b j (a.eval y).cells.toList) (by simp [execOp, ho, hx, Instr.storeAt, Instr.sureAddr, hrun]) (h _ _ undef _ (S.next H) undef_rep)
  cases p with
  | pc r j =>
    obtain ⟨ob, e, h⟩ := obj_wp h
    cases ob with
    | dead => exact h.elim
    | row _ _ _ => exact h.elim
    | map _ _ => exact h.elim
    | rowA _ _ _ => exact h.elim
    | itM _ _ _ _ => exact h.elim
    | itS _ _ => exact h.elim
    | cells cs =>
    obtain ⟨hb2, h⟩ := need_wp h
    have hb2 := Nat.le_of_ble_eq_true hb2
    rw [AV.rep] at hp'
    obtain ⟨q, hx, ob, e2, hq⟩ := hp'
    rw [e] at e2; injection e2 with e2; subst e2
    obtain ⟨b, z, hm, rfl⟩ := hq _ rfl
    obtain ⟨b', z', vs, t', fz, hm', hh, hf, hr⟩ := S.heap.objs r _ e
    rw [hm] at hm'; injection hm' with hm'; injection hm' with e1 e2; subst e1; subst e2
    have hcl : cs.length = vs.size := by rw [AV.reps_len hr]; simp
    refine fin (ob' := .cells (putL cs j v.cells)) hx e (by simp) trivial hm hh hf (by omega) (fun X => ⟨b, z, _, t', fz, hm, setCells_block b _ _ _ _ _ _ hh, nofz_put hf _ _, ?_⟩) h
    rw [putA_list]
    exact reps_put (X.reps hr) (X.reps hc)
  | pr r i j =>
    obtain ⟨ob, e, h⟩ := obj_wp h
    cases ob with
    | dead => exact h.elim
    | cells _ => exact h.elim
    | map _ _ => exact h.elim
    | rowA _ _ _ => exact h.elim
    | itM _ _ _ _ => exact h.elim
    | itS _ _ => exact h.elim
    | row n k c =>
    rw [wp_bind] at h
    obtain ⟨ds, ed, hok, h⟩ := toDs_wp h
    obtain ⟨hb2, h⟩ := need_wp h
    have hb2 := Nat.le_of_ble_eq_true hb2
    rw [AV.rep] at hp'
    obtain ⟨q, hx, ob, e2, hq⟩ := hp'
    rw [e] at e2; injection e2 with e2; subst e2
    obtain ⟨hi, b, z, hm, rfl⟩ := hq _ _ _ rfl
    rcases S.heap.objs r _ e with ⟨hm', hn⟩ | ⟨b', z', vs, t', fz, hm', hh, hf, hz, hk, hr⟩
    · omega
    rw [hm] at hm'; injection hm' with hm'; injection hm' with e1 e2; subst e1; subst e2
    have hmul : (i + 1) * k ≤ n * k := Nat.mul_le_mul_right _ hi
    rw [Nat.add_mul] at hmul
    have hdl : ds.length = td.size := by rw [← hsz, ed, List.length_map]
    refine fin (ob' := .row n k (putC c i j ds)) hx e (by simp) ⟨rfl, rfl⟩ hm hh hf (by omega) (fun X => .inr ⟨b, z, _, t', fz, hm, setCells_block b _ _ _ _ _ _ hh, nofz_put hf _ _, by rw [putA_size]; exact hz, hk, fun i' j' hi' hj' => ?_⟩) h
    simp only [putC]
    by_cases hc2 : i' = i ∧ j ≤ j' ∧ j' < j + ds.length
    · rw [if_pos hc2]
      obtain ⟨rfl, hj1, hj2⟩ := hc2
      have hq : j' - j < ds.length := by omega
      rw [ed] at hc
      obtain ⟨u, hu, hur⟩ := reps_d hc (List.getElem?_eq_getElem hq)
      refine ⟨u, ?_, h1 u (List.mem_of_getElem? hu), ?_⟩
      · have hul : j' - j < (a.eval y).cells.toList.length := by rw [hsz2, ← hdl]; exact hq
        have := putA_in (a.eval y).cells.toList vs (i' * k + j) (j' - j) hul (by rw [hsz2]; omega)
        rw [show i' * k + j' = i' * k + j + (j' - j) from by omega, this]; exact hu
      · rw [List.getD_eq_getElem?_getD, List.getElem?_eq_getElem hq]
        exact D.rep_mono X.same X.imm _ _ hur
    · rw [if_neg hc2]
      obtain ⟨u, hu, hu1, hur⟩ := hr i' j' hi' hj'
      refine ⟨u, ?_, hu1, D.rep_mono X.same X.imm _ _ hur⟩
      rw [putA_out _ _ _ _ ?_]
      · exact hu
      · rw [hsz2]
        rcases Nat.lt_or_ge (i' * k + j') (i * k + j) with h3 | h3
        · exact .inl h3
        · right
          rcases Nat.lt_or_ge (i' * k + j') (i * k + j + td.size) with h4 | h4
          · exfalso
            have := idx_eq (i := i') (i' := i) (k := k) (x := j') (y := i' * k + j' - i * k) hj' (by omega) (by omega)
            exact hc2 ⟨this.1, by have := this.2; rw [‹i' = i ∧ _›.1] at h3; omega, by have := this.2; rw [‹i' = i ∧ _›.1] at h4; omega⟩
          · exact h4
  | pa r i j =>
    obtain ⟨ob, e, h⟩ := obj_wp h
    cases ob with
    | rowA n k cs =>
      obtain ⟨hb2, h⟩ := need_wp h
      rw [Bool.and_eq_true] at hb2
      have hb1 := Nat.le_of_ble_eq_true hb2.1
      rw [AV.rep] at hp'
      obtain ⟨q, hx, ob, e2, hq⟩ := hp'
      rw [e] at e2; injection e2 with e2; subst e2
      obtain ⟨hi, b, z, hm, rfl⟩ := hq _ _ _ rfl
      obtain ⟨hcl, hR⟩ := S.heap.objs r _ e
      rcases hR with ⟨hm', hn⟩ | ⟨b', z', vs, t', fz, hm', hh, hf, hz, hk, hr, hone⟩
      · omega
      rw [hm] at hm'; injection hm' with hm'; injection hm' with e1 e2; subst e1; subst e2
      have hik : (i + 1) * k ≤ n * k := Nat.mul_le_mul_right _ hi
      rw [Nat.add_mul, Nat.one_mul] at hik
      have htk : ((putA vs (i * k + j) (a.eval y).cells.toList).toList.take (n * k)) = putL (vs.toList.take (n * k)) (i * k + j) (a.eval y).cells.toList := by
        rw [putA_list]
        exact putL_take _ _ _ _ (by rw [← hlen]; omega)
      refine fin (ob' := .rowA n k (putL cs (i * k + j) v.cells)) hx e (by simp) ⟨rfl, rfl⟩ hm hh hf (by omega) (fun X => ⟨by rw [putL_len']; exact hcl, .inr ⟨b, z, _, t', fz, hm, setCells_block b _ _ _ _ _ _ hh, nofz_put hf _ _, by rw [putA_size]; exact hz, hk, ?_, ?_⟩⟩) h
      · rw [htk]; exact reps_put (X.reps hr) (X.reps hc)
      · rw [htk]; exact putL_all _ _ _ hone h1
    | _ => exact h.elim
  | _ => exact h.elim
end
end Go.XM
