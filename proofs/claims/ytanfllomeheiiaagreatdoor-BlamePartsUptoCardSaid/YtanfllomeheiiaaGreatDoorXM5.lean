/- The abstract machine's operations are the model's. -/
import Derived.Test.YtanfllomeheiiaaGreatDoorXM4
set_option linter.unusedVariables false
set_option linter.unusedSimpArgs false
namespace Go.XM
open RM
/-- What stands behind an operation. -/
def Then (G : Ctx) (N : Nat) (sl : Slots) (a : Act) (dst : Option Tmp) (K : Act → World → Prop) (hp : Heap) : Eff → Prop
  | .mk v up nw => addNew nw (setOld up hp) fun hp' => ∀ μ' I' u w', Sim G N μ' I' sl hp' a w' → v.rep μ' w' I' hp' u → K (a.put dst u) w'
theorem Sim.next {G : Ctx} {N : Nat} {μ μ' : Mu} {I I' : Nat → Prop} {sl : Slots} {hp hp' : Heap} {a : Act} {w w' : World} (S : Sim G N μ I sl hp a w) (H : HSim G μ' I' hp' w' ∧ Ext μ I hp w μ' I' hp' w') : Sim G N μ' I' sl hp' a w' := ⟨S.slots.ext H.2, H.1, S.size, S.defers, fun x hx => (S.frames x hx).ext H.2⟩
section
variable {P : Program} {E : Env} {G : Ctx} {N : Nat} {μ : Mu} {I : Nat → Prop} {sl : Slots} {hp : Heap} {a : Act} {w : World} {K : Act → World → Prop} {Q : Exit → Act → World → Prop} {o : Oper} {d f : Nat}
theorem upV {u : Value} {w' : World} (hr : (execOp a.eval o).run P w = .ok (.value u) w') (hK : K (a.put o.dst u) w') : o.wp P a w K Q := by unfold Oper.wp; rw [hr]; exact hK
theorem upS {w' : World} (hr : (execOp a.eval o).run P w = .ok .skip w') (hK : K (a.put o.dst undef) w') : o.wp P a w K Q := by unfold Oper.wp; rw [hr]; exact hK
theorem rep_a {x v : Value} (h : (av x).rep μ w I hp v) : v = x := by rw [AV.rep, D.rep] at h; exact h
theorem a_rep (x : Value) : (av x).rep μ w I hp x := by rw [AV.rep, D.rep]
theorem undef_rep : (av undef).rep μ w I hp undef := a_rep _
theorem op_move {x : Operand} (ho : o.op = .move x ∨ o.op = .assign x) (S : Sim G N μ I sl hp a w) (h : ((opd x).bind fun v => RM.pure (Eff.mk v [] [])).wp sl hp (Then G N sl a o.dst K hp)) : o.wp P a w K Q := by
  rw [wp_bind] at h
  obtain ⟨v, h, hv⟩ := opd_wp S.slots h
  exact upV (u := a.eval x) (w' := w) (by rcases ho with ho | ho <;> simp [execOp, ho]) (h μ I _ w S hv)
theorem op_pick {c x y : Operand} (ho : o.op = .pick c x y) (S : Sim G N μ I sl hp a w) (h : (step E d f (.pick c x y)).wp sl hp (Then G N sl a o.dst K hp)) : o.wp P a w K Q := by
  unfold step at h
  rw [wp_bind] at h
  obtain ⟨v, h, hv⟩ := opd_wp S.slots h
  rw [wp_bind] at h
  obtain ⟨b, rfl, h⟩ := asB_wp h
  have hc := rep_a hv
  cases b with
  | true =>
    have h := h.t rfl
    rw [wp_bind] at h
    obtain ⟨v, h, hv⟩ := opd_wp S.slots h
    exact upV (u := a.eval x) (w' := w) (by simp [execOp, ho, hc, asBool]) (h μ I _ w S hv)
  | false =>
    have h := h.f rfl
    rw [wp_bind] at h
    obtain ⟨v, h, hv⟩ := opd_wp S.slots h
    exact upV (u := a.eval y) (w' := w) (by simp [execOp, ho, hc, asBool]) (h μ I _ w S hv)
/-- A new object, behind an operation. -/
theorem Then.new {v : AV} {r z : Nat} {o' : AO} {ob : Obj} {w' : World} {dst : Option Tmp} {u : Value} (S : Sim G N μ I sl hp a w) (h : Then G N sl a dst K hp (.mk v [] [(r, o')])) (hl : Like w w') (hh : w'.heap = w.heap.push ob)
    (ho : Ext μ I hp w (upd μ r (some (w.heap.size, z))) I ((r, o') :: hp) w' → o'.rep (upd μ r (some (w.heap.size, z))) w' I ((r, o') :: hp) r)
    (hv : Ext μ I hp w (upd μ r (some (w.heap.size, z))) I ((r, o') :: hp) w' → v.rep (upd μ r (some (w.heap.size, z))) w' I ((r, o') :: hp) u) : K (a.put dst u) w' := by
  have h : (match get hp r with
    | none => _
    | some _ => False) := h
  cases hr : get hp r with
  | some x => rw [hr] at h; exact h.elim
  | none =>
    rw [hr] at h
    have H := S.heap.new hr ob z o' hl hh ho
    exact h _ _ _ _ (S.next H) (hv H.2)
theorem heap_push_self (w : World) (ob : Obj) : (w.alloc ob).heap[w.heap.size]? = some ob := by show (w.heap.push ob)[w.heap.size]? = _; simp
theorem nofz0 (vs : Array Value) : nofz vs (0, 0) := fun j _ h => by omega
theorem pc_rep_new {r z b : Nat} {cs : List AV} (j : Nat) (hb : b = w.heap.size) : ∀ {w' : World}, (AV.pc r j).rep (upd μ r (some (b, z))) w' I ((r, .cells cs) :: hp) (.pointer (some ⟨b, j, none⟩)) := by
  intro w'
  rw [AV.rep]
  exact ⟨_, rfl, .cells cs, by rw [get_cons, if_pos rfl], fun cs' _ => ⟨b, z, upd_same _ _ _, rfl⟩⟩
theorem one_of {v : Value} (h : Value.one v = true) : v.oneCell' = true := by cases v <;> first | rfl | cases h
theorem op_alloc {t : Nat} (ho : o.op = .alloc t) (T : TyOk P E.tt) (S : Sim G N μ I sl hp a w) (h : (step E d f (.alloc t)).wp sl hp (Then G N sl a o.dst K hp)) : o.wp P a w K Q := by
  unfold step at h
  rw [wp_bind] at h
  obtain ⟨td, ht, h⟩ := ty_wp h
  obtain ⟨g⟩ := T.good ht
  have hrun : (execOp a.eval o).run P w = .ok (.value (.pointer (some ⟨w.heap.size, 0, none⟩))) (w.alloc (.cells g.z.cells t)) := by
    simp [execOp, ho, Instr.alloc, g.zeroValue, newVar, Go.newRow]
  refine upV hrun ?_
  have cellsCase : ∀ {K : Act → World → Prop}, Then G N sl a o.dst K hp (.mk (.pc f 0) [] [(f, .cells (td.zero.map av))]) → K (a.put o.dst (.pointer (some ⟨w.heap.size, 0, none⟩))) (w.alloc (.cells g.z.cells t)) := fun h =>
    Then.new (z := 0) S h ⟨rfl, rfl, rfl⟩ rfl (fun X => ⟨w.heap.size, 0, g.z.cells, t, (0, 0), upd_same _ _ _, heap_push_self _ _, nofz0 _, by rw [g.cells]; exact reps_atoms _⟩) (fun X => pc_rep_new 0 rfl)
  cases hk : td.k with
  | arr n e =>
    rw [hk] at h
    have h : ((ty E e).bind _).wp sl hp _ := h
    rw [wp_bind] at h
    obtain ⟨te, hte, h⟩ := ty_wp h
    cases hcl : E.cl with
    | true =>
      rw [hcl] at h
      obtain ⟨hb, h⟩ := need_wp h
      rw [Bool.and_eq_true] at hb
      have hn : 0 < n := by have := hb.1; simpa [Nat.blt_eq] using this
      have hle : n * te.size = td.zero.length := Nat.eq_of_beq_eq_true hb.2
      have hz : g.z.cells.size = n * te.size := by rw [← Array.length_toList, g.cells, hle]
      refine Then.new (z := g.z.cells.size) S h ⟨rfl, rfl, rfl⟩ rfl (fun X => ⟨by rw [List.length_map]; exact hle.symm, .inr ⟨w.heap.size, _, g.z.cells, t, (0, 0), upd_same _ _ _, heap_push_self _ _, nofz0 _, rfl, Nat.le_of_eq hz.symm, ?_, fun u hu => ?_⟩⟩) (fun X => ?_)
      · rw [List.take_of_length_le (by rw [Array.length_toList, hz]; exact Nat.le_refl _), g.cells]; exact reps_atoms _
      · have := List.mem_of_mem_take hu
        rw [g.cells] at this
        exact one_of (g.one _ this)
      · rw [AV.rep]
        refine ⟨_, rfl, _, by rw [get_cons, if_pos rfl], fun n' k' c' e => ?_⟩
        injection e with e1 e2 e3
        subst e1; subst e2
        exact ⟨hn, w.heap.size, _, upd_same _ _ _, by simp⟩
    | false =>
    rw [hcl] at h
    obtain ⟨hb, h⟩ := need_wp h
    rw [Bool.and_eq_true] at hb
    have hn : 0 < n := by have := hb.1; simpa [Nat.blt_eq] using this
    have hle : n * te.size ≤ td.zero.length := Nat.le_of_ble_eq_true hb.2
    refine Then.new (z := g.z.cells.size) S h ⟨rfl, rfl, rfl⟩ rfl (fun X => .inr ⟨w.heap.size, _, g.z.cells, t, (0, 0), upd_same _ _ _, heap_push_self _ _, nofz0 _, rfl, ?_, fun i j hi hj => ?_⟩) (fun X => ?_)
    · rw [← Array.length_toList, g.cells]; exact hle
    · have hlt : i * te.size + j < td.zero.length := by
        have : (i + 1) * te.size ≤ n * te.size := Nat.mul_le_mul_right _ hi
        rw [Nat.add_mul] at this; omega
      refine ⟨td.zero[i * te.size + j], ?_, one_of (g.one _ (List.getElem_mem hlt)), ?_⟩
      · rw [← Array.getElem?_toList, g.cells, List.getElem?_eq_getElem hlt]
      · simp only [litC]
        rw [List.getD_eq_getElem?_getD, List.getElem?_map, List.getElem?_eq_getElem hlt]
        simp [D.rep]
    · rw [AV.rep]
      refine ⟨_, rfl, _, by rw [get_cons, if_pos rfl], fun n' k' c' e => ?_⟩
      injection e with e1 e2 e3
      subst e1; subst e2
      exact ⟨hn, w.heap.size, _, upd_same _ _ _, by simp⟩
  | atom => rw [hk] at h; exact cellsCase h
  | int k => rw [hk] at h; exact cellsCase h
  | struct fo => rw [hk] at h; exact cellsCase h
  | slice e => rw [hk] at h; exact cellsCase h
  | map k e => rw [hk] at h; exact cellsCase h
  | str => rw [hk] at h; exact cellsCase h
  | ptr => rw [hk] at h; exact cellsCase h
  | func => rw [hk] at h; exact cellsCase h
theorem op_box {t : Nat} {x : Operand} (ho : o.op = .box t x) (S : Sim G N μ I sl hp a w) (h : (step E d f (.box t x)).wp sl hp (Then G N sl a o.dst K hp)) : o.wp P a w K Q := by
  unfold step at h
  rw [wp_bind] at h
  obtain ⟨v, h, hv⟩ := opd_wp S.slots h
  obtain ⟨hb, h⟩ := need_wp h
  have hc := rep_cells hv hb
  have hrun : (execOp a.eval o).run P w = .ok (.value (.pointer (some ⟨w.heap.size, 0, none⟩))) (w.alloc (.cells (a.eval x).cells t)) := by
    simp [execOp, ho, Instr.box, newVar, Go.newRow]
  exact upV hrun (Then.new (z := 0) S h ⟨rfl, rfl, rfl⟩ rfl (fun X => ⟨w.heap.size, 0, _, t, (0, 0), upd_same _ _ _, heap_push_self _ _, nofz0 _, X.reps hc.1⟩) (fun X => pc_rep_new 0 rfl))
theorem op_nilCheck {x : Operand} (ho : o.op = .nilCheck x) (S : Sim G N μ I sl hp a w) (h : (step E d f (.nilCheck x)).wp sl hp (Then G N sl a o.dst K hp)) : o.wp P a w K Q := by
  unfold step at h
  rw [wp_bind] at h
  obtain ⟨v, h, hv⟩ := opd_wp S.slots h
  cases v <;> simp only [isRef] at h <;> try exact h.elim
  case pc r j =>
    have hv' := hv
    rw [AV.rep] at hv'
    obtain ⟨p, e, _⟩ := hv'
    exact upV (u := a.eval x) (w' := w) (by simp [execOp, ho, e]) (h μ I _ w S hv)
  case pr r i j =>
    have hv' := hv
    rw [AV.rep] at hv'
    obtain ⟨p, e, _⟩ := hv'
    exact upV (u := a.eval x) (w' := w) (by simp [execOp, ho, e]) (h μ I _ w S hv)
  case pa r i j =>
    have hv' := hv
    rw [AV.rep] at hv'
    obtain ⟨p, e, _⟩ := hv'
    exact upV (u := a.eval x) (w' := w) (by simp [execOp, ho, e]) (h μ I _ w S hv)
  case mp r =>
    have hv' := hv
    rw [AV.rep] at hv'
    obtain ⟨p, e, _⟩ := hv'
    exact upV (u := a.eval x) (w' := w) (by simp [execOp, ho, e]) (h μ I _ w S hv)
  case fn g xs ys =>
    have hv' := hv
    rw [AV.rep] at hv'
    obtain ⟨p, q, e, _⟩ := hv'
    cases g <;> first
      | exact h.elim
      | exact upV (u := a.eval x) (w' := w) (by simp [execOp, ho, e]) (h μ I _ w S hv)
end
end Go.XM
