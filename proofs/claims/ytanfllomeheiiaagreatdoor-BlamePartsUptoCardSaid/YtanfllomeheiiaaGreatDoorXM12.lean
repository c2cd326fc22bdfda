/- The abstract machine's code is the model's. -/
import Derived.Test.YtanfllomeheiiaaGreatDoorXMP
import Derived.LoopN
set_option linter.unusedVariables false
set_option linter.unusedSimpArgs false
namespace Go.XM
open RM Go.RowKit
section
variable {P : Program} {E : Env} {G : Ctx} {N : Nat} {μ : Mu} {I : Nat → Prop} {sl : Slots} {hp : Heap} {a : Act} {w : World} {K : Act → World → Prop} {Q : Exit → Act → World → Prop} {o : Oper} {d f : Nat}
theorem step_sound (T : TyOk P E.tt) (F : FnsOk P E) (S : Sim G N μ I sl hp a w) (h : (step E d f o.op).wp sl hp (Then G N sl a o.dst K hp)) : o.wp P a w K Q := by
  cases ho : o.op with
  | move x => rw [ho] at h; exact op_move (.inl ho) S h
  | assign x => rw [ho] at h; exact op_move (.inr ho) S h
  | pick c x y => rw [ho] at h; exact op_pick ho S h
  | alloc t => rw [ho] at h; exact op_alloc ho T S h
  | box t x => rw [ho] at h; exact op_box ho S h
  | build t ps => rw [ho] at h; exact op_build ho T S h
  | buildSlice t n ps => rw [ho] at h; exact op_buildSlice ho T S h
  | load t x => rw [ho] at h; exact op_load ho T S h
  | store t x y => rw [ho] at h; exact op_store ho T S h
  | nilCheck x => rw [ho] at h; exact op_nilCheck ho S h
  | binOp b t x y t' => rw [ho] at h; exact op_binOp ho T S h
  | unOp b t x => rw [ho] at h; exact op_unOp ho S h
  | makeFunc g xs ys => rw [ho] at h; exact op_makeFunc ho S h
  | convert t t' x => rw [ho] at h; exact op_convert ho T S h
  | slice t x lo hi mx =>
    rw [ho] at h
    cases mx with
    | none => exact op_slice ho T S h
    | some m =>
      cases hi with
      | none => exact h.elim
      | some hi => exact op_slice3 ho T S h
  | makeMap t r => rw [ho] at h; exact op_makeMap ho T S h
  | lookup t x i ok => rw [ho] at h; exact op_lookup ho T S h
  | mapUpdate t m k x => rw [ho] at h; exact op_put (.inl ho) T S h
  | insert t m k x => rw [ho] at h; exact op_put (d := d) (f := f) (.inr ho) T S h
  | mapEntry t m k => rw [ho] at h; exact op_mapEntry ho T S h
  | entryStore t m s x => rw [ho] at h; exact op_entryStore ho S h
  | makeSlice t x y => rw [ho] at h; exact op_makeSlice ho T S h
  | fieldAddr t x q => rw [ho] at h; exact op_fieldAddr ho T S h
  | field t x q => rw [ho] at h; exact op_field ho T S h
  | indexAddr t x y => rw [ho] at h; exact op_indexAddr ho T S h
  | index t x y => rw [ho] at h; exact op_index ho T S h
  | extract x q => rw [ho] at h; exact op_extract ho S h
  | call c =>
    rw [ho] at h
    cases hc : c.callee with
    | value x => exact op_fn ho hc F S h
    | builtin b =>
      cases b with
      | len => exact op_len ho hc T S h
      | append => exact op_append ho hc T S h
      | max => exact op_max ho hc S h
      | min => exact op_min ho hc S h
      | cap => exact op_cap ho hc T S h
      | delete => exact op_delete ho hc T S h
      | clear => exact op_clear ho hc T S h
      | copy => exact op_copy ho hc T S h
      | _ =>
        unfold step at h
        rw [wp_bind] at h
        obtain ⟨vs, h, hvs⟩ := opds_wp (Q := fun _ => True) S.slots h
        rw [hc] at h
        exact h.elim
    | invoke x n =>
      unfold step at h
      rw [wp_bind] at h
      obtain ⟨vs, h, hvs⟩ := opds_wp (Q := fun _ => True) S.slots h
      rw [hc] at h
      exact h.elim
  | _ => rw [ho] at h; exact h.elim
theorem addNew_mono {K1 K2 : Heap → Prop} (hk : ∀ h, K1 h → K2 h) : ∀ {nw hp : Heap}, addNew nw hp K1 → addNew nw hp K2
  | [], _, h => hk _ h
  | (r, o) :: l, hp, h => by
    simp only [addNew] at h ⊢
    cases e : get hp r with
    | none => rw [e] at h; exact addNew_mono hk h
    | some _ => rw [e] at h; exact h
theorem Sim.putSlot {v : AV} {u : Value} (S : Sim G N μ I sl hp a w) (hd : d < N) (hv : v.rep μ w I hp u) : Sim G N μ I ((d, v) :: sl) hp (a.put (some d) u) w :=
  ⟨S.slots.put S.size hd hv, S.heap, by simp only [Act.put, Array.size_setIfInBounds]; exact S.size, S.defers, S.frames⟩
theorem guarded_sound (T : TyOk P E.tt) (F : FnsOk P E) {ops : Array Oper} (S : Sim G N μ I sl hp a w) (h : (guarded ops.toList o (step E d f o.op)).wp sl hp (Then G N sl a o.dst K hp)) :
    if Region.wanted o (yielded ops a.tmps) then o.wp P a w K Q else K (a.put o.dst undef) w := by
  unfold guarded at h
  cases hg : o.guard with
  | none =>
    rw [hg] at h
    have hw : Region.wanted o (yielded ops a.tmps) = true := by simp [Region.wanted, hg]
    rw [if_pos hw]
    exact step_sound T F S h
  | some jw =>
    obtain ⟨j, want⟩ := jw
    rw [hg] at h
    simp only at h
    cases hj : (ops.toList[j]?).bind (·.dst) with
    | none => rw [hj] at h; exact h.elim
    | some g =>
      rw [hj] at h
      obtain ⟨v, hv, h⟩ := slot_wp h
      obtain ⟨u, hu, hr⟩ := S.slots g v hv
      have hb : (∃ b, v = av (.bool b) ∧ Br (b == want) ((step E d f o.op).wp sl hp (Then G N sl a o.dst K hp)) (Then G N sl a o.dst K hp (.mk (av undef) [] []))) ∨ ∃ t, v = av (.tuple t) ∧ Then G N sl a o.dst K hp (.mk (av undef) [] []) := by
        cases v with
        | d x => cases x with
          | a x => cases x with
            | bool b => cases want with
              | true => exact .inl ⟨b, rfl, ⟨fun e => Br.t (show Br b _ _ from h) (by simpa using e), fun e => Br.f (show Br b _ _ from h) (by simpa using e)⟩⟩
              | false => exact .inl ⟨b, rfl, ⟨fun e => Br.f (show Br b _ _ from h) (by simpa using e), fun e => Br.t (show Br b _ _ from h) (by simpa using e)⟩⟩
            | tuple t => exact .inr ⟨t, rfl, h⟩
            | _ => exact h.elim
          | vs _ _ _ _ => exact h.elim
        | _ => exact h.elim
      rcases hb with ⟨b, rfl, hB⟩ | ⟨t, rfl, hB⟩
      case inr =>
        have hu' := rep_a hr
        subst hu'
        have hw : Region.wanted o (yielded ops a.tmps) = false := by
          have : (ops[j]?).bind (·.dst) = some g := by rw [← Array.getElem?_toList]; exact hj
          simp [Region.wanted, hg, yielded, this, hu]
        rw [hw, if_neg (by decide)]
        exact hB μ I undef w S undef_rep
      have hu' := rep_a hr
      subst hu'
      have hw : Region.wanted o (yielded ops a.tmps) = (b == want) := by
        have : (ops[j]?).bind (·.dst) = some g := by rw [← Array.getElem?_toList]; exact hj
        simp [Region.wanted, hg, yielded, this, hu]
      rw [hw]
      cases hbw : (b == want) with
      | true => rw [if_pos rfl]; exact step_sound T F S (hB.t hbw)
      | false => rw [if_neg (by simp)]; exact hB.f hbw μ I undef w S undef_rep
/-- The operations in the order of the text. -/
theorem reg_sound (T : TyOk P E.tt) (F : FnsOk P E) {ops : Array Oper} {R : Slots → Heap → Prop} (hQ : ∀ μ I sl hp a w, Sim G E.nt μ I sl hp a w → R sl hp → Q .normal a w) :
    ∀ (l : List Oper) {μ : Mu} {I : Nat → Prop} {sl : Slots} {hp : Heap} {a : Act} {w : World}, Sim G E.nt μ I sl hp a w → regWp E ops.toList l sl hp R → wpList P ops Q l a w
  | [], μ, I, sl, hp, a, w, S, h => wpList_nil (hQ μ I sl hp a w S h)
  | o :: l, μ, I, sl, hp, a, w, S, h => by
    unfold regWp at h
    refine wpList_step fun K hk => ?_
    cases hd : o.dst with
    | some d =>
      rw [hd] at h
      simp only at h
      split at h
      · exact h.elim
      · rename_i hlt
        have hlt : d < E.nt := by simpa [Nat.blt_eq] using hlt
        have := guarded_sound (K := K) (Q := Q) T F S (wp_mono (Q' := Then G E.nt sl a o.dst K hp) (fun e he => ?_) h)
        · rw [hd] at this; exact this
        · cases e with
          | mk v up nw =>
            simp only [AV.go_eq, goH_eq, setK_eq] at he
            exact addNew_mono (fun hp' hr μ' I' u w' S' hv => hk _ _ (reg_sound T F hQ l (by rw [hd]; exact S'.putSlot hlt hv) hr)) he
    | none =>
      rw [hd] at h
      have := guarded_sound (K := K) (Q := Q) T F S (wp_mono (Q' := Then G E.nt sl a o.dst K hp) (fun e he => ?_) h)
      · rw [hd] at this; exact this
      · cases e with
        | mk v up nw =>
          simp only [AV.go_eq, goH_eq, setK_eq] at he
          exact addNew_mono (fun hp' hr μ' I' u w' S' hv => hk _ _ (reg_sound T F hQ l (by rw [hd]; exact S') hr)) he
end
end Go.XM
