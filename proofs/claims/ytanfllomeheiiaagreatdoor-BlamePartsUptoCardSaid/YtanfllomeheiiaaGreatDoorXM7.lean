/- The abstract machine's operations are the model's: addresses, slices, sums. -/
import Derived.Test.YtanfllomeheiiaaGreatDoorXM6
set_option linter.unusedVariables false
set_option linter.unusedSimpArgs false
namespace Go.XM
open RM Go.RowKit
section
variable {P : Program} {E : Env} {G : Ctx} {N : Nat} {μ : Mu} {I : Nat → Prop} {sl : Slots} {hp : Heap} {a : Act} {w : World} {K : Act → World → Prop} {Q : Exit → Act → World → Prop} {o : Oper} {d f : Nat}
theorem run_und {t : Nat} {u : TypeDesc} (h : P.underlying t = some u) : (underlying t).run P w = .ok u w := run_underlying h w
theorem run_size {t : Nat} {i : TypeInfo} (h : P.info? t = some i) : (sizeOf t).run P w = .ok i.size w := by simp [sizeOf, typeInfo, h]
theorem op_fieldAddr {t q : Nat} {x : Operand} (ho : o.op = .fieldAddr t x q) (T : TyOk P E.tt) (S : Sim G N μ I sl hp a w) (h : (step E d f (.fieldAddr t x q)).wp sl hp (Then G N sl a o.dst K hp)) : o.wp P a w K Q := by
  unfold step at h
  rw [wp_bind] at h
  obtain ⟨td, fo, y, ht, hk, hy, h⟩ := fieldOf_wp h
  obtain ⟨g⟩ := T.good ht
  obtain ⟨fs, fl, i, u, hu, hfl, hi, hu2, rfl⟩ := g.field hk hy
  rw [wp_bind] at h
  obtain ⟨v, h, hv⟩ := opd_wp S.slots h
  obtain ⟨hb, h⟩ := need_wp h
  have hne : i.size ≠ 0 := by have : 0 < i.size := by simpa [Nat.blt_eq] using hb
                              omega
  have hrun : ∀ {p : Addr}, a.eval x = .pointer (some p) → (execOp a.eval o).run P w = .ok (.value (.pointer (some (p.add fl.offset)))) w := fun {p} e => by
    simp [execOp, ho, e, Instr.fieldAt, run_und hu, hfl, Instr.sureAddr, fieldPlace, run_size hi, hne]
  cases v with
  | pc r j =>
    rw [AV.rep] at hv
    obtain ⟨p, e, ob, hob, hv⟩ := hv
    refine upV (hrun e) (h μ I _ w S ?_)
    rw [AV.rep]
    refine ⟨_, rfl, ob, hob, fun cs ec => ?_⟩
    obtain ⟨b, z, hm, rfl⟩ := hv cs ec
    exact ⟨b, z, hm, add_lit0 _ _ _⟩
  | pr r i' j =>
    rw [AV.rep] at hv
    obtain ⟨p, e, ob, hob, hv⟩ := hv
    refine upV (hrun e) (h μ I _ w S ?_)
    rw [AV.rep]
    refine ⟨_, rfl, ob, hob, fun n k c ec => ?_⟩
    obtain ⟨hi', b, z, hm, rfl⟩ := hv n k c ec
    exact ⟨hi', b, z, hm, by rw [add_lit0, Nat.add_assoc]⟩
  | pa r i' j =>
    rw [AV.rep] at hv
    obtain ⟨p, e, ob, hob, hv⟩ := hv
    refine upV (hrun e) (h μ I _ w S ?_)
    rw [AV.rep]
    refine ⟨_, rfl, ob, hob, fun n k c ec => ?_⟩
    obtain ⟨hi', b, z, hm, rfl⟩ := hv n k c ec
    exact ⟨hi', b, z, hm, by rw [add_lit0, Nat.add_assoc]⟩
  | pv n k c i' j =>
    rw [AV.rep] at hv
    obtain ⟨b, off, e, hi', hI, hv⟩ := hv
    refine upV (hrun e) (h μ I _ w S ?_)
    rw [AV.rep]
    exact ⟨b, off, by rw [add_lit0, Nat.add_assoc, Nat.add_assoc], hi', hI, hv⟩
  | _ => exact h.elim
/-- A part of a struct's cells. -/
theorem run_part {t : Nat} {i : TypeInfo} {u : TypeDesc} {cs : List AV} {ar : Array Value} {off : Nat} (hi : P.info? t = some i) (hu : P.underlying t = some u) (hr : AV.reps μ w I hp cs ar.toList) {R : AV → Prop} (h : (wrapT (aggD (some u)) ((cs.drop off).take i.size)).wp sl hp R) :
    ∃ v x, R v ∧ v.rep μ w I hp x ∧ (part t ar off).run P w = .ok x w := by
  have hagg : (isAgg t).run P w = .ok (aggD (some u)) w := by
    unfold isAgg
    rw [Sem.run_bind, run_underlying hu]
    cases u <;> rfl
  have hs := reps_take i.size (reps_drop off hr)
  rcases wrapT_wp h with ⟨hb, h2⟩ | ⟨hb, v, e, h2⟩
  · refine ⟨_, .agg (ar.extract off (off + i.size)), h2, ?_, by simp [part, hagg, hb, run_size hi]⟩
    rw [AV.rep]
    refine ⟨_, rfl, ?_⟩
    rw [Array.toList_extract, List.extract_eq_take_drop, show off + i.size - off = i.size from by omega]
    exact hs
  · rw [e] at hs
    cases hl : (ar.toList.drop off).take i.size with
    | nil => rw [hl] at hs; exact hs.elim
    | cons y l =>
      rw [hl] at hs
      have hy : ar[off]? = some y := by
        have : ((ar.toList.drop off).take i.size)[0]? = some y := by rw [hl]; rfl
        rw [List.getElem?_take] at this
        split at this
        · rw [List.getElem?_drop] at this; simpa using this
        · cases this
      exact ⟨v, y, h2, hs.1, by simp [part, hagg, hb, hy]⟩
theorem op_field {t q : Nat} {x : Operand} (ho : o.op = .field t x q) (T : TyOk P E.tt) (S : Sim G N μ I sl hp a w) (h : (step E d f (.field t x q)).wp sl hp (Then G N sl a o.dst K hp)) : o.wp P a w K Q := by
  unfold step at h
  rw [wp_bind] at h
  obtain ⟨td, fo, y, ht, hk, hy, h⟩ := fieldOf_wp h
  obtain ⟨g⟩ := T.good ht
  obtain ⟨fs, fl, i, u, hu, hfl, hi, hu2, rfl⟩ := g.field hk hy
  rw [wp_bind] at h
  obtain ⟨v, h, hv⟩ := opd_wp S.slots h
  cases v with
  | agg cs =>
    rw [AV.rep] at hv
    obtain ⟨ar, e, hr⟩ := hv
    have h : ((wrapT (aggD (some u)) ((cs.drop fl.offset).take i.size)).bind fun v => RM.pure (Eff.mk v [] [])).wp sl hp (Then G N sl a o.dst K hp) := h
    rw [wp_bind] at h
    obtain ⟨v, x', h, hv, hrun⟩ := run_part (P := P) hi hu2 hr h
    exact upV (u := x') (w' := w) (by simp [execOp, ho, e, Instr.field, run_und hu, hfl, asAgg, hrun]) (h μ I _ w S hv)
  | _ => exact h.elim
theorem op_extract {q : Nat} {x : Operand} (ho : o.op = .extract x q) (S : Sim G N μ I sl hp a w) (h : (step E d f (.extract x q)).wp sl hp (Then G N sl a o.dst K hp)) : o.wp P a w K Q := by
  unfold step at h
  rw [wp_bind] at h
  obtain ⟨v, h, hv⟩ := opd_wp S.slots h
  cases v with
  | tup vs =>
    rw [AV.rep] at hv
    obtain ⟨ar, e, hr⟩ := hv
    cases hq : vs[q]? with
    | none => simp only [hq] at h; exact h.elim
    | some y =>
      simp only [hq] at h
      obtain ⟨u, hu, hur⟩ := reps_get hr hq
      exact upV (u := u) (w' := w) (by
        have : ar[q]? = some u := by simpa using hu
        simp [execOp, ho, e, Instr.extract, this]) (h μ I _ w S hur)
  | _ => exact h.elim
theorem op_index {t : Nat} {x y : Operand} (ho : o.op = .index t x y) (T : TyOk P E.tt) (S : Sim G N μ I sl hp a w) (h : (step E d f (.index t x y)).wp sl hp (Then G N sl a o.dst K hp)) : o.wp P a w K Q := by
  unfold step at h
  rw [wp_bind] at h
  obtain ⟨td, ht, h⟩ := ty_wp h
  obtain ⟨g⟩ := T.good ht
  rw [wp_bind] at h
  obtain ⟨v, h, hv⟩ := opd_wp S.slots h
  rw [wp_bind] at h
  obtain ⟨v2, h, hv2⟩ := opd_wp S.slots h
  split at h
  · rename_i s hk _
    rw [wp_bind] at h
    obtain ⟨k, i, rfl, h0, h1, h⟩ := inBound_wp h
    have e1 := rep_a hv
    have e2 := rep_a hv2
    have hkk := g.k
    rw [hk] at hkk
    have hund : P.underlying t = some .string := by rw [g.und, hkk]
    refine upV (u := .int .u8 (s.data.getD i.toNat 0).toNat) (w' := w) ?_ (h μ I _ w S (a_rep _))
    have hlt : i.toNat < s.size := by omega
    have hb : s[i.toNat]? = some (s.data.getD i.toNat 0) := by
      rw [ByteArray.getElem?_lt' s _ hlt]
      simp only [Array.getD_eq_getD_getElem?]
      rw [Array.getElem?_eq_getElem (by exact hlt)]
      rfl
    simp [execOp, ho, e1, e2, Instr.index, asIntOf, run_und hund, h0, hb]
  · exact h.elim
theorem op_indexAddr {t : Nat} {x y : Operand} (ho : o.op = .indexAddr t x y) (T : TyOk P E.tt) (S : Sim G N μ I sl hp a w) (h : (step E d f (.indexAddr t x y)).wp sl hp (Then G N sl a o.dst K hp)) : o.wp P a w K Q := by
  unfold step at h
  rw [wp_bind] at h
  obtain ⟨td, ht, h⟩ := ty_wp h
  obtain ⟨g⟩ := T.good ht
  rw [wp_bind] at h
  obtain ⟨v, h, hv⟩ := opd_wp S.slots h
  rw [wp_bind] at h
  obtain ⟨v2, h, hv2⟩ := opd_wp S.slots h
  have hkk := g.k
  cases hel : td.k with
  | slice el =>
    rw [hel] at h hkk
    have hund : P.underlying t = some (.slice el) := by rw [g.und, hkk]
    have h : ((ty E el).bind _).wp sl hp (Then G N sl a o.dst K hp) := h
    rw [wp_bind] at h
    obtain ⟨te, hte, h⟩ := ty_wp h
    obtain ⟨ge⟩ := T.good hte
    have hs := fun (w : World) => ge.sizeOf w
    cases v with
    | d x' =>
      cases x' with
      | a _ => exact h.elim
      | vs ex n k c =>
        obtain ⟨hb, h⟩ := need_wp h
        have hk := Nat.eq_of_beq_eq_true hb
        rw [wp_bind] at h
        obtain ⟨kk, i, rfl, h0, h1, h⟩ := inBound_wp h
        have e2 := rep_a hv2
        rw [AV.rep, D.rep] at hv
        obtain ⟨A, cap, e, hc, hx, hv⟩ := hv
        obtain ⟨b, off, rfl, hI, hv⟩ := hv (by omega)
        refine upV (u := .pointer (some ⟨b, off + (i.toNat * k + 0), none⟩)) (w' := w) ?_ (h μ I _ w S (by rw [AV.rep]; exact ⟨b, off, rfl, by omega, hI, hv⟩))
        simp [execOp, ho, e, e2, Instr.indexAt, asIntOf, run_und hund, h0, h1, hs, hk, add_lit0]
    | rs r off len =>
      obtain ⟨ob, e, h⟩ := obj_wp h
      cases ob with
      | row n k c =>
        obtain ⟨hb, h⟩ := need_wp h
        have hk := Nat.eq_of_beq_eq_true hb
        rw [wp_bind] at h
        obtain ⟨kk, i, rfl, h0, h1, h⟩ := inBound_wp h
        have e2 := rep_a hv2
        rw [AV.rep] at hv
        obtain ⟨A, cap, ex, hc, ob, e3, hv⟩ := hv
        rw [e] at e3; injection e3 with e3; subst e3
        obtain ⟨hn, hv⟩ := hv _ _ _ rfl
        rcases hv with ⟨_, hv⟩ | ⟨b, z, hm, hA, hz⟩
        · omega
        have hA := hA (by omega)
        subst hA
        refine upV (u := .pointer (some ⟨b, (off + i.toNat) * k + 0, none⟩)) (w' := w) ?_ (h μ I _ w S ?_)
        · simp [execOp, ho, ex, e2, Instr.indexAt, asIntOf, run_und hund, h0, h1, hs, ← hk, add_lit0, Nat.add_mul]
        · rw [AV.rep]
          refine ⟨_, rfl, _, e, fun n' k' c' eo => ?_⟩
          injection eo with q1 q2 q3
          subst q1; subst q2
          exact ⟨by omega, b, z, hm, rfl⟩
      | _ => exact h.elim
    | ra r off len =>
      obtain ⟨ob, e, h⟩ := obj_wp h
      cases ob with
      | rowA n k c =>
        obtain ⟨hb, h⟩ := need_wp h
        have hk := Nat.eq_of_beq_eq_true hb
        rw [wp_bind] at h
        obtain ⟨kk, i, rfl, h0, h1, h⟩ := inBound_wp h
        have e2 := rep_a hv2
        rw [AV.rep] at hv
        obtain ⟨A, cap, ex, hc, ob, e3, hv⟩ := hv
        rw [e] at e3; injection e3 with e3; subst e3
        obtain ⟨hn, hv⟩ := hv _ _ _ rfl
        rcases hv with ⟨_, hv⟩ | ⟨b, z, hm, hA, hz⟩
        · omega
        have hA := hA (by omega)
        subst hA
        refine upV (u := .pointer (some ⟨b, (off + i.toNat) * k + 0, none⟩)) (w' := w) ?_ (h μ I _ w S ?_)
        · simp [execOp, ho, ex, e2, Instr.indexAt, asIntOf, run_und hund, h0, h1, hs, ← hk, add_lit0, Nat.add_mul]
        · rw [AV.rep]
          refine ⟨_, rfl, _, e, fun n' k' c' eo => ?_⟩
          injection eo with q1 q2 q3
          subst q1; subst q2
          exact ⟨by omega, b, z, hm, rfl⟩
      | _ => exact h.elim
    | _ => exact h.elim
  | arr m el =>
    rw [hel] at h hkk
    have hund : P.underlying t = some (.array m el) := by rw [g.und, hkk]
    have h : ((ty E el).bind _).wp sl hp (Then G N sl a o.dst K hp) := h
    rw [wp_bind] at h
    obtain ⟨te, hte, h⟩ := ty_wp h
    obtain ⟨ge⟩ := T.good hte
    have hs := fun (w : World) => ge.sizeOf w
    split at h
    · rename_i r
      obtain ⟨ob, e, h⟩ := obj_wp h
      cases ob with
      | row n k c =>
        obtain ⟨hb, h⟩ := need_wp h
        rw [Bool.and_eq_true] at hb
        have hk := Nat.eq_of_beq_eq_true hb.1
        have hmn := Nat.eq_of_beq_eq_true hb.2
        rw [wp_bind] at h
        obtain ⟨kk, i, rfl, h0, h1, h⟩ := inBound_wp h
        have e2 := rep_a hv2
        rw [AV.rep] at hv
        obtain ⟨p, ex, ob, e3, hv⟩ := hv
        rw [e] at e3; injection e3 with e3; subst e3
        obtain ⟨hn, b, z, hm, rfl⟩ := hv _ _ _ rfl
        refine upV (u := .pointer (some ⟨b, i.toNat * k + 0, none⟩)) (w' := w) ?_ (h μ I _ w S ?_)
        · have h1' : i < (m : Int) := by omega
          simp [execOp, ho, ex, e2, Instr.indexAt, asIntOf, run_und hund, Instr.sureAddr, h0, h1', hs, ← hk, add_lit0]
        · rw [AV.rep]
          refine ⟨_, rfl, _, e, fun n' k' c' eo => ?_⟩
          injection eo with q1 q2 q3
          subst q1; subst q2
          exact ⟨by omega, b, z, hm, rfl⟩
      | _ => exact h.elim
    · rename_i r
      obtain ⟨ob, e, h⟩ := obj_wp h
      cases ob with
      | rowA n k c =>
        obtain ⟨hb, h⟩ := need_wp h
        rw [Bool.and_eq_true] at hb
        have hk := Nat.eq_of_beq_eq_true hb.1
        have hmn := Nat.eq_of_beq_eq_true hb.2
        rw [wp_bind] at h
        obtain ⟨kk, i, rfl, h0, h1, h⟩ := inBound_wp h
        have e2 := rep_a hv2
        rw [AV.rep] at hv
        obtain ⟨p, ex, ob, e3, hv⟩ := hv
        rw [e] at e3; injection e3 with e3; subst e3
        obtain ⟨hn, b, z, hm, rfl⟩ := hv _ _ _ rfl
        refine upV (u := .pointer (some ⟨b, i.toNat * k + 0, none⟩)) (w' := w) ?_ (h μ I _ w S ?_)
        · have h1' : i < (m : Int) := by omega
          simp [execOp, ho, ex, e2, Instr.indexAt, asIntOf, run_und hund, Instr.sureAddr, h0, h1', hs, ← hk, add_lit0]
        · rw [AV.rep]
          refine ⟨_, rfl, _, e, fun n' k' c' eo => ?_⟩
          injection eo with q1 q2 q3
          subst q1; subst q2
          exact ⟨by omega, b, z, hm, rfl⟩
      | _ => exact h.elim
    · exact h.elim
  | _ => rw [hel] at h; exact h.elim
end
end Go.XM
