/- The abstract machine's operations are the model's: slices, sums, struct literals. -/
import Derived.Test.YtanfllomeheiiaaGreatDoorXMS
set_option linter.unusedVariables false
set_option linter.unusedSimpArgs false
namespace Go.XM
open RM Go.RowKit
section
variable {P : Program} {E : Env} {G : Ctx} {N : Nat} {μ : Mu} {I : Nat → Prop} {sl : Slots} {hp : Heap} {a : Act} {w : World} {K : Act → World → Prop} {Q : Exit → Act → World → Prop} {o : Oper} {d f : Nat}
theorem oopd_wp {x : Option Operand} {R : Option AV → Prop} (hs : SlotsRep μ w I hp sl a) (h : (oopd x).wp sl hp R) : ∃ v, R v ∧ ((x = none ∧ v = none) ∨ ∃ y v', x = some y ∧ v = some v' ∧ v'.rep μ w I hp (a.eval y)) := by
  cases x with
  | none => exact ⟨none, h, .inl ⟨rfl, rfl⟩⟩
  | some y =>
    unfold oopd at h
    rw [wp_bind] at h
    obtain ⟨v, h, hv⟩ := opd_wp hs h
    exact ⟨some v, h, .inr ⟨y, v, rfl, rfl, hv⟩⟩
/-- A bound of a slice expression. -/
def Bnd (x : Option Operand) (a : Act) (dflt n h : Nat) : Prop := (x = none ∧ h = dflt) ∨ ∃ y k i, x = some y ∧ a.eval y = .int k i ∧ 0 ≤ i ∧ i ≤ n ∧ h = i.toNat
theorem upTo_wp {x : Option Operand} {v : Option AV} {dflt n : Nat} {R : Nat → Prop} (hx : (x = none ∧ v = none) ∨ ∃ y v', x = some y ∧ v = some v' ∧ v'.rep μ w I hp (a.eval y)) (h : (upTo v dflt n).wp sl hp R) : ∃ m, R m ∧ Bnd x a dflt n m := by
  rcases hx with ⟨rfl, rfl⟩ | ⟨y, v', rfl, rfl, hv⟩
  · exact ⟨dflt, h, .inl ⟨rfl, rfl⟩⟩
  · unfold upTo at h
    simp only at h
    rw [wp_bind] at h
    obtain ⟨k, i, rfl, h⟩ := asI_wp h
    exact ⟨i.toNat, h.r, .inr ⟨y, k, i, rfl, rep_a hv, h.l.1, h.l.2, rfl⟩⟩
theorem Bnd.le {x : Option Operand} {dflt n h : Nat} (b : Bnd x a dflt n h) (hd : dflt ≤ n) : h ≤ n := by
  rcases b with ⟨_, rfl⟩ | ⟨y, k, i, _, _, h0, h1, rfl⟩
  · exact hd
  · omega
theorem run_bounds {isS : Bool} {len cap n h l : Nat} {lo hi : Option Operand} (bh : Bnd hi a len n h) (hn : n ≤ cap) (bl : Bnd lo a 0 h l) :
    (Instr.sliceBounds isS len cap (lo.map a.eval) (hi.map a.eval) none).run P w = .ok (l, h, cap) w := by
  rcases bh with ⟨rfl, rfl⟩ | ⟨y, k, i, rfl, ey, h0, h1, rfl⟩ <;> rcases bl with ⟨rfl, rfl⟩ | ⟨y2, k2, i2, rfl, ey2, g0, g1, rfl⟩
  · simp [Instr.sliceBounds]
  · simp [Instr.sliceBounds, Instr.sliceBound, asIntOf, ey2, g0, g1]
  · have : i ≤ (cap : Int) := by omega
    simp [Instr.sliceBounds, Instr.sliceBound, asIntOf, ey, h0, this]
  · have : i ≤ (cap : Int) := by omega
    have g1' : i2 ≤ (i.toNat : Int) := g1
    simp [Instr.sliceBounds, Instr.sliceBound, asIntOf, ey, ey2, h0, this, g0]
    intro hh
    omega
theorem op_slice {t : Nat} {x : Operand} {lo hi : Option Operand} (ho : o.op = .slice t x lo hi none) (T : TyOk P E.tt) (S : Sim G N μ I sl hp a w) (h : (step E d f (.slice t x lo hi none)).wp sl hp (Then G N sl a o.dst K hp)) : o.wp P a w K Q := by
  unfold step at h
  have h : ((ty E t).bind _).wp sl hp (Then G N sl a o.dst K hp) := h
  rw [wp_bind] at h
  obtain ⟨td, ht, h⟩ := ty_wp h
  obtain ⟨g⟩ := T.good ht
  have hkk := g.k
  rw [wp_bind] at h
  obtain ⟨v, h, hv⟩ := opd_wp S.slots h
  rw [wp_bind] at h
  obtain ⟨vlo, h, hlo⟩ := oopd_wp S.slots h
  rw [wp_bind] at h
  obtain ⟨vhi, h, hhi⟩ := oopd_wp S.slots h
  have hrunS : ∀ {e : Nat} {ie : TypeInfo} {A : Option Addr} {len cap n hh l : Nat}, P.underlying t = some (.slice e) → P.info? e = some ie → a.eval x = .slice A len cap → Bnd hi a len n hh → n ≤ cap → Bnd lo a 0 hh l →
      (execOp a.eval o).run P w = .ok (.value (.slice (if cap = l then A else A.map (·.add (l * ie.size))) (hh - l) (cap - l))) w := by
    intro e ie A len cap n hh l hu hi' ex bh hn bl
    simp [execOp, ho, ex, Instr.sliceAt, run_und hu, Instr.slice, run_bounds bh hn bl, run_size hi']
  cases v with
  | d x' =>
    cases x' with
    | a val =>
      cases val with
      | string s =>
        cases hk : td.k with
        | str =>
          rw [hk] at h hkk
          have h : ((upTo vhi s.size s.size).bind _).wp sl hp (Then G N sl a o.dst K hp) := h
          rw [wp_bind] at h
          obtain ⟨hh, h, bh⟩ := upTo_wp hhi h
          rw [wp_bind] at h
          obtain ⟨l, h, bl⟩ := upTo_wp hlo h
          have hund : P.underlying t = some .string := by rw [g.und, hkk]
          rw [← ext_eq] at h
          refine upV (u := .string (s.extract l hh)) (w' := w) ?_ (h μ I _ w S (a_rep _))
          simp [execOp, ho, rep_a hv, Instr.sliceAt, run_und hund, Instr.slice, run_bounds bh (Nat.le_refl _) bl]
        | _ => rw [hk] at h; exact h.elim
      | slice A n c =>
        cases A with
        | some _ => exact h.elim
        | none =>
          match n, c with
          | 0, 0 =>
            cases hk : td.k with
            | slice e =>
              rw [hk] at h hkk
              have hund : P.underlying t = some (.slice e) := by rw [g.und, hkk]
              have h : ((ty E e).bind _).wp sl hp (Then G N sl a o.dst K hp) := h
              rw [wp_bind] at h
              obtain ⟨te, hte, h⟩ := ty_wp h
              obtain ⟨ge⟩ := T.good hte
              rw [wp_bind] at h
              obtain ⟨hh, h, bh⟩ := upTo_wp hhi h
              rw [wp_bind] at h
              obtain ⟨l, h9, bl⟩ := upTo_wp hlo h
              have hh0 : hh = 0 := Nat.le_zero.1 (bh.le (Nat.le_refl _))
              have hl0 : l = 0 := by have := bl.le (Nat.zero_le _); omega
              subst hh0; subst hl0
              exact upV (hrunS hund ge.info (rep_a hv) bh (Nat.le_refl _) bl) (h9 μ I _ w S (a_rep _))
            | _ => rw [hk] at h; exact h.elim
          | 0, _ + 1 => exact h.elim
          | _ + 1, _ => exact h.elim
      | _ => exact h.elim
    | vs ex n k c =>
      cases hk : td.k with
      | slice e =>
        rw [hk] at h hkk
        have hund : P.underlying t = some (.slice e) := by rw [g.und, hkk]
        have h : ((ty E e).bind _).wp sl hp (Then G N sl a o.dst K hp) := h
        rw [wp_bind] at h
        obtain ⟨te, hte, h⟩ := ty_wp h
        obtain ⟨ge⟩ := T.good hte
        obtain ⟨hb, h⟩ := need_wp h
        have hks := Nat.eq_of_beq_eq_true hb
        rw [wp_bind] at h
        obtain ⟨hh, h, bh⟩ := upTo_wp hhi h
        rw [wp_bind] at h
        obtain ⟨l, h, bl⟩ := upTo_wp hlo h
        have hle := bh.le (Nat.le_refl _)
        have hll := bl.le (Nat.zero_le _)
        rw [AV.rep, D.rep] at hv
        obtain ⟨A, cap, e1, hc, hx, hv⟩ := hv
        refine upV (hrunS hund ge.info e1 bh hc bl) (h μ I _ w S ?_)
        rw [AV.rep, D.rep]
        refine ⟨_, _, rfl, by omega, fun he => ?_, fun hpos => ?_⟩
        · rw [Bool.and_eq_true] at he
          have := hx he.1
          rcases bh with ⟨_, rfl⟩ | ⟨y, _, _, e3, _⟩
          · omega
          · rcases hhi with ⟨e4, _⟩ | ⟨y', v', e4, e5, _⟩
            · rw [e4] at e3; cases e3
            · rw [e5] at he; exact absurd he.2 (by simp)
        · obtain ⟨b, off, rfl, hI, hv⟩ := hv (by omega)
          refine ⟨b, off + l * k, ?_, hI, fun i j hi hj => ?_⟩
          · rw [if_neg (by omega), ge.size, ← hks]; simp [add_lit0]
          · obtain ⟨u, hu, hu1, hur⟩ := hv (l + i) j (by omega) hj
            exact ⟨u, by rw [← hu, Nat.add_mul]; congr 2; omega, hu1, hur⟩
      | _ => rw [hk] at h; exact h.elim
  | rs r off len =>
    cases hk : td.k with
    | slice e =>
      rw [hk] at h hkk
      have hund : P.underlying t = some (.slice e) := by rw [g.und, hkk]
      have h : ((ty E e).bind _).wp sl hp (Then G N sl a o.dst K hp) := h
      rw [wp_bind] at h
      obtain ⟨te, hte, h⟩ := ty_wp h
      obtain ⟨ge⟩ := T.good hte
      obtain ⟨ob, eo, h⟩ := obj_wp h
      cases ob with
      | row n k c =>
        obtain ⟨hb, h⟩ := need_wp h
        have hks := Nat.eq_of_beq_eq_true hb
        rw [wp_bind] at h
        obtain ⟨hh, h, bh⟩ := upTo_wp hhi h
        rw [wp_bind] at h
        obtain ⟨l, h, bl⟩ := upTo_wp hlo h
        have hle := bh.le (Nat.le_refl _)
        have hll := bl.le (Nat.zero_le _)
        rw [AV.rep] at hv
        obtain ⟨A, cap, e1, hc, ob, e3, hv⟩ := hv
        rw [eo] at e3; injection e3 with e3; subst e3
        refine upV (hrunS hund ge.info e1 bh hc bl) (h μ I _ w S ?_)
        rw [AV.rep]
        refine ⟨_, _, rfl, by omega, _, eo, fun n' k' c' eq => ?_⟩
        injection eq with q1 q2 q3
        subst q1; subst q2
        obtain ⟨hn, hv⟩ := hv _ _ _ rfl
        refine ⟨by omega, ?_⟩
        rcases hv with ⟨hm, hc0⟩ | ⟨b, z, hm, hA, hz⟩
        · exact .inl ⟨hm, by omega⟩
        · refine .inr ⟨b, z, hm, fun hpos => ?_, Nat.le_trans (Nat.mul_le_mul_right _ (by omega)) hz⟩
          rw [hA (by omega), if_neg (by omega), ge.size, ← hks]
          simp [add_lit0, Nat.add_mul]
      | _ => exact h.elim
    | _ => rw [hk] at h; exact h.elim
  | ra r off len =>
    cases hk : td.k with
    | slice e =>
      rw [hk] at h hkk
      have hund : P.underlying t = some (.slice e) := by rw [g.und, hkk]
      have h : ((ty E e).bind _).wp sl hp (Then G N sl a o.dst K hp) := h
      rw [wp_bind] at h
      obtain ⟨te, hte, h⟩ := ty_wp h
      obtain ⟨ge⟩ := T.good hte
      obtain ⟨ob, eo, h⟩ := obj_wp h
      cases ob with
      | rowA n k c =>
        obtain ⟨hb, h⟩ := need_wp h
        have hks := Nat.eq_of_beq_eq_true hb
        rw [wp_bind] at h
        obtain ⟨hh, h, bh⟩ := upTo_wp hhi h
        rw [wp_bind] at h
        obtain ⟨l, h, bl⟩ := upTo_wp hlo h
        have hle := bh.le (Nat.le_refl _)
        have hll := bl.le (Nat.zero_le _)
        rw [AV.rep] at hv
        obtain ⟨A, cap, e1, hc, ob, e3, hv⟩ := hv
        rw [eo] at e3; injection e3 with e3; subst e3
        refine upV (hrunS hund ge.info e1 bh hc bl) (h μ I _ w S ?_)
        have hsome : (if cap = l then some A else (some A).map (·.add (l * ge.i.size))) = some (if cap = l then A else A.add (l * ge.i.size)) := by split <;> rfl
        rw [hsome, AV.rep]
        refine ⟨_, _, rfl, by omega, _, eo, fun n' k' c' eq => ?_⟩
        injection eq with q1 q2 q3
        subst q1; subst q2
        obtain ⟨hn, hv⟩ := hv _ _ _ rfl
        refine ⟨by omega, ?_⟩
        rcases hv with ⟨hm, hc0⟩ | ⟨b, z, hm, hA, hz⟩
        · exact .inl ⟨hm, by omega⟩
        · refine .inr ⟨b, z, hm, fun hpos => ?_, Nat.le_trans (Nat.mul_le_mul_right _ (by omega)) hz⟩
          rw [hA (by omega), if_neg (by omega), ge.size, ← hks]
          simp [add_lit0, Nat.add_mul]
      | _ => exact h.elim
    | _ => rw [hk] at h; exact h.elim
  | _ => exact h.elim
/-! ### sums -/
theorem eqG {op : BinOp} {t : Nat} {x y : Operand} {u v : Value} (h1 : ∀ q, u ≠ .agg q) (h2 : u ≠ .nilIface) : eqGuard op t x y u v = (Pure.pure () : Sem Unit) := by
  unfold eqGuard
  cases op <;> first
    | rfl
    | (cases u <;> first | rfl | exact absurd rfl h2 | exact absurd rfl (h1 _))
theorem intOp_wp {op : BinOp} {k : IntKind} {x y : Int} {R : AV → Prop} {t : Nat} (h : (intOp op k x y).wp sl hp R) : ∃ u, R (av u) ∧ (Go.binOp op t (.int k x) (.int k y)).run P w = .ok u w := by
  cases op <;> simp only [intOp] at h <;> first
    | exact h.elim
    | exact ⟨_, h, by simp [Go.binOp, Op.intArith, Op.intCmp, Op.intBits]⟩
    | exact ⟨_, h.r, by simp [Go.binOp, Op.intDiv, h.l]⟩
theorem shOp_wp {op : BinOp} {l : Bool} {k k' : IntKind} {x y : Int} {R : AV → Prop} {t : Nat} (hop : isSh op = some l) (h : (shOp l k x y).wp sl hp R) : ∃ u, R (av u) ∧ (Go.binOp op t (.int k x) (.int k' y)).run P w = .ok u w := by
  have h1 : 0 ≤ y := h.l
  have h2 := h.r
  have hy : ¬ y < 0 := by omega
  cases op <;> simp only [isSh, Option.some.injEq, reduceCtorEq] at hop <;> subst hop
  · exact ⟨_, h2, by simp [Go.binOp, Op.shift, hy]⟩
  · exact ⟨_, h2, by simp [Go.binOp, Op.shift, hy]⟩
theorem strOp_wp {op : BinOp} {x y : ByteArray} {R : AV → Prop} {t : Nat} (h : (strOp op x y).wp sl hp R) : ∃ u, R (av u) ∧ (Go.binOp op t (.string x) (.string y)).run P w = .ok u w := by
  have e1 := eqU_eq (lsU x) (lsU y)
  have e2 := ltU_eq (lsU x) (lsU y)
  have e3 := app_eq x y
  rw [← lsU_eq, ← lsU_eq] at e1 e2 e3
  cases op <;> simp only [strOp, ← lsU_eq, e1, e2, ← e3] at h <;> first
    | exact h.elim
    | exact ⟨_, h, by simp [Go.binOp, Op.stringOp]⟩
    | exact ⟨_, h.r, by
        have hl := h.l
        have : ¬ (((x.size + y.size : Nat) : Int) > IntKind.i64.max) := by
          have : IntKind.i64.max = 9223372036854775807 := by decide
          rw [this]; omega
        simp only [Go.binOp, Op.stringOp]
        rw [if_neg this]; rfl⟩
theorem nilEq_run {k : TyK} {x y : AV} {b : Bool} {u v : Value} {t : Nat} {td : TyD} (g : TyGood P t td) (hk : td.k = k) (h : nilEq k x y = some b) (hx : x.rep μ w I hp u) (hy : y.rep μ w I hp v) :
    (Op.equal t u v).run P w = .ok b w ∧ (∀ q, u ≠ .agg q) ∧ u ≠ .nilIface ∧ (∀ q n, u ≠ .int q n) ∧ (∀ q, u ≠ .string q) ∧ (∀ q n, u ≠ .float q n) ∧ (∀ q m n, u ≠ .complex q m n) := by
  have hkk := g.k
  rw [hk] at hkk
  unfold nilEq at h
  split at h <;> first | (cases h; done) | skip
  all_goals
    injection h with h
    subst h
    first
      | (obtain ⟨e, hu⟩ := hkk; have hund := g.und; rw [hu] at hund)
      | (obtain ⟨e1, e2, e3, hu⟩ := hkk; have hund := g.und; rw [hu] at hund)
      | (have hund := g.und; rw [hkk] at hund)
  all_goals (try rw [AV.rep] at hx)
  all_goals (try rw [AV.rep] at hy)
  all_goals (try rw [D.rep] at hx)
  all_goals (try rw [D.rep] at hy)
  all_goals (try (obtain ⟨_, rfl, _⟩ := hx))
  all_goals (try (obtain ⟨_, rfl, _⟩ := hy))
  all_goals (try (obtain ⟨_, _, rfl, _⟩ := hx))
  all_goals (try subst hx)
  all_goals (try subst hy)
  all_goals refine ⟨?_, fun _ e => (by cases e), fun e => (by cases e), fun _ _ e => (by cases e), fun _ e => (by cases e), fun _ _ e => (by cases e), fun _ _ _ e => (by cases e)⟩
  all_goals
    show (Op.equalIn (9999 + 1) _ _ _).run P w = _
    unfold Op.equalIn
    simp [run_und hund]
theorem op_binOp {bo : BinOp} {t t' : Nat} {x y : Operand} (ho : o.op = .binOp bo t x y t') (T : TyOk P E.tt) (S : Sim G N μ I sl hp a w) (h : (step E d f (.binOp bo t x y t')).wp sl hp (Then G N sl a o.dst K hp)) : o.wp P a w K Q := by
  unfold step at h
  rw [wp_bind] at h
  obtain ⟨u, h, hu⟩ := opd_wp S.slots h
  rw [wp_bind] at h
  obtain ⟨v, h, hv⟩ := opd_wp S.slots h
  rw [wp_bind] at h
  have fin : ∀ {r : Value}, (eqGuard bo t x y (a.eval x) (a.eval y) = (Pure.pure () : Sem Unit)) → (Go.binOp bo t (a.eval x) (a.eval y)).run P w = .ok r w → (RM.pure (Eff.mk (av r) [] [])).wp sl hp (Then G N sl a o.dst K hp) → o.wp P a w K Q := by
    intro r hg hrun h
    exact upV (u := r) (w' := w) (by simp [execOp, ho, hg, hrun]) (h μ I _ w S (a_rep _))
  unfold binOp at h
  split at h
  · rename_i k1 p k2 q _
    split at h
    · rename_i l hl
      obtain ⟨r, h, hrun⟩ := shOp_wp (P := P) (w := w) (t := t) (k' := k2) hl h
      have e1 := rep_a hu
      have e2 := rep_a hv
      exact fin (by rw [e1]; exact eqG (fun _ e => by cases e) (fun e => by cases e)) (by rw [e1, e2]; exact hrun) h
    split at h
    · rename_i hk
      subst hk
      obtain ⟨r, h, hrun⟩ := intOp_wp (P := P) (w := w) (t := t) h
      have e1 := rep_a hu
      have e2 := rep_a hv
      exact fin (by rw [e1]; exact eqG (fun _ e => by cases e) (fun e => by cases e)) (by rw [e1, e2]; exact hrun) h
    · exact h.elim
  · obtain ⟨r, h, hrun⟩ := strOp_wp (P := P) (w := w) (t := t) h
    have e1 := rep_a hu
    have e2 := rep_a hv
    exact fin (by rw [e1]; exact eqG (fun _ e => by cases e) (fun e => by cases e)) (by rw [e1, e2]; exact hrun) h
  · rename_i p q _
    rw [wp_bind] at h
    obtain ⟨td, ht, h⟩ := ty_wp h
    obtain ⟨g⟩ := T.good ht
    have e1 := rep_a hu
    have e2 := rep_a hv
    have go : td.eqs = [1] → td.k.agg = false → (Op.equal t (.bool p) (.bool q)).run P w = .ok (p == q) w := fun hk hag => by
      have hq := g.eqs
      have hu := g.und
      have ha := g.agg
      rw [hk] at hq
      rw [hag] at ha
      generalize g.u = u at hq hu ha
      cases u with
      | bool => exact run_equal_bool w t p q hu
      | struct fs => cases ha
      | _ => cases hq
    split at h
    · exact fin (r := .bool (p == q)) (by rw [e1]; exact eqG (fun _ e => by cases e) (fun e => by cases e)) (by rw [e1, e2]; simp [Go.binOp, go (by assumption) (by assumption)]) h
    · exact fin (r := .bool (!(p == q))) (by rw [e1]; exact eqG (fun _ e => by cases e) (fun e => by cases e)) (by rw [e1, e2]; simp [Go.binOp, go (by assumption) (by assumption)]) h
    · exact h.elim
  · rename_i p q _
    rw [wp_bind] at h
    obtain ⟨td, ht, h⟩ := ty_wp h
    obtain ⟨g⟩ := T.good ht
    rw [wp_bind] at h
    obtain ⟨x1, hx1, hx2, h⟩ := keyV_wp h
    rw [wp_bind] at h
    obtain ⟨y1, hy1, hy2, h⟩ := keyV_wp h
    have e1 := val_rep hx1 hu
    have e2 := val_rep hy1 hv
    have a1 : ∃ q, x1 = .agg q := by
      unfold AV.val at hx1
      simp only at hx1
      split at hx1
      · injection hx1 with e; exact ⟨_, e.symm⟩
      · cases hx1
    have a2 : ∃ q, y1 = .agg q := by
      unfold AV.val at hy1
      simp only at hy1
      split at hy1
      · injection hy1 with e; exact ⟨_, e.symm⟩
      · cases hy1
    obtain ⟨xs, rfl⟩ := a1
    obtain ⟨ys, rfl⟩ := a2
    have hag : td.k.agg = true := by
      cases e : td.k.agg with
      | true => rfl
      | false =>
        rw [e] at hx2
        unfold keyIs at hx2
        simp only at hx2
        split at hx2
        · rename_i k; cases hx2
        · cases hx2
    have hgt : P.eqGuardType P.depth t = false := by rw [hag] at hx2; exact guard_key g hx2 hag
    split at h
    · have hrun := equal_key (P := P) (w := w) g hx2 hy2 (by assumption)
      refine upV (w' := w) ?_ (h μ I _ w S (a_rep _))
      simp [execOp, ho, e1, e2, run_eqGuard_agg w .eql t x y xs ys hgt, Go.binOp, hrun]
    · have hrun := equal_key (P := P) (w := w) g hx2 hy2 (by assumption)
      refine upV (w' := w) ?_ (h μ I _ w S (a_rep _))
      simp [execOp, ho, e1, e2, run_eqGuard_agg w .neq t x y xs ys hgt, Go.binOp, hrun]
    · exact h.elim
  · rw [wp_bind] at h
    obtain ⟨td, ht, h⟩ := ty_wp h
    obtain ⟨g⟩ := T.good ht
    cases hq : nilEq td.k u v with
    | none => rw [hq] at h; cases bo <;> exact h.elim
    | some b =>
      rw [hq] at h
      obtain ⟨hrun, g1, g2, g3, g4, g5, g6⟩ := nilEq_run (P := P) g rfl hq hu hv
      cases bo <;> first
        | exact h.elim
        | (refine fin (eqG g1 g2) ?_ h
           generalize a.eval x = p at *
           generalize a.eval y = q at *
           cases p <;> cases q <;> first
             | (exfalso; exact g3 _ _ rfl)
             | (exfalso; exact g4 _ rfl)
             | (exfalso; exact g5 _ _ rfl)
             | (exfalso; exact g6 _ _ _ rfl)
             | simp [Go.binOp, hrun])
theorem op_unOp {u : UnOp} {t : Nat} {x : Operand} (ho : o.op = .unOp u t x) (S : Sim G N μ I sl hp a w) (h : (step E d f (.unOp u t x)).wp sl hp (Then G N sl a o.dst K hp)) : o.wp P a w K Q := by
  unfold step at h
  rw [wp_bind] at h
  obtain ⟨v, h, hv⟩ := opd_wp S.slots h
  split at h
  · exact upV (w' := w) (by simp [execOp, ho, rep_a hv, Op.unary]) (h μ I _ w S (a_rep _))
  · exact upV (w' := w) (by simp [execOp, ho, rep_a hv, Op.unary, Op.intArith]) (h μ I _ w S (a_rep _))
  · exact upV (w' := w) (by simp [execOp, ho, rep_a hv, Op.unary, Op.intBits]) (h μ I _ w S (a_rep _))
  · exact h.elim
theorem op_makeFunc {fn : Fn} {xs ys : Array Operand} (ho : o.op = .makeFunc fn xs ys) (S : Sim G N μ I sl hp a w) (h : (step E d f (.makeFunc fn xs ys)).wp sl hp (Then G N sl a o.dst K hp)) : o.wp P a w K Q := by
  unfold step at h
  rw [wp_bind] at h
  obtain ⟨us, h, hus⟩ := opds_wp (Q := fun _ => True) S.slots h
  rw [wp_bind] at h
  obtain ⟨vs, h, hvs⟩ := opds_wp (Q := fun _ => True) S.slots h
  refine upV (w' := w) (u := .func fn (xs.map a.eval) (ys.map a.eval)) (by simp [execOp, ho, Instr.makeFunc]) (h μ I _ w S ?_)
  rw [AV.rep]
  exact ⟨_, _, rfl, by rw [Array.toList_map]; exact hus, by rw [Array.toList_map]; exact hvs⟩
end
end Go.XM
