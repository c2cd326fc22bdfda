/- The abstract machine's operations are the model's: rows made, copied and cut; texts and bytes. -/
import Derived.Test.YtanfllomeheiiaaGreatDoorXMO
import Derived.Laws.MakeOwn
import Derived.Laws.IdiomStrings
set_option linter.unusedVariables false
set_option linter.unusedSimpArgs false
namespace Go.XM
open RM Go.RowKit
section
variable {P : Program} {E : Env} {G : Ctx} {N : Nat} {μ : Mu} {I : Nat → Prop} {sl : Slots} {hp : Heap} {a : Act} {w : World} {K : Act → World → Prop} {Q : Exit → Act → World → Prop} {o : Oper} {d f : Nat}
theorem bi {c : Call} {b : Builtin} {vs : List Value} {u : Value} {w' : World} (ho : o.op = .call c) (hc : c.callee = .builtin b) (he : c.args.toList.map a.eval = vs) (hrun : ∀ cs, (builtin b c.argTypes o.type cs vs.toArray).run P w = .ok (.value u) w') : (execOp a.eval o).run P w = .ok (.value u) w' := by
  have := map_toArray c.args he
  simp [execOp, ho, resolve, hc, invoke, this, hrun]
theorem op_delete {c : Call} (ho : o.op = .call c) (hc : c.callee = .builtin .delete) (T : TyOk P E.tt) (S : Sim G N μ I sl hp a w) (h : (step E d f (.call c)).wp sl hp (Then G N sl a o.dst K hp)) : o.wp P a w K Q := by
  unfold step at h
  rw [wp_bind] at h
  obtain ⟨vs, h, hvs⟩ := opds_wp (Q := fun _ => True) S.slots h
  rw [hc] at h
  simp only at h
  cases hat : c.argTypes.toList with
  | nil => rw [hat] at h; exact h.elim
  | cons t l =>
    rw [hat] at h
    match vs, hvs, h with
    | [], _, h => exact h.elim
    | [_], _, h => exact h.elim
    | _ :: _ :: _ :: _, _, h => exact h.elim
    | [m, k], hvs, h =>
      have h : ((keyTy E t).bind _).wp sl hp (Then G N sl a o.dst K hp) := h
      rw [wp_bind] at h
      obtain ⟨kt, et, dk, de, hu, h, ⟨gk⟩, _⟩ := keyTy_wp T h
      rw [wp_bind] at h
      obtain ⟨kv, hk1, hk2, h⟩ := keyV_wp h
      obtain ⟨um, uk, he, hvm, hvk⟩ := reps2 hvs
      obtain ⟨r, es, cl, rfl, hr, h⟩ := mapAt_wp h
      obtain ⟨b, z, es', em, hm, hh, hrep⟩ := mp_wp S.heap hvm hr
      rw [wp_bind] at h
      obtain ⟨q, h, hq⟩ := mfind_wp gk hk2 hrep h
      have ek := val_rep hk1 hvk
      have hck : ∀ em, (Instr.checkKey em 10000 kt kv).run P w = .ok () w := fun em => check_key gk hk2
      have hat' : c.argTypes[0]? = some t := by rw [← Array.getElem?_toList, hat]; rfl
      rcases hq with ⟨rfl, hF⟩ | ⟨j, e, v, rfl, _, he', ek2, hv, hF⟩
      · have hF := hF.run gk.und
        refine upV (u := .tuple #[]) (w' := { w with heap := w.heap.setIfInBounds b (.map es' cl) }) (bi ho hc he fun cs => ?_) (Then.turn S h hr hm hh hrep (a_rep _))
        subst em; subst ek
        simp [builtin, Builtin.delete_, hat', run_und hu, getMap hh, hck, hF, setMap _ hh]
      · have hF := hF.run gk.und
        rw [Nat.zero_add] at hF
        have hj : j < es'.size := by
          have := (List.getElem?_eq_some_iff.1 he').1
          simpa using this
        refine upV (u := .tuple #[]) (w' := { w with heap := w.heap.setIfInBounds b (.map (es'.eraseIdxIfInBounds j) cl) }) (bi ho hc he fun cs => ?_) (Then.turn S h hr hm hh ?_ (a_rep _))
        · subst em; subst ek
          simp [builtin, Builtin.delete_, hat', run_und hu, getMap hh, hck, hF, setMap _ hh]
        · have : (es'.eraseIdxIfInBounds j).toList = es'.toList.eraseIdx j := by
            unfold Array.eraseIdxIfInBounds
            rw [dif_pos hj, Array.toList_eraseIdx]
          rw [this, Nat.zero_add]
          exact mapRep_erase hrep
theorem op_clear {c : Call} (ho : o.op = .call c) (hc : c.callee = .builtin .clear) (T : TyOk P E.tt) (S : Sim G N μ I sl hp a w) (h : (step E d f (.call c)).wp sl hp (Then G N sl a o.dst K hp)) : o.wp P a w K Q := by
  unfold step at h
  rw [wp_bind] at h
  obtain ⟨vs, h, hvs⟩ := opds_wp (Q := fun _ => True) S.slots h
  rw [hc] at h
  simp only at h
  cases hat : c.argTypes.toList with
  | nil => rw [hat] at h; exact h.elim
  | cons t l =>
    rw [hat] at h
    match vs, hvs, h with
    | [], _, h => exact h.elim
    | _ :: _ :: _, _, h => exact h.elim
    | [m], hvs, h =>
      have h : ((keyTy E t).bind _).wp sl hp (Then G N sl a o.dst K hp) := h
      rw [wp_bind] at h
      obtain ⟨kt, et, dk, de, hu, h, _, _⟩ := keyTy_wp T h
      obtain ⟨um, he, hvm⟩ := reps1 hvs
      obtain ⟨r, es, cl, rfl, hr, h⟩ := mapAt_wp h
      obtain ⟨b, z, es', em, hm, hh, hrep⟩ := mp_wp S.heap hvm hr
      have hat' : c.argTypes[0]? = some t := by rw [← Array.getElem?_toList, hat]; rfl
      refine upV (u := .tuple #[]) (w' := { w with heap := w.heap.setIfInBounds b (.map #[] cl) }) (bi ho hc he fun cs => ?_) (Then.turn S h hr hm hh trivial (a_rep _))
      subst em
      simp [builtin, Builtin.clear_, hat', run_und hu, getMap hh, setMap _ hh]
theorem op_max {c : Call} (ho : o.op = .call c) (hc : c.callee = .builtin .max) (S : Sim G N μ I sl hp a w) (h : (step E d f (.call c)).wp sl hp (Then G N sl a o.dst K hp)) : o.wp P a w K Q := by
  unfold step at h
  rw [wp_bind] at h
  obtain ⟨vs, h, hvs⟩ := opds_wp (Q := fun _ => True) S.slots h
  rw [hc] at h
  simp only at h
  split at h
  · obtain ⟨u, v, he, hu, hv⟩ := reps2 hvs
    have e1 := rep_a hu
    have e2 := rep_a hv
    subst e1; subst e2
    exact upV (w' := w) (bi ho hc he (fun cs => by simp [builtin, run_max_int2])) (h μ I _ w S (a_rep _))
  · exact h.elim
theorem op_min {c : Call} (ho : o.op = .call c) (hc : c.callee = .builtin .min) (S : Sim G N μ I sl hp a w) (h : (step E d f (.call c)).wp sl hp (Then G N sl a o.dst K hp)) : o.wp P a w K Q := by
  unfold step at h
  rw [wp_bind] at h
  obtain ⟨vs, h, hvs⟩ := opds_wp (Q := fun _ => True) S.slots h
  rw [hc] at h
  simp only at h
  split at h
  · obtain ⟨u, v, he, hu, hv⟩ := reps2 hvs
    have e1 := rep_a hu
    have e2 := rep_a hv
    subst e1; subst e2
    exact upV (w' := w) (bi ho hc he (fun cs => by simp [builtin, run_min_int2])) (h μ I _ w S (a_rep _))
  · exact h.elim
theorem op_cap {c : Call} (ho : o.op = .call c) (hc : c.callee = .builtin .cap) (T : TyOk P E.tt) (S : Sim G N μ I sl hp a w) (h : (step E d f (.call c)).wp sl hp (Then G N sl a o.dst K hp)) : o.wp P a w K Q := by
  unfold step at h
  rw [wp_bind] at h
  obtain ⟨vs, h, hvs⟩ := opds_wp (Q := fun _ => True) S.slots h
  rw [hc] at h
  simp only at h
  cases hat : c.argTypes.toList with
  | nil => rw [hat] at h; exact h.elim
  | cons t l =>
    rw [hat] at h
    match vs, hvs, h with
    | [], _, h => exact h.elim
    | _ :: _ :: _, _, h => exact h.elim
    | [x], hvs, h =>
      have h : ((elemS E t).bind _).wp sl hp (Then G N sl a o.dst K hp) := h
      rw [wp_bind] at h
      obtain ⟨td, e, ht, hk, h⟩ := elemS_wp h
      obtain ⟨g⟩ := T.good ht
      have hkk := g.k
      rw [hk] at hkk
      have hund : P.underlying t = some (.slice e) := by rw [g.und, hkk]
      obtain ⟨u, he, hu⟩ := reps1 hvs
      have hat' : c.argTypes[0]? = some t := by rw [← Array.getElem?_toList, hat]; rfl
      split at h
      · have e1 := rep_a hu
        subst e1
        exact upV (w' := w) (bi ho hc he (fun cs => by simp [builtin, Builtin.cap_, hat', run_und hund, goInt])) (h μ I _ w S (a_rep _))
      · rw [AV.rep, D.rep] at hu
        obtain ⟨A, cap, rfl, _, hx, _⟩ := hu
        have := hx rfl
        subst this
        exact upV (w' := w) (bi ho hc he (fun cs => by simp [builtin, Builtin.cap_, hat', run_und hund, goInt])) (h μ I _ w S (a_rep _))
      · exact h.elim
/-! ### rows -/
theorem zeroL_made {z : Value} {e : Nat} {te : TyD} (g : TyGood P e te) (hz : z = g.z) (n : Nat) : (madeCells z.cells (n * te.size)).toList = zeroL n te.zero := by
  subst hz
  unfold madeCells zeroL
  rw [Array.toList_map, Array.toList_range, g.len, ← g.cells]
  have hl : g.z.cells.size = te.size := by rw [← Array.length_toList, g.cells, g.len]
  refine List.map_congr_left fun j hj => ?_
  have hj : j < n * te.size := List.mem_range.1 hj
  have h0 : 0 < te.size := by
    rcases Nat.eq_zero_or_pos te.size with h | h
    · rw [h, Nat.mul_zero] at hj; omega
    · exact h
  have hm : j % te.size < g.z.cells.size := by rw [hl]; exact Nat.mod_lt _ h0
  rw [hl, List.getD_eq_getElem?_getD, List.getElem?_eq_getElem (by simpa using hm)]
  simp [hm]
theorem op_makeSlice {t : Nat} {x y : Operand} (ho : o.op = .makeSlice t x y) (T : TyOk P E.tt) (S : Sim G N μ I sl hp a w) (h : (step E d f (.makeSlice t x y)).wp sl hp (Then G N sl a o.dst K hp)) : o.wp P a w K Q := by
  unfold step at h
  rw [wp_bind] at h
  obtain ⟨vl, h, hvl⟩ := opd_wp S.slots h
  rw [wp_bind] at h
  obtain ⟨vc, h, hvc⟩ := opd_wp S.slots h
  rw [wp_bind] at h
  obtain ⟨td, e, ht, hk, h⟩ := elemS_wp h
  obtain ⟨g⟩ := T.good ht
  have hkk := g.k
  rw [hk] at hkk
  have hund : P.underlying t = some (.slice e) := by rw [g.und, hkk]
  rw [wp_bind] at h
  obtain ⟨te, hte, h⟩ := ty_wp h
  obtain ⟨ge⟩ := T.good hte
  rw [wp_bind] at h
  obtain ⟨kl, l, el, h1⟩ := asI_wp h
  rw [wp_bind] at h1
  obtain ⟨kc, c, ec, h2⟩ := asI_wp h1
  obtain ⟨h0, hlc, hb, h63⟩ := h2.l
  have hf := h2.r
  clear h h1 h2
  subst el; subst ec
  have e1 := rep_a hvl
  have e2 := rep_a hvc
  have hrun := run_make (P := P) w t e ge.i ge.z hund ge.info ge.zero kl kc l c h0 hlc (by rw [ge.bytes]; exact hb) h63
  rw [ge.size] at hrun
  have hln : l.toNat ≤ c.toNat := by omega
  have hone : ∀ u ∈ (madeCells ge.z.cells (c.toNat * te.size)).toList, u.oneCell' = true := fun u hu => by
    rw [zeroL_made ge rfl] at hu
    unfold zeroL at hu
    obtain ⟨j, hj, rfl⟩ := List.mem_map.1 hu
    rw [List.getD_eq_getElem?_getD]
    cases hq : te.zero[j % te.zero.length]? with
    | none => rfl
    | some u => exact one_of (ge.one u (List.mem_of_getElem? hq))
  have htake : (madeCells ge.z.cells (c.toNat * te.size)).toList.take (l.toNat * te.size) = zeroL l.toNat te.zero := by
    rw [zeroL_made ge rfl]
    unfold zeroL
    rw [← List.map_take, List.take_range, ge.len]
    congr 2
    exact Nat.min_eq_left (Nat.mul_le_mul_right _ hln)
  have hsz : (madeCells ge.z.cells (c.toNat * te.size)).size = c.toNat * te.size := size_madeCells _ _
  have hx : (execOp a.eval o).run P w = .ok (.value (.slice (some ⟨w.heap.size, 0, none⟩) l.toNat c.toNat)) (w.alloc (.cells (madeCells ge.z.cells (c.toNat * te.size)) e)) := by simp [execOp, ho, e1, e2, hrun]
  refine upV hx (Then.new (z := c.toNat * te.size) S hf ⟨rfl, rfl, rfl⟩ rfl (fun X => ⟨by simp [zeroL, ge.len], .inr ⟨w.heap.size, _, _, e, (0, 0), upd_same _ _ _, heap_push_self _ _, nofz0 _, hsz, Nat.mul_le_mul_right _ hln, ?_, fun u hu => hone u (List.mem_of_mem_take hu)⟩⟩) (fun X => ?_))
  · rw [htake]; exact reps_atoms _
  · rw [AV.rep]
    refine ⟨_, _, rfl, hln, _, by rw [get_cons, if_pos rfl], fun n k cs eo => ?_⟩
    injection eo with h1 h2 h3
    subst h1; subst h2
    exact ⟨by omega, .inr ⟨w.heap.size, _, upd_same _ _ _, fun _ => by rw [Nat.zero_mul], by rw [Nat.zero_add]; exact Nat.le_refl _⟩⟩
/-! ### cut with a bound on what may be appended -/
theorem run_bounds3 {len cap n m h l : Nat} {lo : Option Operand} {hi mx : Operand} (bm : Bnd (some mx) a len n m) (hn : n ≤ cap) (bh : Bnd (some hi) a len m h) (bl : Bnd lo a 0 h l) :
    (Instr.sliceBounds true len cap (lo.map a.eval) (some (a.eval hi)) (some (a.eval mx))).run P w = .ok (l, h, m) w := by
  rcases bm with ⟨e, _⟩ | ⟨y, k, i, e, ey, h0, h1, rfl⟩
  · cases e
  injection e with e; subst e
  rcases bh with ⟨e, _⟩ | ⟨y2, k2, i2, e, ey2, g0, g1, rfl⟩
  · cases e
  injection e with e; subst e
  have hc : i ≤ cap := by omega
  have g2 : i2 ≤ max i 0 := by omega
  rcases bl with ⟨rfl, rfl⟩ | ⟨y3, k3, i3, rfl, ey3, f0, f1, rfl⟩
  · simp [Instr.sliceBounds, Instr.sliceBound, asIntOf, ey, ey2, h0, hc, g0, g2]
  · have f2 : i3 ≤ max i2 0 := by omega
    simp [Instr.sliceBounds, Instr.sliceBound, asIntOf, ey, ey2, ey3, h0, hc, g0, g2, f0, f2]
/-- An empty row, nowhere. -/
theorem Then.newV {u : Value} {r k : Nat} {dst : Option Tmp} (S : Sim G N μ I sl hp a w) (h : Then G N sl a dst K hp (.mk (.ra r 0 0) [] [(r, .rowA 0 k [])])) (hu : ∃ A, u = .slice (some A) 0 0) : K (a.put dst u) w := by
  have h : (match get hp r with
    | none => _
    | some _ => False) := h
  cases hr : get hp r with
  | some x => rw [hr] at h; exact h.elim
  | none =>
    rw [hr] at h
    have H := S.heap.set (r := r) (o := .rowA 0 k []) (m := none) (.refl w) (Nat.le_refl _) (le_new hr) (fun _ _ _ _ _ _ _ => by simp) (fun _ _ e => by cases e) (fun _ _ _ => rfl) (fun _ => ⟨by simp, .inl ⟨upd_same _ _ _, rfl⟩⟩)
    refine h _ _ _ _ (S.next H) ?_
    obtain ⟨A, rfl⟩ := hu
    rw [AV.rep]
    refine ⟨A, 0, rfl, Nat.le_refl _, _, by rw [get_cons, if_pos rfl], fun n k cs e => ?_⟩
    injection e with h1 h2 h3
    subst h1
    exact ⟨Nat.le_refl _, .inl ⟨upd_same _ _ _, rfl⟩⟩
theorem op_slice3 {t : Nat} {x hi mx : Operand} {lo : Option Operand} (ho : o.op = .slice t x lo (some hi) (some mx)) (T : TyOk P E.tt) (S : Sim G N μ I sl hp a w) (h : (step E d f (.slice t x lo (some hi) (some mx))).wp sl hp (Then G N sl a o.dst K hp)) : o.wp P a w K Q := by
  unfold step at h
  have h : ((ty E t).bind _).wp sl hp (Then G N sl a o.dst K hp) := h
  rw [wp_bind] at h
  obtain ⟨td, ht, h⟩ := ty_wp h
  obtain ⟨g⟩ := T.good ht
  have hkk := g.k
  rw [wp_bind] at h
  obtain ⟨v, h, hv⟩ := opd_wp S.slots h
  rw [wp_bind] at h
  obtain ⟨vlo, h, hlo⟩ := oopd_wp S.slots h
  rw [wp_bind] at h
  obtain ⟨vhi, h, hhi⟩ := opd_wp S.slots h
  rw [wp_bind] at h
  obtain ⟨vmx, h, hmx⟩ := opd_wp S.slots h
  split at h
  case h_2 => exact h.elim
  rename_i e hk
  rw [hk] at hkk
  have hund : P.underlying t = some (.slice e) := by rw [g.und, hkk]
  rw [wp_bind] at h
  obtain ⟨te, hte, h⟩ := ty_wp h
  obtain ⟨ge⟩ := T.good hte
  have hrunS : ∀ {A : Option Addr} {len cap n m hh l : Nat}, a.eval x = .slice A len cap → Bnd (some mx) a len n m → n ≤ cap → Bnd (some hi) a len m hh → Bnd lo a 0 hh l →
      (execOp a.eval o).run P w = .ok (.value (.slice (if m = l then A else A.map (·.add (l * ge.i.size))) (hh - l) (m - l))) w := by
    intro A len cap n m hh l ex bm hn bh bl
    simp [execOp, ho, ex, Instr.sliceAt, run_und hund, Instr.slice, run_bounds3 bm hn bh bl, run_size ge.info]
  have le3 : ∀ {x : Option Operand} {len n m : Nat}, Bnd x a len n m → x.isSome = true → m ≤ n := by
    intro x len n m b hx
    rcases b with ⟨rfl, _⟩ | ⟨y, k, i, rfl, ey, h0, h1, rfl⟩
    · cases hx
    · omega
  have hmx' : (some mx = none ∧ some vmx = none) ∨ ∃ y v', some mx = some y ∧ some vmx = some v' ∧ v'.rep μ w I hp (a.eval y) := .inr ⟨_, _, rfl, rfl, hmx⟩
  have hhi' : (some hi = none ∧ some vhi = none) ∨ ∃ y v', some hi = some y ∧ some vhi = some v' ∧ v'.rep μ w I hp (a.eval y) := .inr ⟨_, _, rfl, rfl, hhi⟩
  split at h
  · rename_i r off len
    obtain ⟨ob, eo, h⟩ := obj_wp h
    split at h
    case h_2 => exact h.elim
    rename_i n k cs
    obtain ⟨hb, h⟩ := need_wp h
    have hks := Nat.eq_of_beq_eq_true hb
    rw [wp_bind] at h
    obtain ⟨m, h, bm⟩ := upTo_wp hmx' h
    rw [wp_bind] at h
    obtain ⟨hh, h, bh⟩ := upTo_wp hhi' h
    rw [wp_bind] at h
    obtain ⟨l, h, bl⟩ := upTo_wp hlo h
    obtain ⟨hb2, h⟩ := need_wp h
    have hhm := Nat.eq_of_beq_eq_true hb2
    have lm := le3 bm rfl
    have hl : l ≤ hh := by
      rcases bl with ⟨_, rfl⟩ | ⟨y, k, i, rfl, ey, h0, h1, rfl⟩
      · exact Nat.zero_le _
      · omega
    rw [AV.rep] at hv
    obtain ⟨A, cap, ex, hc, ob, eo2, hv⟩ := hv
    rw [eo] at eo2; injection eo2 with eo2; subst eo2
    obtain ⟨hon, hv⟩ := hv _ _ _ rfl
    have hrun := hrunS ex bm hc bh bl
    have hsome : (if m = l then some A else (some A).map (·.add (l * ge.i.size))) = some (if m = l then A else A.add (l * ge.i.size)) := by split <;> rfl
    rw [hsome] at hrun
    cases hd : m - l with
    | zero =>
      rw [hd] at h
      refine upV hrun (Then.newV S h ?_)
      exact ⟨_, by rw [hhm, hd]⟩
    | succ q =>
      rw [hd] at h
      refine upV hrun (h μ I _ w S ?_)
      rw [AV.rep]
      refine ⟨_, q + 1, by rw [hhm, hd], Nat.le_refl _, _, eo, fun n' k' cs' e3 => ?_⟩
      injection e3 with h1 h2 h3
      subst h1; subst h2
      refine ⟨by omega, ?_⟩
      rcases hv with ⟨hm, h0⟩ | ⟨b, z, hm, hA, hz⟩
      · omega
      · refine .inr ⟨b, z, hm, fun _ => ?_, ?_⟩
        · rw [hA (by omega), if_neg (by omega), ge.size, ← hks]
          simp [add_lit0, Nat.add_mul]
        · refine Nat.le_trans (Nat.mul_le_mul_right _ ?_) hz
          omega
  · rw [wp_bind] at h
    obtain ⟨m, h, bm⟩ := upTo_wp hmx' h
    rw [wp_bind] at h
    obtain ⟨hh, h, bh⟩ := upTo_wp hhi' h
    rw [wp_bind] at h
    obtain ⟨l, h, bl⟩ := upTo_wp hlo h
    have ex := rep_a hv
    have hrun := hrunS ex bm (Nat.le_refl _) bh bl
    have lm := le3 bm rfl
    have lh := le3 bh rfl
    refine upV hrun (h μ I _ w S ?_)
    have e1 : hh - l = 0 := by omega
    have e2 : m - l = 0 := by omega
    rw [e1, e2]
    have : (if m = l then (none : Option Addr) else none) = none := by split <;> rfl
    simp only [Option.map_none, this]
    exact a_rep _
  · rw [wp_bind] at h
    obtain ⟨m, h, bm⟩ := upTo_wp hmx' h
    rw [wp_bind] at h
    obtain ⟨hh, h, bh⟩ := upTo_wp hhi' h
    rw [wp_bind] at h
    obtain ⟨l, h, bl⟩ := upTo_wp hlo h
    rw [AV.rep, D.rep] at hv
    obtain ⟨A, cap, ex, hc, hx, _⟩ := hv
    have hc0 := hx rfl
    subst hc0
    have hrun := hrunS ex bm (Nat.le_refl _) bh bl
    have lm := le3 bm rfl
    have lh := le3 bh rfl
    refine upV hrun (h μ I _ w S ?_)
    rw [AV.rep, D.rep]
    have e1 : hh - l = 0 := by omega
    have e2 : m - l = 0 := by omega
    rw [e1, e2]
    exact ⟨_, 0, rfl, Nat.le_refl _, fun _ => rfl, fun h => absurd h (by omega)⟩
  · exact h.elim
/-! ### copies -/
theorem op_copy {c : Call} (ho : o.op = .call c) (hc : c.callee = .builtin .copy) (T : TyOk P E.tt) (S : Sim G N μ I sl hp a w) (h : (step E d f (.call c)).wp sl hp (Then G N sl a o.dst K hp)) : o.wp P a w K Q := by
  unfold step at h
  rw [wp_bind] at h
  obtain ⟨vs, h, hvs⟩ := opds_wp (Q := fun _ => True) S.slots h
  rw [hc] at h
  simp only at h
  split at h
  case h_2 => exact h.elim
  rename_i t t' hat
  split at h
  case h_2 => exact h.elim
  rename_i x y
  obtain ⟨ux, uy, he, hx, hy⟩ := reps2 hvs
  rw [wp_bind] at h
  obtain ⟨td, e, ht, hk, h⟩ := elemS_wp h
  obtain ⟨g⟩ := T.good ht
  have hkk := g.k
  rw [hk] at hkk
  have hund : P.underlying t = some (.slice e) := by rw [g.und, hkk]
  rw [wp_bind] at h
  obtain ⟨te, hte, h⟩ := ty_wp h
  obtain ⟨ge⟩ := T.good hte
  rw [wp_bind] at h
  obtain ⟨td', ht', h⟩ := ty_wp h
  obtain ⟨g'⟩ := T.good ht'
  rw [wp_bind] at h
  obtain ⟨n, cs, l, h, hN⟩ := srcA_wp S.heap g' hy h
  have hat' : c.argTypes = #[t, t'] := by apply Array.ext'; rw [hat]
  have hra : ∃ r off len, x = .ra r off len := by
    cases x with
    | ra r off len => exact ⟨_, _, _, rfl⟩
    | _ => exact h.elim
  obtain ⟨r, off, len, ex⟩ := hra
  rw [ex] at hx h
  rw [AV.rep] at hx
  obtain ⟨A, cap, rfl, hcap, ob, eo, hx⟩ := hx
  have hlen := hN.src.len w
  have hcells := hN.src.cells
  have hsz : (sizeOf e).run P w = .ok te.size w := ge.sizeOf w
  cases n with
  | zero =>
    have hl0 : l = [] := by have := hN.src.newsLen; rw [Nat.zero_mul] at this; exact List.eq_nil_of_length_eq_zero this
    subst hl0
    refine upV (u := .int .i64 0) (w' := w) (bi ho hc he fun cc => ?_) (h μ I _ w S (a_rep _))
    rw [hat']
    simp [builtin, Builtin.copy_, run_und hund, hlen, hsz, hcells, goInt, storeCells]
  | succ m =>
    obtain ⟨ob2, eo2, h⟩ := obj_wp h
    rw [eo] at eo2; injection eo2 with eo2; subst eo2
    split at h
    case h_2 => exact h.elim
    rename_i n k cc
    obtain ⟨hb, h⟩ := need_wp h
    rw [Bool.and_eq_true] at hb
    have hks := Nat.eq_of_beq_eq_true hb.1
    subst hks
    have hml := Nat.le_of_ble_eq_true hb.2
    obtain ⟨hon, hx⟩ := hx _ _ _ rfl
    obtain ⟨hcl, hob⟩ := S.heap.objs r _ eo
    rcases hx with ⟨_, h0⟩ | ⟨b, z, hm, hA, hz⟩
    · omega
    rcases hob with ⟨hm', hn'⟩ | ⟨b', z', vs', t'', fz, hm', hh, hf, hz', hkz, hr, h1⟩
    · omega
    rw [hm] at hm'; injection hm' with hm'; injection hm' with e1 e2; subst e1; subst e2
    have hA := hA (by omega)
    subst hA
    have hll : l.length = (m + 1) * te.size := hN.src.newsLen
    have hin : off * te.size + l.length ≤ n * te.size := by
      rw [hll, ← Nat.add_mul]; exact Nat.mul_le_mul_right _ (by omega)
    have hst := run_storeCells_cells (P := P) b (off * te.size) l 0 w (fun q hq => by rw [cell_of_row w b _ vs' t'' fz hh, Array.getElem?_eq_getElem (by omega)]; rfl) (fun q hq => nofz_frozen hh hf (by omega)) hN.src.one
    simp only [Nat.add_zero] at hst
    have hl := setCells_like b l (off * te.size) w
    have H := S.heap.turn (o' := .rowA n te.size (putL cc (off * te.size) cs)) eo (by simp) ⟨rfl, rfl⟩ hm hl.1 hl.2 (setCells_far b _ _ _) (fun X => ⟨by rw [putL_len']; exact hcl, .inr ⟨b, z, _, t'', fz, hm, setCells_block b _ _ _ _ _ _ hh, nofz_put hf _ _, by rw [putA_size]; exact hz', hkz, ?_, fun u hu => ?_⟩⟩)
    · refine upV (u := .int .i64 (m + 1 : Nat)) (w' := w.setCells b (off * te.size) l) (bi ho hc he fun q => ?_) (h _ _ _ _ (S.next H) (a_rep _))
      rw [hat']
      have : min (m + 1) len = m + 1 := Nat.min_eq_left hml
      simp [builtin, Builtin.copy_, run_und hund, hlen, hsz, this, hcells, hst, goInt]
    · rw [putA_list, putL_take _ _ _ _ hin]
      exact reps_put (X.reps hr) (X.reps hN.reps)
    · rw [putA_list, putL_take _ _ _ _ hin] at hu
      exact putL_all (p := fun u => u.oneCell' = true) _ _ _ h1 hN.src.one u hu
/-! ### texts and bytes -/
theorem u8s_wp : ∀ {cs : List AV} {l : List Value} {R : List UInt8 → Prop}, AV.reps μ w I hp cs l → (u8s cs).wp sl hp R → ∃ ns : List Int, l = ns.map (.int .u8) ∧ R (ns.map fun n => UInt8.ofNat n.toNat)
  | [], [], R, _, h => ⟨[], rfl, h⟩
  | [], _ :: _, _, h, _ => h.elim
  | _ :: _, [], _, h, _ => h.elim
  | x :: cs, u :: l, R, hr, h => by
    unfold u8s at h
    split at h
    · cases ‹_ :: _ = []›
    · rename_i n cs' e
      injection e with e1 e2
      subst e1; subst e2
      rw [wp_bind] at h
      obtain ⟨ns, e, h⟩ := u8s_wp hr.2 h
      have := rep_a hr.1
      exact ⟨n :: ns, by rw [this, e]; rfl, h⟩
    · exact h.elim
theorem push_all : ∀ (ns : List Int) (r : ByteArray), ns.foldl (fun r n => r.push (UInt8.ofNat n.toNat)) r = ⟨⟨lsU r ++ ns.map fun n => UInt8.ofNat n.toNat⟩⟩
  | [], r => by simp
  | n :: ns, r => by
    rw [List.foldl_cons, push_all ns]
    show (⟨⟨(r.data.push _).toList ++ _⟩⟩ : ByteArray) = _
    simp
theorem isU8_wp {t : Nat} {R : Unit → Prop} (T : TyOk P E.tt) (h : (isU8 E t).wp sl hp R) : P.underlying t = some (.int .u8) ∧ R () := by
  unfold isU8 at h
  rw [wp_bind] at h
  obtain ⟨td, ht, h⟩ := ty_wp h
  obtain ⟨g⟩ := T.good ht
  have hk := g.k
  split at h
  · rename_i e
    rw [e] at hk
    exact ⟨by rw [g.und, hk], h⟩
  · exact h.elim
theorem bytes_run {t' e n : Nat} {u : Value} {cs : List AV} {l : List Value} {ns : List Int} (hN : NewsA P 1 t' u n cs μ w I hp l) (hl : l = ns.map (.int .u8)) (hu : ∃ A len cap, u = .slice A len cap) : (Conv.bytesToString u).run P w = .ok (.string ⟨⟨ns.map fun n => UInt8.ofNat n.toNat⟩⟩) w := by
  obtain ⟨A, len, cap, rfl⟩ := hu
  have hlen := hN.src.len w
  have hn : len = n := by simpa [Builtin.lenOf, Sem.run_pure] using hlen
  subst hn
  have hc := hN.src.cells
  cases A with
  | none =>
    have hl0 : l = [] := by simpa [Builtin.firstCells, Sem.run_pure] using hc
    rw [hl0] at hl
    have : ns = [] := by cases ns <;> first | rfl | cases hl
    subst this
    simp [Conv.bytesToString, Sem.run_pure]
    rfl
  | some A =>
    have hc : (loadCells A len).run P w = .ok l.toArray w := by simpa [Builtin.firstCells] using hc
    rw [run_bytesToString w A len cap ns (by rw [hc, hl]), push_all]
    rfl
theorem rowA_slice {kk : Nat} {x : AV} {v : Value} {R : Nat × List AV → Prop} (hv : x.rep μ w I hp v) (h : (rowA kk x).wp sl hp R) : ∃ A len cap, v = .slice A len cap := by
  unfold rowA at h
  split at h
  · exact ⟨_, _, _, rep_a hv⟩
  · rw [AV.rep, D.rep] at hv
    obtain ⟨A, cap, e, _⟩ := hv
    exact ⟨_, _, _, e⟩
  · rw [AV.rep] at hv
    obtain ⟨A, cap, e, _⟩ := hv
    exact ⟨_, _, _, e⟩
  · exact h.elim
/-- Whole numbers and texts of another type. -/
theorem op_convert {t t' : Nat} {x : Operand} (ho : o.op = .convert t' t x) (T : TyOk P E.tt) (S : Sim G N μ I sl hp a w) (h : (step E d f (.convert t' t x)).wp sl hp (Then G N sl a o.dst K hp)) : o.wp P a w K Q := by
  unfold step at h
  rw [wp_bind] at h
  obtain ⟨td', ht', h⟩ := ty_wp h
  obtain ⟨g'⟩ := T.good ht'
  have hu' := g'.und
  rw [wp_bind] at h
  obtain ⟨td, ht, h⟩ := ty_wp h
  obtain ⟨g⟩ := T.good ht
  have hk := g.k
  rw [wp_bind] at h
  obtain ⟨v, h, hv⟩ := opd_wp S.slots h
  split at h
  · rename_i k k' n hkk
    rw [hkk] at hk
    have hund := g.und
    rw [hk] at hund
    exact upV (w' := w) (by simp [execOp, ho, rep_a hv, Go.convert, run_und hund, run_und hu', Conv.intToInt]) (h μ I _ w S (a_rep _))
  · rename_i s hkk
    rw [hkk] at hk
    have hund := g.und
    rw [hk] at hund
    exact upV (w' := w) (by simp [execOp, ho, rep_a hv, Go.convert, run_und hund, run_und hu']) (h μ I _ w S hv)
  · rename_i v1 hkk _
    rw [hkk] at hk
    have hund := g.und
    rw [hk] at hund
    have hk' := g'.k
    split at h
    · rename_i e he
      rw [he] at hk'
      rw [hk'] at hu'
      rw [wp_bind] at h
      obtain ⟨hue, h⟩ := isU8_wp T h
      unfold bytesOf at h
      rw [wp_bind, wp_bind] at h
      obtain ⟨n, cs, l, h2, hN⟩ := rowA_wp S.heap hu' hv h
      have hsl := rowA_slice hv h
      obtain ⟨ns, hl, h3⟩ := u8s_wp hN.reps h2
      have hrun := bytes_run (P := P) (e := e) hN hl hsl
      obtain ⟨A, len, cap, ex⟩ := hsl
      rw [ex] at hrun
      refine upV (w' := w) ?_ (h3 μ I _ w S (a_rep _))
      simp [execOp, ho, ex, run_convert_bytes_string w t' t e A len cap hu' hue hund, hrun]
    · exact h.elim
  · rename_i e s hkk
    rw [hkk] at hk
    have hund := g.und
    rw [hk] at hund
    have hk' := g'.k
    split at h
    · rename_i he
      rw [he] at hk'
      rw [hk'] at hu'
      rw [wp_bind] at h
      obtain ⟨hue, h⟩ := isU8_wp T h
      have ex := rep_a hv
      have hrun := run_bytes_of_string (P := P) w t' t e s hu' hund hue
      have hge := grownCap_ge w s.size 0 e
      have hsz : (bytesRow s (grownCap w s.size 0 e)).size = grownCap w s.size 0 e := by
        unfold bytesRow
        have : s.data.size = s.size := rfl
        simp; omega
      have htake : (bytesRow s (grownCap w s.size 0 e)).toList.take ((lsU s).length * 1) = (lsU s).map fun b => .int .u8 b.toNat := by
        unfold bytesRow
        rw [Array.toList_append, Array.toList_map, Nat.mul_one, List.take_append_of_le_length (by simp), List.take_of_length_le (by simp)]
      have hls : (lsU s).length = s.size := Array.length_toList
      have hx : (execOp a.eval o).run P w = .ok (.value (.slice (some ⟨w.heap.size, 0, none⟩) s.size (grownCap w s.size 0 e))) (w.drew.alloc (.cells (bytesRow s (grownCap w s.size 0 e)) e ((bytesRow s (grownCap w s.size 0 e)).size, (bytesRow s (grownCap w s.size 0 e)).size + 1))) := by simp [execOp, ho, ex, hrun]
      refine upV hx (Then.new (z := grownCap w s.size 0 e) S h ⟨rfl, rfl, rfl⟩ rfl (fun X => ⟨by simp [u8cells], .inr ⟨w.heap.size, _, _, e, _, upd_same _ _ _, heap_push_self w.drew _, fun j hj hf => by (have := hf.1; simp only at this; omega), hsz, by rw [hls]; omega, ?_, fun u hu => ?_⟩⟩) (fun X => ?_))
      · rw [htake]; exact reps_bytes _
      · rw [htake] at hu
        obtain ⟨q, _, rfl⟩ := List.mem_map.1 hu
        rfl
      · rw [AV.rep]
        refine ⟨_, _, by rw [hls], by rw [hls]; exact hge, _, by rw [get_cons, if_pos rfl], fun n k cs eo => ?_⟩
        injection eo with h1 h2 h3
        subst h1; subst h2
        exact ⟨by omega, .inr ⟨w.heap.size, _, upd_same _ _ _, fun _ => by rw [Nat.zero_mul], by rw [Nat.zero_add, Nat.mul_one]; exact Nat.le_refl _⟩⟩
    · exact h.elim
  · exact h.elim
end
end Go.XM
