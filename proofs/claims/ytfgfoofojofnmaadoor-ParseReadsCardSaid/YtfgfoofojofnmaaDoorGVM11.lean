/- The abstract machine's operations are the model's: append, calls, all together. -/
import Derived.Test.YtfgfoofojofnmaaDoorG9
set_option linter.unusedVariables false
set_option linter.unusedSimpArgs false
namespace Go.VM
open RM Go.RowKit
section
variable {P : Program} {E : Env} {G : Ctx} {N : Nat} {μ : Mu} {I : Nat → Prop} {sl : Slots} {hp : Heap} {a : Act} {w : World} {K : Act → World → Prop} {Q : Exit → Act → World → Prop} {o : Oper} {d f : Nat}
theorem zsize {t : Nat} {te : TyD} (g : TyGood P t te) : g.z.cells.size = te.size := by rw [← Array.length_toList, g.cells, g.len]
theorem nofzs (vs : Array Value) : nofz vs (0, 0) := nofz0 vs
/-- append onto nothing. -/
theorem append_fresh {c : Call} {t t' e n : Nat} {te : TyD} {A : Option Addr} {v : Value} {cc : Nat → Nat → D} {l : List Value} (ho : o.op = .call c) (hc : c.callee = .builtin .append) (hat : c.argTypes.toList = [t, t']) (he : c.args.toList.map a.eval = [.slice A 0 0, v])
    (hund : P.underlying t = some (.slice e)) (ge : TyGood P e te) (hb : 0 < te.bytes) (hb2 : te.bytes ≤ 65536) (hn : n * te.bytes ≤ 35184372088832) (hN : News P te.size t' v n cc w I l) (S : Sim G N μ I sl hp a w) (h : Then G N sl a o.dst K hp (newRow E d f false n te.size cc)) : o.wp P a w K Q := by
  cases n with
  | zero =>
    exact upV (exec_append (x := av (.bool true)) (y := av (.bool true)) ho hc hat he (run_append_none hund ge.info ge.size hN.src (Nat.le_refl _))) (newRow0 (A := A) (fun _ => trivial) S h)
  | succ m =>
    have hf := fits (need := 0 + (m + 1)) (cap := 0) (by omega) hb hb2 (by rw [Nat.zero_add]; exact hn)
    have hold : (Builtin.firstCells ge.i.size 0 (.slice A 0 0)).run P w.drew = .ok ([] : List Value).toArray w.drew := by
      cases A with
      | none => exact run_firstCells_none w.drew ge.i.size 0 0 0
      | some b => exact run_firstCells_some w.drew ge.i.size 0 b 0 0 [] (by simp) (fun j u e => by simp at e)
    have hsrc := hN.src
    rw [← ge.size] at hsrc
    have hrun := run_append_grow_src (P := P) w t t' o.type e ge.i ge.z hund ge.info ge.zero A 0 0 [] hold v (m + 1) l hsrc (by omega) hf.2 (by rw [ge.bytes]; exact hf.1)
    have hcap := grownCap_ge w (0 + (m + 1)) 0 e
    have hl := hN.src.newsLen
    have hrep := grown_cells (kk := te.size) (n := 0) (m := m + 1) (l := []) (l' := l) (c := fun _ _ => default) (c' := cc) (z := Builtin.zeroCells ge.z.cells (grownCap w (0 + (m + 1)) 0 e - (0 + (m + 1)))) (by simp) (fun i j hi => by omega) hN.cells
    refine upV (exec_append (x := av (.bool true)) (y := av (.bool true)) ho hc hat he hrun) ?_
    have e0 : 0 + (m + 1) = m + 1 := Nat.zero_add _
    have key : ∀ q, q = m + 1 → grownCap w q 0 e = grownCap w (0 + (m + 1)) 0 e := fun q hq => by rw [hq, e0]
    have h2 := newRow_ok (cap := grownCap w (0 + (m + 1)) 0 e) (w' := w.drew.alloc (.cells (([] ++ l).toArray ++ Builtin.zeroCells ge.z.cells (grownCap w (0 + (m + 1)) 0 e - (0 + (m + 1)))) e)) S h ⟨rfl, rfl, rfl⟩ rfl (nofzs _) (by omega) (fun h => by cases h) ?_ (fun i j hi hj => ?_)
    · rw [e0] at h2 ⊢; exact h2
    · rw [Array.size_append, size_zeroCells, zsize ge]
      simp only [List.nil_append, List.size_toArray, hl]
      rw [← Nat.add_mul]
      exact Nat.le_of_eq (by congr 1; omega)
    · have := hrep i j (by omega) hj
      unfold appC at this
      rw [if_neg (by omega), Nat.sub_zero] at this
      exact this
theorem kill_then {r : Nat} {v : AV} {o' : AO} {dst : Option Tmp} (h : Then G N sl a dst K hp (.mk v [(r, .dead)] [(f, o')])) : get ((r, AO.dead) :: hp) f = none ∧ ∀ μ' I' u w', Sim G N μ' I' sl ((f, o') :: (r, .dead) :: hp) a w' → v.rep μ' w' I' ((f, o') :: (r, .dead) :: hp) u → K (a.put dst u) w' := by
  have h : (match get ((r, AO.dead) :: hp) f with
    | none => _
    | some _ => False) := h
  cases hr : get ((r, AO.dead) :: hp) f with
  | some q => rw [hr] at h; exact h.elim
  | none => rw [hr] at h; exact ⟨rfl, h⟩
/-- A row in the place of another: in a new block. -/
theorem outRow_new {dst r n k cap : Nat} {c : Nat → Nat → D} {vs : Array Value} {t : Nat} {w' : World} (V : Sim G N μ I sl ((r, .dead) :: hp) a w) (h : Then G N sl a o.dst K hp (outRow E dst f r n k c)) (hl : Like w w') (hh : w'.heap = w.heap.push (.cells vs t (0, 0)))
    (hc : n ≤ cap) (hsz : vs.size = cap * k) (hr : ∀ i j, i < n → j < k → ∃ u, vs[i * k + j]? = some u ∧ u.oneCell' = true ∧ (c i j).rep w I u) : K (a.put o.dst (.slice (some ⟨w.heap.size, 0, none⟩) n cap)) w' := by
  have hget : w'.heap[w.heap.size]? = some (.cells vs t (0, 0)) := by rw [hh]; simp
  unfold outRow at h
  split at h
  · have H := V.heap.imm_new (.cells vs t (0, 0)) hl hh
    refine h _ _ _ _ (V.next H) ?_
    rw [AV.rep, D.rep]
    refine ⟨_, cap, rfl, hc, fun e => (by cases e), fun _ => ⟨w.heap.size, 0, rfl, .inr rfl, fun i j hi hj => ?_⟩⟩
    obtain ⟨u, hu, h1, hur⟩ := hr i j hi hj
    exact ⟨u, by rw [Nat.zero_add, cell_of_row w' _ _ _ _ _ hget]; exact hu, h1, D.rep_mono H.2.same H.2.imm _ _ hur⟩
  · obtain ⟨hnew, h⟩ := kill_then h
    have H := V.heap.new (w' := w') (r := f) hnew (.cells vs t (0, 0)) (cap * k) (.row n k c) hl hh
      (fun X => .inr ⟨_, _, _, t, (0, 0), upd_same _ _ _, hget, nofzs _, hsz, Nat.mul_le_mul_right _ hc, fun i j hi hj => by
        obtain ⟨u, hu, h1, hur⟩ := hr i j hi hj
        exact ⟨u, hu, h1, D.rep_mono X.same X.imm _ _ hur⟩⟩)
    refine h _ _ _ _ (V.next H) ?_
    rw [AV.rep]
    refine ⟨_, cap, rfl, hc, _, by rw [get_cons, if_pos rfl], fun n1 k1 c1 eq => ?_⟩
    injection eq with q1 q2 q3
    subst q1; subst q2
    exact ⟨by omega, .inr ⟨_, _, upd_same _ _ _, fun _ => by rw [Nat.zero_mul], by rw [Nat.zero_add]; exact Nat.le_refl _⟩⟩
/-- .. of no elements. -/
theorem outRow_zero {dst r k : Nat} {c : Nat → Nat → D} {A : Option Addr} (V : Sim G N μ I sl ((r, .dead) :: hp) a w) (h : Then G N sl a o.dst K hp (outRow E dst f r 0 k c)) : K (a.put o.dst (.slice A 0 0)) w := by
  unfold outRow at h
  split at h
  · refine h μ I _ w V ?_
    rw [AV.rep, D.rep]
    exact ⟨A, 0, rfl, Nat.le_refl _, fun _ => rfl, fun h => by omega⟩
  · obtain ⟨hnew, h⟩ := kill_then h
    have H := V.heap.newV (k := k) hnew c
    refine h _ _ _ w (V.next H) ?_
    rw [AV.rep]
    refine ⟨A, 0, rfl, by omega, _, by rw [get_cons, if_pos rfl], fun n1 k1 c1 eq => ?_⟩
    injection eq with q1 q2 q3
    exact ⟨by omega, .inl ⟨upd_same _ _ _, rfl⟩⟩
/-- .. in its own block. -/
theorem outRow_place {dst r n k cap b z : Nat} {ob : AO} {c : Nat → Nat → D} {vs : Array Value} {t : Nat} {fz : Nat × Nat} {w' : World} (S : Sim G N μ I sl hp a w) (h : Then G N sl a o.dst K hp (outRow E dst f r n k c)) (hr0 : get hp r = some ob) (hd : ob ≠ .dead) (hm : μ r = some (b, z))
    (hl : Like w w') (hs : w'.heap.size = w.heap.size) (hw : ∀ k, k ≠ b → w'.heap[k]? = w.heap[k]?) (hget : w'.heap[b]? = some (.cells vs t fz)) (hf : nofz vs fz) (hc : n ≤ cap) (hz : vs.size = z) (hck : cap * k ≤ z)
    (hr : ∀ i j, i < n → j < k → ∃ u, vs[i * k + j]? = some u ∧ u.oneCell' = true ∧ ((∀ b, I b → w'.heap[b]? = w.heap[b]?) → (c i j).rep w' I u)) : K (a.put o.dst (.slice (some ⟨b, 0, none⟩) n cap)) w' := by
  unfold outRow at h
  split at h
  · have H := S.heap.freeze hr0 hd hm hl hs hw
    refine h _ _ _ _ (S.next H) ?_
    rw [AV.rep, D.rep]
    refine ⟨_, cap, rfl, hc, fun e => (by cases e), fun _ => ⟨b, 0, rfl, .inr rfl, fun i j hi hj => ?_⟩⟩
    obtain ⟨u, hu, h1, hur⟩ := hr i j hi hj
    exact ⟨u, by rw [Nat.zero_add, cell_of_row w' _ _ _ _ _ hget]; exact hu, h1, D.rep_mono (fun _ _ => rfl) (fun _ h => .inl h) _ _ (hur H.2.same)⟩
  · obtain ⟨hnew, h⟩ := kill_then h
    have H := S.heap.hand (f := f) hr0 hd (by
        rw [get_cons] at hnew
        by_cases hrf : r = f
        · rw [if_pos hrf] at hnew; cases hnew
        · rw [if_neg hrf] at hnew; exact hnew) hm (.row n k c) hl hs hw
      (fun X => .inr ⟨b, z, _, t, fz, upd_same _ _ _, hget, hf, hz, Nat.le_trans (Nat.mul_le_mul_right _ hc) hck, fun i j hi hj => by
        obtain ⟨u, hu, h1, hur⟩ := hr i j hi hj
        exact ⟨u, hu, h1, hur X.same⟩⟩)
    refine h _ _ _ _ (S.next H) ?_
    rw [AV.rep]
    refine ⟨_, cap, rfl, hc, _, by rw [get_cons, if_pos rfl], fun n1 k1 c1 eq => ?_⟩
    injection eq with q1 q2 q3
    subst q1; subst q2
    exact ⟨by omega, .inr ⟨b, z, upd_same _ _ _, fun _ => by rw [Nat.zero_mul], by rw [Nat.zero_add]; exact hck⟩⟩
theorem op_append {c : Call} (ho : o.op = .call c) (hc : c.callee = .builtin .append) (T : TyOk P E.tt) (S : Sim G N μ I sl hp a w) (h : (step E d f (.call c)).wp sl hp (Then G N sl a o.dst K hp)) : o.wp P a w K Q := by
  unfold step at h
  rw [wp_bind] at h
  obtain ⟨vs, h, hvs⟩ := opds_wp (Q := fun _ => True) S.slots h
  rw [hc] at h
  simp only at h
  cases hat : c.argTypes.toList with
  | nil => rw [hat] at h; exact h.elim
  | cons t l =>
  cases l with
  | nil => rw [hat] at h; exact h.elim
  | cons t' l =>
  cases l with
  | cons _ _ => rw [hat] at h; exact h.elim
  | nil =>
  rw [hat] at h
  match vs, hvs, h with
  | [], _, h => exact h.elim
  | [_], _, h => exact h.elim
  | _ :: _ :: _ :: _, _, h => exact h.elim
  | [x, y], hvs, h =>
    have h : ((elemS E t).bind _).wp sl hp (Then G N sl a o.dst K hp) := h
    rw [wp_bind] at h
    obtain ⟨td, e, ht, hk, h⟩ := elemS_wp h
    obtain ⟨g⟩ := T.good ht
    have hkk := g.k
    rw [hk] at hkk
    have hund : P.underlying t = some (.slice e) := by rw [g.und, hkk]
    rw [wp_bind] at h
    obtain ⟨te, hte, h⟩ := ty_wp h
    obtain ⟨ge⟩ := T.good hte
    rw [wp_bind] at h
    obtain ⟨td', ht', h⟩ := ty_wp h
    obtain ⟨g'⟩ := T.good ht'
    rw [wp_bind] at h
    obtain ⟨u, v, he, hu, hv⟩ := reps2 hvs
    obtain ⟨n, cc, l, h, hN⟩ := srcOf_wp (P := P) S.heap g' hv h
    obtain ⟨hb, h⟩ := need_wp h
    rw [Bool.and_eq_true] at hb
    have hb1 : 0 < te.bytes := by simpa [Nat.blt_eq] using hb.1
    have hb2 := Nat.le_of_ble_eq_true hb.2
    cases x with
    | d x =>
      cases x with
      | a val =>
        cases val with
        | slice A n' c' =>
          cases A with
          | some _ => exact h.elim
          | none =>
            match n', c', hu, h with
            | 0, 0, hu, h =>
              have e1 := rep_a hu
              rw [e1] at he
              exact append_fresh ho hc hat he hund ge hb1 hb2 h.l hN S h.r
            | 0, _ + 1, _, h => exact h.elim
            | _ + 1, _, _, h => exact h.elim
        | _ => exact h.elim
      | vs ex n' k' c' =>
        match ex, n', hu, h with
        | true, 0, hu, h =>
          rw [AV.rep, D.rep] at hu
          obtain ⟨A, cap, e1, _, hx, _⟩ := hu
          have := hx rfl
          subst this
          rw [e1] at he
          exact append_fresh ho hc hat he hund ge hb1 hb2 h.l hN S h.r
        | true, _ + 1, _, h => exact h.elim
        | false, _, _, h => exact h.elim
    | rs r off len =>
      match off, hu, h with
      | _ + 1, _, h => exact h.elim
      | 0, hu, h =>
        obtain ⟨ob, eo, h⟩ := obj_wp h
        cases ob with
        | row rn k c0 =>
          obtain ⟨hbk, h⟩ := need_wp h
          have hks := Nat.eq_of_beq_eq_true hbk
          obtain ⟨hn, h⟩ := h
          rw [AV.rep] at hu
          obtain ⟨A, cap, e1, hcap, ob, e3, hu⟩ := hu
          rw [eo] at e3; injection e3 with e3
          obtain ⟨hlen, hu⟩ := hu _ _ _ e3.symm
          rw [e1] at he
          obtain ⟨S1, X1⟩ := S.heap.kill r
          have V : Sim G N μ I sl ((r, .dead) :: hp) a w := S.next ⟨S1, X1⟩
          have hsrc := hN.src
          rw [← ge.size] at hsrc
          have hl := hN.src.newsLen
          by_cases hz : cap = 0
          · -- nothing there yet
            subst hz
            have hl0 : len = 0 := by omega
            subst hl0
            by_cases hn0 : n = 0
            · have hrun := run_append_none (P := P) (ty := o.type) (A := A) (len := 0) (cap := 0) hund ge.info rfl (by rw [hn0] at hsrc; exact hsrc) (Nat.le_refl _)
              have hh := h
              rw [hn0] at hh
              exact upV (exec_append (x := av (.bool true)) (y := av (.bool true)) ho hc hat he hrun) (outRow_zero V hh)
            · have hf := fits (need := 0 + n) (cap := 0) (by omega) hb1 hb2 (by exact hn)
              have hold : (Builtin.firstCells ge.i.size 0 (.slice A 0 0)).run P w.drew = .ok ([] : List Value).toArray w.drew := by
                cases A with
                | none => exact run_firstCells_none w.drew ge.i.size 0 0 0
                | some b => exact run_firstCells_some w.drew ge.i.size 0 b 0 0 [] (by simp) (fun j u e => by simp at e)
              have hrun := run_append_grow_src (P := P) w t t' o.type e ge.i ge.z hund ge.info ge.zero A 0 0 [] hold v n l hsrc (by omega) hf.2 (by rw [ge.bytes]; exact hf.1)
              have hcp := grownCap_ge w (0 + n) 0 e
              have hrep := grown_cells (kk := te.size) (n := 0) (m := n) (l := []) (l' := l) (c := c0) (c' := cc) (z := Builtin.zeroCells ge.z.cells (grownCap w (0 + n) 0 e - (0 + n))) (by simp) (fun i j hi => by omega) hN.cells
              refine upV (exec_append (x := av (.bool true)) (y := av (.bool true)) ho hc hat he hrun) (outRow_new V h ⟨rfl, rfl, rfl⟩ rfl hcp ?_ (fun i j hi hj => ?_))
              · rw [Array.size_append, size_zeroCells, zsize ge, hks]
                simp only [List.nil_append, List.size_toArray, hl]
                rw [← Nat.add_mul]
                congr 1; omega
              · obtain ⟨u, hu, h1, hur⟩ := hrep i j hi (by rw [← hks]; exact hj)
                exact ⟨u, by rw [show i * k + j = i * te.size + j from by rw [hks]]; exact hu, h1, hur⟩
          · rcases hu with ⟨_, hu⟩ | ⟨b, z, hm, hA, hzz⟩
            · omega
            have hA := hA (by omega)
            rw [Nat.zero_mul] at hA
            subst hA
            rw [Nat.zero_add] at hzz
            rcases S.heap.objs r _ eo with ⟨hm', hn'⟩ | ⟨b', z', vs', t'', fz, hm', hh, hf, hz', hk2, hr⟩
            · rw [hm] at hm'; cases hm'
            rw [hm] at hm'; injection hm' with hm'; injection hm' with e4 e5; subst e4; subst e5
            have hlk : len * k ≤ cap * k := Nat.mul_le_mul_right _ hcap
            by_cases hroom : len + n ≤ cap
            · -- in its place
              have hin : (len + n) * k ≤ cap * k := Nat.mul_le_mul_right _ hroom
              rw [Nat.add_mul] at hin
              have hrun := run_append_room_src (P := P) w t t' o.type e ge.i hund ge.info b 0 len cap v n l hsrc hroom (fun j hj => by
                  rw [Nat.zero_add, ge.size, ← hks, cell_of_row w b _ vs' t'' fz hh, Array.getElem?_eq_getElem (by rw [hz']; rw [hl, ← hks] at hj; omega)]; rfl) (fun j hj => by
                  rw [Nat.zero_add, ge.size, ← hks]
                  exact nofz_frozen hh hf (by rw [hz']; rw [hl, ← hks] at hj; omega))
              rw [Nat.zero_add, ge.size, ← hks] at hrun
              have hlike := setCells_like b l (len * k) w
              refine upV (exec_append (x := av (.bool true)) (y := av (.bool true)) ho hc hat he hrun) (outRow_place S h eo (by simp) hm hlike.1 hlike.2 (setCells_far b l _ _) (setCells_block b l _ _ _ _ _ hh) (nofz_put hf _ _) hroom (by rw [putA_size]; exact hz') hzz (fun i j hi hj => ?_))
              unfold appC
              by_cases hi2 : i < len
              · rw [if_pos hi2]
                obtain ⟨u, hu, h1, hur⟩ := hr i j (by omega) hj
                refine ⟨u, ?_, h1, fun hs => D.rep_mono hs (fun _ h => h) _ _ hur⟩
                rw [putA_out _ _ _ _ (.inl ?_)]
                · exact hu
                · have : (i + 1) * k ≤ len * k := Nat.mul_le_mul_right _ hi2
                  rw [Nat.add_mul] at this; omega
              · rw [if_neg hi2]
                rw [hks] at hj
                obtain ⟨u, hu, h1, hur⟩ := hN.cells (i - len) j (by omega) hj
                refine ⟨u, ?_, h1, fun hs => D.rep_mono hs (fun _ h => h) _ _ hur⟩
                have hql : (i - len) * te.size + j < l.length := (List.getElem?_eq_some_iff.1 hu).1
                have := putA_in l vs' (len * k) ((i - len) * te.size + j) hql (by rw [hz', hl, ← hks]; omega)
                have e6 : i * k + j = len * k + ((i - len) * te.size + j) := by rw [← hks, ← Nat.add_assoc, ← Nat.add_mul]; congr 2; omega
                rw [e6, this]; exact hu
            · -- a new row
              have hf2 := fits (need := len + n) (cap := cap) (by omega) hb1 hb2 hn
              have hol : (vs'.toList.take (len * k)).length = len * k := by rw [List.length_take, Array.length_toList, hz']; omega
              have hold : (Builtin.firstCells ge.i.size len (.slice (some ⟨b, 0, none⟩) len cap)).run P w.drew = .ok (vs'.toList.take (len * k)).toArray w.drew := by
                refine run_firstCells_some w.drew ge.i.size len _ len cap _ (by rw [hol, ge.size, hks]) (fun j u e => ?_)
                rw [add_lit0, Nat.zero_add]
                show w.cell? _ = _
                rw [cell_of_row w b _ vs' t'' fz hh]
                rw [List.getElem?_take] at e
                split at e
                · simpa using e
                · cases e
              have hrun := run_append_grow_src (P := P) w t t' o.type e ge.i ge.z hund ge.info ge.zero (some ⟨b, 0, none⟩) len cap _ hold v n l hsrc (by omega) hf2.2 (by rw [ge.bytes]; exact hf2.1)
              have hcp := grownCap_ge w (len + n) cap e
              have hrep := grown_cells (I := I) (w := w) (kk := te.size) (n := len) (m := n) (l := vs'.toList.take (len * k)) (l' := l) (c := c0) (c' := cc) (z := Builtin.zeroCells ge.z.cells (grownCap w (len + n) cap e - (len + n))) (by rw [hol, hks]) (fun i j hi hj => by
                  rw [← hks] at hj ⊢
                  obtain ⟨u, hu, h1, hur⟩ := hr i j (by omega) hj
                  refine ⟨u, ?_, h1, hur⟩
                  have : (i + 1) * k ≤ len * k := Nat.mul_le_mul_right _ hi
                  rw [Nat.add_mul] at this
                  rw [List.getElem?_take, if_pos (by omega)]; simpa using hu) hN.cells
              refine upV (exec_append (x := av (.bool true)) (y := av (.bool true)) ho hc hat he hrun) (outRow_new V h ⟨rfl, rfl, rfl⟩ rfl hcp ?_ (fun i j hi hj => ?_))
              · rw [Array.size_append, size_zeroCells, zsize ge]
                simp only [List.size_toArray, List.length_append, hl, hol]
                rw [hks, ← Nat.add_mul, ← Nat.add_mul]
                congr 1; omega
              · obtain ⟨u, hu, h1, hur⟩ := hrep i j hi (by rw [← hks]; exact hj)
                exact ⟨u, by rw [show i * k + j = i * te.size + j from by rw [hks]]; exact hu, h1, hur⟩
        | _ => exact h.elim
    | _ => exact h.elim
/-! ### calls -/
theorem op_fn {c : Call} {x : Operand} (ho : o.op = .call c) (hc : c.callee = .value x) (F : FnsOk P E) (S : Sim G N μ I sl hp a w) (h : (step E d f (.call c)).wp sl hp (Then G N sl a o.dst K hp)) : o.wp P a w K Q := by
  unfold step at h
  rw [wp_bind] at h
  obtain ⟨vs, h, hvs⟩ := opds_wp (Q := fun _ => True) S.slots h
  rw [hc] at h
  have h : ((opd x).bind _).wp sl hp (Then G N sl a o.dst K hp) := h
  rw [wp_bind] at h
  obtain ⟨v, h, hv⟩ := opd_wp S.slots h
  cases v with
  | fn g xs ys =>
    cases g with
    | func g =>
      cases hg : get E.fs g with
      | none => simp only [hg] at h; exact h.elim
      | some sm =>
        simp only [hg] at h
        rw [AV.rep] at hv
        obtain ⟨p, q, e, hp', hq⟩ := hv
        obtain ⟨⟨fn, hfn, hnm, hbd⟩, hok⟩ := F g sm hg
        have hC := hok G N μ I sl hp a w _ _ f o.dst K S (reps_app (reps_app hp' hvs) hq) h
        have hargs : (p.toList ++ c.args.toList.map a.eval ++ q.toList).toArray = p ++ c.args.map a.eval ++ q := by
          apply Array.ext'; simp
        rw [hargs] at hC
        have hrun : (execOp a.eval o).run P w = .ok (.enter g (p ++ c.args.map a.eval ++ q)) w := by
          have n1 : ¬ fn.name = "runtime.NumGoroutine" := by simpa using hnm
          have n2 : ¬ fn.body = none := fun e => by rw [e] at hbd; cases hbd
          simp [execOp, ho, resolve, hc, e, Deferred.ofValue, invoke, callFunc, hfn, n1, n2]
        unfold Oper.wp
        rw [hrun]
        exact hC.mono fun e w' ⟨u, he, hK⟩ => by subst he; exact hK
    | _ => exact h.elim
  | _ => exact h.elim
end
end Go.VM
