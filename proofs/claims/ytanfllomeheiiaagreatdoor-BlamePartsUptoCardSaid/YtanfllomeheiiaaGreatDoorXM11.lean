/- The abstract machine's operations are the model's: append, calls, all together. -/
import Derived.Test.YtanfllomeheiiaaGreatDoorXM10
set_option linter.unusedVariables false
set_option linter.unusedSimpArgs false
namespace Go.XM
open RM Go.RowKit
section
variable {P : Program} {E : Env} {G : Ctx} {N : Nat} {μ : Mu} {I : Nat → Prop} {sl : Slots} {hp : Heap} {a : Act} {w : World} {K : Act → World → Prop} {Q : Exit → Act → World → Prop} {o : Oper} {d f : Nat}
theorem zsize {t : Nat} {te : TyD} (g : TyGood P t te) : g.z.cells.size = te.size := by rw [← Array.length_toList, g.cells, g.len]
theorem nofzs (vs : Array Value) : nofz vs (0, 0) := nofz0 vs
/-- append onto nothing. -/
theorem append_fresh {c : Call} {t t' e n : Nat} {te : TyD} {A : Option Addr} {v : Value} {cc : Nat → Nat → D} {l : List Value} (ho : o.op = .call c) (hc : c.callee = .builtin .append) (hat : c.argTypes.toList = [t, t']) (he : c.args.toList.map a.eval = [.slice A 0 0, v])
    (hund : P.underlying t = some (.slice e)) (ge : TyGood P e te) (hb : 0 < te.bytes) (hb2 : te.bytes ≤ 65536) (hn : n * te.bytes ≤ 35184372088832) (hN : News P te.size t' v n cc w I l) (S : Sim G N μ I sl hp a w) (h : Then G N sl a o.dst K hp (newRow E d f false n te.size cc)) : o.wp P a w K Q := by
  cases n with
  | zero =>
    exact upV (exec_append (x := av (.bool true)) (y := av (.bool true)) ho hc hat he (run_append_none hund ge.info ge.size hN.src (Nat.le_refl _))) (newRow0 (A := A) (fun _ => trivial) S h)
  | succ m =>
    have hf := fits (need := 0 + (m + 1)) (cap := 0) (by omega) hb hb2 (by rw [Nat.zero_add]; exact hn)
    have hold : (Builtin.firstCells ge.i.size 0 (.slice A 0 0)).run P w.drew = .ok ([] : List Value).toArray w.drew := by
      cases A with
      | none => exact run_firstCells_none w.drew ge.i.size 0 0 0
      | some b => exact run_firstCells_some w.drew ge.i.size 0 b 0 0 [] (by simp) (fun j u e => by simp at e)
    have hsrc := hN.src
    rw [← ge.size] at hsrc
    have hrun := run_append_grow_src (P := P) w t t' o.type e ge.i ge.z hund ge.info ge.zero A 0 0 [] hold v (m + 1) l hsrc (by omega) hf.2 (by rw [ge.bytes]; exact hf.1)
    have hcap := grownCap_ge w (0 + (m + 1)) 0 e
    have hl := hN.src.newsLen
    have hrep := grown_cells (kk := te.size) (n := 0) (m := m + 1) (l := []) (l' := l) (c := fun _ _ => default) (c' := cc) (z := Builtin.zeroCells ge.z.cells (grownCap w (0 + (m + 1)) 0 e - (0 + (m + 1)))) (by simp) (fun i j hi => by omega) hN.cells
    refine upV (exec_append (x := av (.bool true)) (y := av (.bool true)) ho hc hat he hrun) ?_
    have e0 : 0 + (m + 1) = m + 1 := Nat.zero_add _
    have key : ∀ q, q = m + 1 → grownCap w q 0 e = grownCap w (0 + (m + 1)) 0 e := fun q hq => by rw [hq, e0]
    have h2 := newRow_ok (cap := grownCap w (0 + (m + 1)) 0 e) (w' := w.drew.alloc (.cells (([] ++ l).toArray ++ Builtin.zeroCells ge.z.cells (grownCap w (0 + (m + 1)) 0 e - (0 + (m + 1)))) e)) S h ⟨rfl, rfl, rfl⟩ rfl (nofzs _) (by omega) (fun h => by cases h) ?_ (fun i j hi hj => ?_)
    · rw [e0] at h2 ⊢; exact h2
    · rw [Array.size_append, size_zeroCells, zsize ge]
      simp only [List.nil_append, List.size_toArray, hl]
      rw [← Nat.add_mul]
      exact Nat.le_of_eq (by congr 1; omega)
    · have := hrep i j (by omega) hj
      unfold appC at this
      rw [if_neg (by omega), Nat.sub_zero] at this
      exact this
theorem kill_then {r : Nat} {v : AV} {o' : AO} {dst : Option Tmp} (h : Then G N sl a dst K hp (.mk v [(r, .dead)] [(f, o')])) : get ((r, AO.dead) :: hp) f = none ∧ ∀ μ' I' u w', Sim G N μ' I' sl ((f, o') :: (r, .dead) :: hp) a w' → v.rep μ' w' I' ((f, o') :: (r, .dead) :: hp) u → K (a.put dst u) w' := by
  have h : (match get ((r, AO.dead) :: hp) f with
    | none => _
    | some _ => False) := h
  cases hr : get ((r, AO.dead) :: hp) f with
  | some q => rw [hr] at h; exact h.elim
  | none => rw [hr] at h; exact ⟨rfl, h⟩
/-- A row in the place of another: in a new block. -/
theorem outRow_new {dst r n k cap : Nat} {c : Nat → Nat → D} {vs : Array Value} {t : Nat} {w' : World} (V : Sim G N μ I sl ((r, .dead) :: hp) a w) (h : Then G N sl a o.dst K hp (outRow E dst f r n k c)) (hl : Like w w') (hh : w'.heap = w.heap.push (.cells vs t (0, 0)))
    (hc : n ≤ cap) (hsz : vs.size = cap * k) (hr : ∀ i j, i < n → j < k → ∃ u, vs[i * k + j]? = some u ∧ u.oneCell' = true ∧ (c i j).rep w I u) : K (a.put o.dst (.slice (some ⟨w.heap.size, 0, none⟩) n cap)) w' := by
  have hget : w'.heap[w.heap.size]? = some (.cells vs t (0, 0)) := by rw [hh]; simp
  unfold outRow at h
  split at h
  · have H := V.heap.imm_new (.cells vs t (0, 0)) hl hh
    refine h _ _ _ _ (V.next H) ?_
    rw [AV.rep, D.rep]
    refine ⟨_, cap, rfl, hc, fun e => (by cases e), fun _ => ⟨w.heap.size, 0, rfl, .inr rfl, fun i j hi hj => ?_⟩⟩
    obtain ⟨u, hu, h1, hur⟩ := hr i j hi hj
    exact ⟨u, by rw [Nat.zero_add, cell_of_row w' _ _ _ _ _ hget]; exact hu, h1, D.rep_mono H.2.same H.2.imm _ _ hur⟩
  · obtain ⟨hnew, h⟩ := kill_then h
    have H := V.heap.new (w' := w') (r := f) hnew (.cells vs t (0, 0)) (cap * k) (.row n k c) hl hh
      (fun X => .inr ⟨_, _, _, t, (0, 0), upd_same _ _ _, hget, nofzs _, hsz, Nat.mul_le_mul_right _ hc, fun i j hi hj => by
        obtain ⟨u, hu, h1, hur⟩ := hr i j hi hj
        exact ⟨u, hu, h1, D.rep_mono X.same X.imm _ _ hur⟩⟩)
    refine h _ _ _ _ (V.next H) ?_
    rw [AV.rep]
    refine ⟨_, cap, rfl, hc, _, by rw [get_cons, if_pos rfl], fun n1 k1 c1 eq => ?_⟩
    injection eq with q1 q2 q3
    subst q1; subst q2
    exact ⟨by omega, .inr ⟨_, _, upd_same _ _ _, fun _ => by rw [Nat.zero_mul], by rw [Nat.zero_add]; exact Nat.le_refl _⟩⟩
/-- .. of no elements. -/
theorem outRow_zero {dst r k : Nat} {c : Nat → Nat → D} {A : Option Addr} (V : Sim G N μ I sl ((r, .dead) :: hp) a w) (h : Then G N sl a o.dst K hp (outRow E dst f r 0 k c)) : K (a.put o.dst (.slice A 0 0)) w := by
  unfold outRow at h
  split at h
  · refine h μ I _ w V ?_
    rw [AV.rep, D.rep]
    exact ⟨A, 0, rfl, Nat.le_refl _, fun _ => rfl, fun h => by omega⟩
  · obtain ⟨hnew, h⟩ := kill_then h
    have H := V.heap.newV (k := k) hnew c
    refine h _ _ _ w (V.next H) ?_
    rw [AV.rep]
    refine ⟨A, 0, rfl, by omega, _, by rw [get_cons, if_pos rfl], fun n1 k1 c1 eq => ?_⟩
    injection eq with q1 q2 q3
    exact ⟨by omega, .inl ⟨upd_same _ _ _, rfl⟩⟩
/-- .. in its own block. -/
theorem outRow_place {dst r n k cap b z : Nat} {ob : AO} {c : Nat → Nat → D} {vs : Array Value} {t : Nat} {fz : Nat × Nat} {w' : World} (S : Sim G N μ I sl hp a w) (h : Then G N sl a o.dst K hp (outRow E dst f r n k c)) (hr0 : get hp r = some ob) (hd : ob ≠ .dead) (hm : μ r = some (b, z))
    (hl : Like w w') (hs : w'.heap.size = w.heap.size) (hw : ∀ k, k ≠ b → w'.heap[k]? = w.heap[k]?) (hget : w'.heap[b]? = some (.cells vs t fz)) (hf : nofz vs fz) (hc : n ≤ cap) (hz : vs.size = z) (hck : cap * k ≤ z)
    (hr : ∀ i j, i < n → j < k → ∃ u, vs[i * k + j]? = some u ∧ u.oneCell' = true ∧ ((∀ b, I b → w'.heap[b]? = w.heap[b]?) → (c i j).rep w' I u)) : K (a.put o.dst (.slice (some ⟨b, 0, none⟩) n cap)) w' := by
  unfold outRow at h
  split at h
  · have H := S.heap.freeze hr0 hd hm hl hs hw
    refine h _ _ _ _ (S.next H) ?_
    rw [AV.rep, D.rep]
    refine ⟨_, cap, rfl, hc, fun e => (by cases e), fun _ => ⟨b, 0, rfl, .inr rfl, fun i j hi hj => ?_⟩⟩
    obtain ⟨u, hu, h1, hur⟩ := hr i j hi hj
    exact ⟨u, by rw [Nat.zero_add, cell_of_row w' _ _ _ _ _ hget]; exact hu, h1, D.rep_mono (fun _ _ => rfl) (fun _ h => .inl h) _ _ (hur H.2.same)⟩
  · obtain ⟨hnew, h⟩ := kill_then h
    have H := S.heap.hand (f := f) hr0 hd (by
        rw [get_cons] at hnew
        by_cases hrf : r = f
        · rw [if_pos hrf] at hnew; cases hnew
        · rw [if_neg hrf] at hnew; exact hnew) hm (.row n k c) hl hs hw
      (fun X => .inr ⟨b, z, _, t, fz, upd_same _ _ _, hget, hf, hz, Nat.le_trans (Nat.mul_le_mul_right _ hc) hck, fun i j hi hj => by
        obtain ⟨u, hu, h1, hur⟩ := hr i j hi hj
        exact ⟨u, hu, h1, hur X.same⟩⟩)
    refine h _ _ _ _ (S.next H) ?_
    rw [AV.rep]
    refine ⟨_, cap, rfl, hc, _, by rw [get_cons, if_pos rfl], fun n1 k1 c1 eq => ?_⟩
    injection eq with q1 q2 q3
    subst q1; subst q2
    exact ⟨by omega, .inr ⟨b, z, upd_same _ _ _, fun _ => by rw [Nat.zero_mul], by rw [Nat.zero_add]; exact hck⟩⟩
/-! ### rows of any cells -/
/-- A row grown: its cells. -/
theorem grownA {cs cs' : List AV} {l l' : List Value} {z : Array Value} {q : Nat} (h1 : AV.reps μ w I hp cs l) (h2 : AV.reps μ w I hp cs' l') (o1 : ∀ u ∈ l, u.oneCell' = true) (o2 : ∀ u ∈ l', u.oneCell' = true) (hq : (l ++ l').length = q) :
    AV.reps μ w I hp (cs ++ cs') (((l ++ l').toArray ++ z).toList.take q) ∧ ∀ u ∈ ((l ++ l').toArray ++ z).toList.take q, u.oneCell' = true := by
  have e : ((l ++ l').toArray ++ z).toList.take q = l ++ l' := by
    rw [Array.toList_append]
    show ((l ++ l') ++ z.toList).take q = _
    rw [List.take_append_of_le_length (by omega), List.take_of_length_le (by omega)]
  rw [e]
  refine ⟨reps_app h1 h2, fun u hu => ?_⟩
  rcases List.mem_append.1 hu with hu | hu
  · exact o1 u hu
  · exact o2 u hu
theorem appA_fresh {c : Call} {t t' e m : Nat} {te : TyD} {A : Option Addr} {v : Value} {cs : List AV} {l : List Value} (ho : o.op = .call c) (hc : c.callee = .builtin .append) (hat : c.argTypes.toList = [t, t']) (he : c.args.toList.map a.eval = [.slice A 0 0, v])
    (hund : P.underlying t = some (.slice e)) (ge : TyGood P e te) (hb : 0 < te.bytes) (hb2 : te.bytes ≤ 65536) (hn : (m + 1) * te.bytes ≤ 35184372088832) (hN : NewsA P te.size t' v (m + 1) cs μ w I hp l) (S : Sim G N μ I sl hp a w) (h : Then G N sl a o.dst K hp (.mk (.ra f 0 (m + 1)) [] [(f, .rowA (m + 1) te.size cs)])) : o.wp P a w K Q := by
  have hf := fits (need := 0 + (m + 1)) (cap := 0) (by omega) hb hb2 (by rw [Nat.zero_add]; exact hn)
  have hold : (Builtin.firstCells ge.i.size 0 (.slice A 0 0)).run P w.drew = .ok ([] : List Value).toArray w.drew := by
    cases A with
    | none => exact run_firstCells_none w.drew ge.i.size 0 0 0
    | some b => exact run_firstCells_some w.drew ge.i.size 0 b 0 0 [] (by simp) (fun j u e => by simp at e)
  have hsrc := hN.src
  rw [← ge.size] at hsrc
  have hrun := run_append_grow_src (P := P) w t t' o.type e ge.i ge.z hund ge.info ge.zero A 0 0 [] hold v (m + 1) l hsrc (by omega) hf.2 (by rw [ge.bytes]; exact hf.1)
  have hcap := grownCap_ge w (0 + (m + 1)) 0 e
  have hl := hN.src.newsLen
  refine upV (exec_append (x := av (.bool true)) (y := av (.bool true)) ho hc hat he hrun) ?_
  have e0 : 0 + (m + 1) = m + 1 := Nat.zero_add _
  have hg := grownA (μ := μ) (w := w) (I := I) (hp := hp) (cs := []) (l := []) (z := Builtin.zeroCells ge.z.cells (grownCap w (0 + (m + 1)) 0 e - (0 + (m + 1)))) (q := (m + 1) * te.size) trivial hN.reps (fun u h => by cases h) hN.one (by rw [List.nil_append, hl])
  have h2 := newRowA_ok (cap := grownCap w (0 + (m + 1)) 0 e) (w' := w.drew.alloc (.cells (([] ++ l : List Value).toArray ++ Builtin.zeroCells ge.z.cells (grownCap w (0 + (m + 1)) 0 e - (0 + (m + 1)))) e)) (vs := ([] ++ l : List Value).toArray ++ Builtin.zeroCells ge.z.cells (grownCap w (0 + (m + 1)) 0 e - (0 + (m + 1)))) S h ⟨rfl, rfl, rfl⟩ rfl (nofzs _) (by omega) ?_ hN.len (show AV.reps μ w I hp cs _ from hg.1) hg.2
  · rw [e0] at h2 ⊢; exact h2
  · rw [Array.size_append, size_zeroCells, zsize ge]
    simp only [List.nil_append, List.size_toArray, hl]
    rw [← Nat.add_mul]
    exact Nat.le_of_eq (by congr 1; omega)
theorem appA_none {c : Call} {t t' e len cap : Nat} {te : TyD} {A : Option Addr} {u v : Value} {x : AV} {cs : List AV} {l : List Value} (ho : o.op = .call c) (hc : c.callee = .builtin .append) (hat : c.argTypes.toList = [t, t']) (he : c.args.toList.map a.eval = [u, v])
    (hund : P.underlying t = some (.slice e)) (ge : TyGood P e te) (hN : NewsA P te.size t' v 0 cs μ w I hp l) (hu : x.rep μ w I hp u) (S : Sim G N μ I sl hp a w) (e1 : u = .slice A len cap) (hle : len ≤ cap) (h : Then G N sl a o.dst K hp (.mk x [] [])) : o.wp P a w K Q := by
  rw [e1] at he hu
  have hl : l = [] := List.eq_nil_of_length_eq_zero (by simpa using hN.src.newsLen)
  have hsrc := hN.src
  rw [hl] at hsrc
  exact upV (exec_append (x := av (.bool true)) (y := av (.bool true)) ho hc hat he (run_append_none hund ge.info ge.size hsrc hle)) (h μ I _ w S hu)
theorem op_appA {c : Call} {t t' e n : Nat} {te : TyD} {u v : Value} {x : AV} {cs : List AV} {l : List Value} (ho : o.op = .call c) (hc : c.callee = .builtin .append) (hat : c.argTypes.toList = [t, t']) (he : c.args.toList.map a.eval = [u, v])
    (hund : P.underlying t = some (.slice e)) (ge : TyGood P e te) (hb1 : 0 < te.bytes) (hb2 : te.bytes ≤ 65536) (hN : NewsA P te.size t' v n cs μ w I hp l) (hu : x.rep μ w I hp u) (S : Sim G N μ I sl hp a w) (h : (appA f te.size te.bytes x (n, cs)).wp sl hp (Then G N sl a o.dst K hp)) : o.wp P a w K Q := by
  unfold appA at h
  cases n with
  | zero =>
    cases x with
    | d x =>
      cases x with
      | a val =>
        cases val with
        | slice A n' c' =>
          cases A with
          | some _ => exact h.elim
          | none =>
            match n', c', hu, h with
            | 0, 0, hu, h => exact appA_none ho hc hat he hund ge hN hu S (rep_a hu) (Nat.le_refl _) h
            | 0, _ + 1, _, h => exact h.elim
            | _ + 1, _, _, h => exact h.elim
        | _ => exact h.elim
      | vs ex n' k' c' =>
        match ex, n', hu, h with
        | true, 0, hu, h =>
          have hu' := hu
          rw [AV.rep, D.rep] at hu'
          obtain ⟨A, cap, e1, _, hx, _⟩ := hu'
          exact appA_none ho hc hat he hund ge hN hu S e1 (Nat.zero_le _) h
        | true, _ + 1, _, h => exact h.elim
        | false, _, _, h => exact h.elim
    | ra r off len =>
      have hu' := hu
      rw [AV.rep] at hu'
      obtain ⟨A, cap, e1, hle, _⟩ := hu'
      exact appA_none ho hc hat he hund ge hN hu S e1 hle h
    | _ => exact h.elim
  | succ m =>
    cases x with
    | d x =>
      cases x with
      | a val =>
        cases val with
        | slice A n' c' =>
          cases A with
          | some _ => exact h.elim
          | none =>
            match n', c', hu, h with
            | 0, 0, hu, h =>
              have e1 := rep_a hu
              rw [e1] at he
              exact appA_fresh ho hc hat he hund ge hb1 hb2 h.l hN S h.r
            | 0, _ + 1, _, h => exact h.elim
            | _ + 1, _, _, h => exact h.elim
        | _ => exact h.elim
      | vs ex n' k' c' =>
        match ex, n', hu, h with
        | true, 0, hu, h =>
          rw [AV.rep, D.rep] at hu
          obtain ⟨A, cap, e1, _, hx, _⟩ := hu
          have := hx rfl
          subst this
          rw [e1] at he
          exact appA_fresh ho hc hat he hund ge hb1 hb2 h.l hN S h.r
        | true, _ + 1, _, h => exact h.elim
        | false, _, _, h => exact h.elim
    | ra r off len =>
      match off, hu, h with
      | _ + 1, _, h => exact h.elim
      | 0, hu, h =>
        obtain ⟨ob, eo, h⟩ := obj_wp h
        cases ob with
        | rowA rn k c0 =>
          obtain ⟨hbk, h⟩ := need_wp h
          have hks := Nat.eq_of_beq_eq_true hbk
          obtain ⟨hn, h⟩ := h
          rw [AV.rep] at hu
          obtain ⟨A, cap, e1, hcap, ob, e3, hu⟩ := hu
          rw [eo] at e3; injection e3 with e3
          obtain ⟨hlen, hu⟩ := hu _ _ _ e3.symm
          rw [e1] at he
          obtain ⟨S1, X1⟩ := S.heap.kill r
          have V : Sim G N μ I sl ((r, .dead) :: hp) a w := S.next ⟨S1, X1⟩
          have hsrc := hN.src
          rw [← ge.size] at hsrc
          have hl := hN.src.newsLen
          obtain ⟨hnew, h⟩ := kill_then h
          obtain ⟨hclen, hro⟩ := S.heap.objs r _ eo
          have hle : len * k ≤ rn * k := Nat.mul_le_mul_right _ (by omega)
          have hclen2 : (c0.take (len * k) ++ cs).length = (len + (m + 1)) * k := by
            have e9 : (len + (m + 1)) * k = len * k + (m + 1) * k := Nat.add_mul ..
            rw [List.length_append, List.length_take, hN.len, e9, ← hks, Nat.min_eq_left (by rw [hclen]; exact hle)]
          -- in a new block
          have grow : ∀ {b : Option Addr} {lo : List Value}, lo.length = len * k → AV.reps μ w I hp (c0.take (len * k)) lo → (∀ u ∈ lo, u.oneCell' = true) → cap < len + (m + 1) → A = b → (Builtin.firstCells ge.i.size len (.slice b len cap)).run P w.drew = .ok lo.toArray w.drew → o.wp P a w K Q := by
            intro b lo hlo hrl h1l hcp hAb hold
            subst hAb
            have hf2 := fits (need := len + (m + 1)) (cap := cap) hcp hb1 hb2 hn
            have hrun := run_append_grow_src (P := P) w t t' o.type e ge.i ge.z hund ge.info ge.zero A len cap _ hold v (m + 1) l hsrc (by omega) hf2.2 (by rw [ge.bytes]; exact hf2.1)
            have hcp2 := grownCap_ge w (len + (m + 1)) cap e
            have hq : (lo ++ l).length = (len + (m + 1)) * k := by
              have e9 : (len + (m + 1)) * k = len * k + (m + 1) * k := Nat.add_mul ..
              rw [List.length_append, hlo, hl, e9, ← hks]
            have hg := grownA (μ := μ) (w := w) (I := I) (hp := hp) (z := Builtin.zeroCells ge.z.cells (grownCap w (len + (m + 1)) cap e - (len + (m + 1)))) hrl hN.reps h1l hN.one hq
            refine upV (exec_append (x := av (.bool true)) (y := av (.bool true)) ho hc hat he hrun) ?_
            let vs' : Array Value := (lo ++ l).toArray ++ Builtin.zeroCells ge.z.cells (grownCap w (len + (m + 1)) cap e - (len + (m + 1)))
            let w' : World := w.drew.alloc (.cells vs' e)
            have hget : w'.heap[w.heap.size]? = some (.cells vs' e (0, 0)) := by show (w.heap.push _)[w.heap.size]? = _; simp
            have hsz : vs'.size = grownCap w (len + (m + 1)) cap e * k := by
              show ((lo ++ l).toArray ++ _).size = _
              rw [Array.size_append, size_zeroCells, zsize ge, List.size_toArray, hq, ← hks, ← Nat.add_mul]
              congr 1; omega
            have H := V.heap.new (w' := w') (r := f) hnew (.cells vs' e (0, 0)) vs'.size (.rowA (len + (m + 1)) k (c0.take (len * k) ++ cs)) ⟨rfl, rfl, rfl⟩ rfl
              (fun X => ⟨hclen2, .inr ⟨_, _, vs', e, (0, 0), upd_same _ _ _, hget, nofzs _, rfl, by rw [hsz]; exact Nat.mul_le_mul_right _ hcp2, X.reps (X1.reps hg.1), hg.2⟩⟩)
            refine h _ _ _ _ (V.next H) ?_
            rw [AV.rep]
            refine ⟨_, _, rfl, hcp2, _, by rw [get_cons, if_pos rfl], fun n1 k1 c1 eq => ?_⟩
            injection eq with q1 q2 q3
            subst q1; subst q2
            exact ⟨by omega, .inr ⟨_, _, upd_same _ _ _, fun _ => by rw [Nat.zero_mul], by rw [Nat.zero_add, hsz]; exact Nat.le_refl _⟩⟩
          by_cases hz : cap = 0
          · subst hz
            have hl0 : len = 0 := by omega
            subst hl0
            refine grow (b := some A) (lo := []) (by simp) (by rw [Nat.zero_mul, List.take_zero]; trivial) (fun u h => by cases h) (by omega) rfl ?_
            exact run_firstCells_some w.drew ge.i.size 0 A 0 0 [] (by simp) (fun j u e => by simp at e)
          · rcases hu with ⟨_, hu⟩ | ⟨b, z, hm, hA, hzz⟩
            · omega
            have hA := hA (by omega)
            rw [Nat.zero_mul] at hA
            rw [Nat.zero_add] at hzz
            subst hA
            rcases hro with ⟨hm', _⟩ | ⟨b', z', vs', t'', fz, hm', hh, hf, hz', hkz, hr, h1⟩
            · rw [hm] at hm'; cases hm'
            rw [hm] at hm'; injection hm' with hm'; injection hm' with e4 e5; subst e4; subst e5
            have hlk : len * k ≤ cap * k := Nat.mul_le_mul_right _ hcap
            have hol : (vs'.toList.take (len * k)).length = len * k := by rw [List.length_take, Array.length_toList, hz']; omega
            have htt : (vs'.toList.take (rn * k)).take (len * k) = vs'.toList.take (len * k) := by rw [List.take_take, Nat.min_eq_left hle]
            have hrl : AV.reps μ w I hp (c0.take (len * k)) (vs'.toList.take (len * k)) := by rw [← htt]; exact reps_take _ hr
            have h1l : ∀ u ∈ vs'.toList.take (len * k), u.oneCell' = true := fun u hu => h1 u (by rw [← htt] at hu; exact List.mem_of_mem_take hu)
            by_cases hroom : len + (m + 1) ≤ cap
            · have hin : (len + (m + 1)) * k ≤ cap * k := Nat.mul_le_mul_right _ hroom
              have hin0 := hin
              rw [Nat.add_mul] at hin
              have hrun := run_append_room_src (P := P) w t t' o.type e ge.i hund ge.info b 0 len cap v (m + 1) l hsrc hroom (fun j hj => by
                  rw [Nat.zero_add, ge.size, ← hks, cell_of_row w b _ vs' t'' fz hh, Array.getElem?_eq_getElem (by rw [hz']; rw [hl, ← hks] at hj; omega)]; rfl) (fun j hj => by
                  rw [Nat.zero_add, ge.size, ← hks]
                  exact nofz_frozen hh hf (by rw [hz']; rw [hl, ← hks] at hj; omega))
              rw [Nat.zero_add, ge.size, ← hks] at hrun
              have hlike := setCells_like b l (len * k) w
              have hget := setCells_block b l (len * k) w vs' t'' fz hh
              refine upV (exec_append (x := av (.bool true)) (y := av (.bool true)) ho hc hat he hrun) ?_
              have hput : (putA vs' (len * k) l).toList.take ((len + (m + 1)) * k) = vs'.toList.take (len * k) ++ l := by
                apply List.ext_getElem?
                intro q
                rw [List.getElem?_take]
                by_cases hq : q < (len + (m + 1)) * k
                · rw [if_pos hq]
                  by_cases hq2 : q < len * k
                  · rw [List.getElem?_append_left (by rw [hol]; exact hq2), List.getElem?_take, if_pos hq2, Array.getElem?_toList, Array.getElem?_toList, putA_out _ _ _ _ (.inl hq2)]
                  · have hql : q - len * k < l.length := by rw [hl, ← hks]; rw [Nat.add_mul] at hq; omega
                    rw [List.getElem?_append_right (by rw [hol]; omega), hol, Array.getElem?_toList]
                    have := putA_in l vs' (len * k) (q - len * k) hql (by rw [hz', hl, ← hks]; omega)
                    rw [show len * k + (q - len * k) = q from by omega] at this
                    exact this
                · rw [if_neg hq, List.getElem?_eq_none (by rw [List.length_append, hol, hl, ← hks, ← Nat.add_mul]; omega)]
              have H := S.heap.hand (f := f) eo (by simp) (by
                  rw [get_cons] at hnew
                  by_cases hrf : r = f
                  · rw [if_pos hrf] at hnew; cases hnew
                  · rw [if_neg hrf] at hnew; exact hnew) hm (.rowA (len + (m + 1)) k (c0.take (len * k) ++ cs)) hlike.1 hlike.2 (setCells_far b l _ _)
                (fun X => ⟨hclen2, .inr ⟨b, z, _, t'', fz, upd_same _ _ _, hget, nofz_put hf _ _, by rw [putA_size]; exact hz', Nat.le_trans hin0 hzz, by rw [hput]; exact X.reps (reps_app hrl hN.reps), fun u hu => by
                  rw [hput] at hu
                  rcases List.mem_append.1 hu with hu | hu
                  · exact h1l u hu
                  · exact hN.one u hu⟩⟩)
              refine h _ _ _ _ (S.next H) ?_
              rw [AV.rep]
              refine ⟨_, cap, rfl, hroom, _, by rw [get_cons, if_pos rfl], fun n1 k1 c1 eq => ?_⟩
              injection eq with q1 q2 q3
              subst q1; subst q2
              exact ⟨by omega, .inr ⟨b, z, upd_same _ _ _, fun _ => by rw [Nat.zero_mul], by rw [Nat.zero_add]; exact hzz⟩⟩
            · refine grow hol hrl h1l (by omega) rfl ?_
              refine run_firstCells_some w.drew ge.i.size len _ len cap _ (by rw [hol, ge.size, hks]) (fun j u e => ?_)
              rw [add_lit0, Nat.zero_add]
              show w.cell? _ = _
              rw [cell_of_row w b _ vs' t'' fz hh]
              rw [List.getElem?_take] at e
              split at e
              · simpa using e
              · cases e
        | _ => exact h.elim
    | _ => exact h.elim
theorem zeroC_list {e : Nat} {te : TyD} (g : TyGood P e te) (n : Nat) : (Builtin.zeroCells g.z.cells n).toList = zeroL n te.zero := by
  unfold Builtin.zeroCells zeroL
  have hl : g.z.cells.size = te.size := by rw [← Array.length_toList, g.cells, g.len]
  rw [Array.toList_map, Array.toList_range, g.len, hl, ← g.cells]
  refine List.map_congr_left fun j hj => ?_
  have hj : j < n * te.size := List.mem_range.1 hj
  have h0 : 0 < te.size := by
    rcases Nat.eq_zero_or_pos te.size with h | h
    · rw [h, Nat.mul_zero] at hj; omega
    · exact h
  have hm : j % te.size < g.z.cells.size := by rw [hl]; exact Nat.mod_lt _ h0
  rw [List.getD_eq_getElem?_getD, List.getElem?_eq_getElem (by simpa using hm)]
  simp [hm]
theorem run_append_zeros {t t' ty e n : Nat} {te : TyD} {k q : IntKind} (g : TyGood P e te) (hu : P.underlying t = some (.slice e)) (hu' : P.underlying t' = some (.int q)) (h0 : 0 < n) (hb : n * te.bytes ≤ 35184372088832) (h63 : n ≤ 4611686018427387904) :
    (Builtin.append_ #[t, t'] ty #[.slice none 0 0, .int k n]).run P w = .ok (.slice (some ⟨w.heap.size, 0, none⟩) n (grownCap w n 0 e)) (w.drew.alloc (.cells (Builtin.zeroCells g.z.cells n ++ Builtin.zeroCells g.z.cells (grownCap w n 0 e - n)) e)) := by
  have w1 : IntKind.i64.wrap (n : Int) = n := by rw [IntKind.wrap_i64]; omega
  have hz : (zeroValue e).run P w.drew = .ok g.z w.drew := g.zeroValue _
  have hsz : g.z.cells.size = te.size := by rw [← Array.length_toList, g.cells, g.len]
  have hn : n ≠ 0 := by omega
  have n1 : ¬ ((n : Int) < 0) := by omega
  have n2 : ¬ (281474976710656 < (n : Int) * te.bytes) := by
    have : (n : Int) * te.bytes = ((n * te.bytes : Nat) : Int) := by simp
    omega
  have n3 : ¬ (9223372036854775807 < (n : Int)) := by omega
  have n4 : ¬ (281474976710656 < Builtin.nextslicecap n 0 * te.bytes) := by rw [nextslicecap_zero h0]; omega
  by_cases h : n * te.size = 0
  · have e0 : Builtin.zeroCells g.z.cells n = #[] := by
      apply Array.eq_empty_of_size_eq_zero
      simp [Builtin.zeroCells, hsz, h]
    have h2 : te.size = 0 := by
      rcases Nat.mul_eq_zero.1 h with h | h
      · omega
      · exact h
    simp [Builtin.append_, run_underlying hu, run_underlying hu', asInt, asIntOf, w1, sizeOf, typeInfo, g.info, g.size, g.bytes, n1, n2, n3, n4, hn, h2, Question.forced, run_firstCells_none, Go.newRow, hz, e0, grownCap]
  · have h2 : te.size ≠ 0 := fun e => h (by rw [e, Nat.mul_zero])
    simp [Builtin.append_, run_underlying hu, run_underlying hu', asInt, asIntOf, w1, sizeOf, typeInfo, g.info, g.size, g.bytes, n1, n2, n3, n4, hn, h2, h, Question.forced, run_firstCells_none, Go.newRow, hz, grownCap]
theorem op_append {c : Call} (ho : o.op = .call c) (hc : c.callee = .builtin .append) (T : TyOk P E.tt) (S : Sim G N μ I sl hp a w) (h : (step E d f (.call c)).wp sl hp (Then G N sl a o.dst K hp)) : o.wp P a w K Q := by
  unfold step at h
  rw [wp_bind] at h
  obtain ⟨vs, h, hvs⟩ := opds_wp (Q := fun _ => True) S.slots h
  rw [hc] at h
  simp only at h
  cases hat : c.argTypes.toList with
  | nil => rw [hat] at h; exact h.elim
  | cons t l =>
  cases l with
  | nil => rw [hat] at h; exact h.elim
  | cons t' l =>
  cases l with
  | cons _ _ => rw [hat] at h; exact h.elim
  | nil =>
  rw [hat] at h
  match vs, hvs, h with
  | [], _, h => exact h.elim
  | [_], _, h => exact h.elim
  | _ :: _ :: _ :: _, _, h => exact h.elim
  | [x, y], hvs, h =>
    have h : ((elemS E t).bind _).wp sl hp (Then G N sl a o.dst K hp) := h
    rw [wp_bind] at h
    obtain ⟨td, e, ht, hk, h⟩ := elemS_wp h
    obtain ⟨g⟩ := T.good ht
    have hkk := g.k
    rw [hk] at hkk
    have hund : P.underlying t = some (.slice e) := by rw [g.und, hkk]
    rw [wp_bind] at h
    obtain ⟨te, hte, h⟩ := ty_wp h
    obtain ⟨ge⟩ := T.good hte
    rw [wp_bind] at h
    obtain ⟨td', ht', h⟩ := ty_wp h
    obtain ⟨g'⟩ := T.good ht'
    obtain ⟨u, v, he, hu, hv⟩ := reps2 hvs
    cases hint : isIntK td'.k with
    | true =>
      rw [hint] at h
      simp only at h
      have hq : ∃ q, P.underlying t' = some (.int q) := by
        have hk' := g'.k
        unfold isIntK at hint
        split at hint
        · rename_i q e; rw [e] at hk'; exact ⟨q, by rw [g'.und, hk']⟩
        · cases hint
      obtain ⟨q, hu'⟩ := hq
      unfold appZ at h
      split at h
      case h_2 => exact h.elim
      rw [wp_bind] at h
      obtain ⟨k, n, ey, h2⟩ := asI_wp h
      obtain ⟨h0, hb, h63⟩ := h2.l
      have hf := h2.r
      clear h h2
      subst ey
      have e1 := rep_a hu
      have e2 := rep_a hv
      subst e1; subst e2
      obtain ⟨m, rfl⟩ : ∃ m : Nat, n = m := ⟨n.toNat, by omega⟩
      simp only [Int.toNat_natCast] at hf
      have hb' : m * te.bytes ≤ 35184372088832 := by
        have : (m : Int) * te.bytes = ((m * te.bytes : Nat) : Int) := by simp
        simp only at hb
        omega
      have hrun := run_append_zeros (P := P) (w := w) (ty := o.type) (k := k) ge hund hu' (n := m) (by simp only at h0; omega) hb' (by simp only at h63; omega)
      have hcap := grownCap_ge w m 0 e
      have hzl := zeroC_list ge m
      have hzs : (Builtin.zeroCells ge.z.cells m).size = m * te.size := by rw [← Array.length_toList, hzl]; simp [zeroL, ge.len]
      have hzs2 : (Builtin.zeroCells ge.z.cells (grownCap w m 0 e - m)).size = (grownCap w m 0 e - m) * te.size := by
        rw [← Array.length_toList, zeroC_list ge]; simp [zeroL, ge.len]
      have htake : (Builtin.zeroCells ge.z.cells m ++ Builtin.zeroCells ge.z.cells (grownCap w m 0 e - m)).toList.take (m * te.size) = zeroL m te.zero := by
        rw [Array.toList_append, List.take_append_of_le_length (by rw [Array.length_toList, hzs]; exact Nat.le_refl _), List.take_of_length_le (by rw [Array.length_toList, hzs]; exact Nat.le_refl _), hzl]
      refine upV (exec_append (x := av (.bool true)) (y := av (.bool true)) ho hc hat he hrun) (Then.new (z := grownCap w m 0 e * te.size) S hf ⟨rfl, rfl, rfl⟩ rfl (fun X => ⟨by simp [zeroL, ge.len], .inr ⟨w.heap.size, _, _, e, (0, 0), upd_same _ _ _, heap_push_self w.drew _, nofz0 _, ?_, Nat.mul_le_mul_right _ hcap, ?_, fun u hu => ?_⟩⟩) (fun X => ?_))
      · rw [Array.size_append, hzs, hzs2, ← Nat.add_mul]; congr 1; omega
      · rw [htake]; exact reps_atoms _
      · rw [htake] at hu
        unfold zeroL at hu
        obtain ⟨j, hj, rfl⟩ := List.mem_map.1 hu
        rw [List.getD_eq_getElem?_getD]
        cases hq : te.zero[j % te.zero.length]? with
        | none => rfl
        | some u => exact one_of (ge.one u (List.mem_of_getElem? hq))
      · rw [AV.rep]
        refine ⟨_, _, rfl, hcap, _, by rw [get_cons, if_pos rfl], fun n k cs eo => ?_⟩
        injection eo with h1 h2 h3
        subst h1; subst h2
        exact ⟨by omega, .inr ⟨w.heap.size, _, upd_same _ _ _, fun _ => by rw [Nat.zero_mul], by rw [Nat.zero_add]; exact Nat.le_refl _⟩⟩
    | false =>
    rw [hint] at h
    simp only at h
    cases hcl : E.cl with
    | true =>
      rw [hcl] at h
      have h : ((srcA td'.k te.size y).bind _).wp sl hp (Then G N sl a o.dst K hp) := h
      rw [wp_bind] at h
      obtain ⟨n, cc, l, h, hN⟩ := srcA_wp (P := P) S.heap g' hv h
      obtain ⟨hb, h⟩ := need_wp h
      rw [Bool.and_eq_true] at hb
      exact op_appA ho hc hat he hund ge (by simpa [Nat.blt_eq] using hb.1) (Nat.le_of_ble_eq_true hb.2) hN hu S h
    | false =>
    rw [hcl] at h
    have h : ((srcOf td'.k te.size y).bind _).wp sl hp (Then G N sl a o.dst K hp) := h
    rw [wp_bind] at h
    obtain ⟨n, cc, l, h, hN⟩ := srcOf_wp (P := P) S.heap g' hv h
    obtain ⟨hb, h⟩ := need_wp h
    rw [Bool.and_eq_true] at hb
    have hb1 : 0 < te.bytes := by simpa [Nat.blt_eq] using hb.1
    have hb2 := Nat.le_of_ble_eq_true hb.2
    cases x with
    | d x =>
      cases x with
      | a val =>
        cases val with
        | slice A n' c' =>
          cases A with
          | some _ => exact h.elim
          | none =>
            match n', c', hu, h with
            | 0, 0, hu, h =>
              have e1 := rep_a hu
              rw [e1] at he
              exact append_fresh ho hc hat he hund ge hb1 hb2 h.l hN S h.r
            | 0, _ + 1, _, h => exact h.elim
            | _ + 1, _, _, h => exact h.elim
        | _ => exact h.elim
      | vs ex n' k' c' =>
        match ex, n', hu, h with
        | true, 0, hu, h =>
          rw [AV.rep, D.rep] at hu
          obtain ⟨A, cap, e1, _, hx, _⟩ := hu
          have := hx rfl
          subst this
          rw [e1] at he
          exact append_fresh ho hc hat he hund ge hb1 hb2 h.l hN S h.r
        | true, _ + 1, _, h => exact h.elim
        | false, _, _, h => exact h.elim
    | rs r off len =>
      match off, hu, h with
      | _ + 1, _, h => exact h.elim
      | 0, hu, h =>
        obtain ⟨ob, eo, h⟩ := obj_wp h
        cases ob with
        | row rn k c0 =>
          obtain ⟨hbk, h⟩ := need_wp h
          have hks := Nat.eq_of_beq_eq_true hbk
          obtain ⟨hn, h⟩ := h
          rw [AV.rep] at hu
          obtain ⟨A, cap, e1, hcap, ob, e3, hu⟩ := hu
          rw [eo] at e3; injection e3 with e3
          obtain ⟨hlen, hu⟩ := hu _ _ _ e3.symm
          rw [e1] at he
          obtain ⟨S1, X1⟩ := S.heap.kill r
          have V : Sim G N μ I sl ((r, .dead) :: hp) a w := S.next ⟨S1, X1⟩
          have hsrc := hN.src
          rw [← ge.size] at hsrc
          have hl := hN.src.newsLen
          by_cases hz : cap = 0
          · -- nothing there yet
            subst hz
            have hl0 : len = 0 := by omega
            subst hl0
            by_cases hn0 : n = 0
            · have hrun := run_append_none (P := P) (ty := o.type) (A := A) (len := 0) (cap := 0) hund ge.info rfl (by rw [hn0] at hsrc; exact hsrc) (Nat.le_refl _)
              have hh := h
              rw [hn0] at hh
              exact upV (exec_append (x := av (.bool true)) (y := av (.bool true)) ho hc hat he hrun) (outRow_zero V hh)
            · have hf := fits (need := 0 + n) (cap := 0) (by omega) hb1 hb2 (by exact hn)
              have hold : (Builtin.firstCells ge.i.size 0 (.slice A 0 0)).run P w.drew = .ok ([] : List Value).toArray w.drew := by
                cases A with
                | none => exact run_firstCells_none w.drew ge.i.size 0 0 0
                | some b => exact run_firstCells_some w.drew ge.i.size 0 b 0 0 [] (by simp) (fun j u e => by simp at e)
              have hrun := run_append_grow_src (P := P) w t t' o.type e ge.i ge.z hund ge.info ge.zero A 0 0 [] hold v n l hsrc (by omega) hf.2 (by rw [ge.bytes]; exact hf.1)
              have hcp := grownCap_ge w (0 + n) 0 e
              have hrep := grown_cells (kk := te.size) (n := 0) (m := n) (l := []) (l' := l) (c := c0) (c' := cc) (z := Builtin.zeroCells ge.z.cells (grownCap w (0 + n) 0 e - (0 + n))) (by simp) (fun i j hi => by omega) hN.cells
              refine upV (exec_append (x := av (.bool true)) (y := av (.bool true)) ho hc hat he hrun) (outRow_new V h ⟨rfl, rfl, rfl⟩ rfl hcp ?_ (fun i j hi hj => ?_))
              · rw [Array.size_append, size_zeroCells, zsize ge, hks]
                simp only [List.nil_append, List.size_toArray, hl]
                rw [← Nat.add_mul]
                congr 1; omega
              · obtain ⟨u, hu, h1, hur⟩ := hrep i j hi (by rw [← hks]; exact hj)
                exact ⟨u, by rw [show i * k + j = i * te.size + j from by rw [hks]]; exact hu, h1, hur⟩
          · rcases hu with ⟨_, hu⟩ | ⟨b, z, hm, hA, hzz⟩
            · omega
            have hA := hA (by omega)
            rw [Nat.zero_mul] at hA
            subst hA
            rw [Nat.zero_add] at hzz
            rcases S.heap.objs r _ eo with ⟨hm', hn'⟩ | ⟨b', z', vs', t'', fz, hm', hh, hf, hz', hk2, hr⟩
            · rw [hm] at hm'; cases hm'
            rw [hm] at hm'; injection hm' with hm'; injection hm' with e4 e5; subst e4; subst e5
            have hlk : len * k ≤ cap * k := Nat.mul_le_mul_right _ hcap
            by_cases hroom : len + n ≤ cap
            · -- in its place
              have hin : (len + n) * k ≤ cap * k := Nat.mul_le_mul_right _ hroom
              rw [Nat.add_mul] at hin
              have hrun := run_append_room_src (P := P) w t t' o.type e ge.i hund ge.info b 0 len cap v n l hsrc hroom (fun j hj => by
                  rw [Nat.zero_add, ge.size, ← hks, cell_of_row w b _ vs' t'' fz hh, Array.getElem?_eq_getElem (by rw [hz']; rw [hl, ← hks] at hj; omega)]; rfl) (fun j hj => by
                  rw [Nat.zero_add, ge.size, ← hks]
                  exact nofz_frozen hh hf (by rw [hz']; rw [hl, ← hks] at hj; omega))
              rw [Nat.zero_add, ge.size, ← hks] at hrun
              have hlike := setCells_like b l (len * k) w
              refine upV (exec_append (x := av (.bool true)) (y := av (.bool true)) ho hc hat he hrun) (outRow_place S h eo (by simp) hm hlike.1 hlike.2 (setCells_far b l _ _) (setCells_block b l _ _ _ _ _ hh) (nofz_put hf _ _) hroom (by rw [putA_size]; exact hz') hzz (fun i j hi hj => ?_))
              unfold appC
              by_cases hi2 : i < len
              · rw [if_pos hi2]
                obtain ⟨u, hu, h1, hur⟩ := hr i j (by omega) hj
                refine ⟨u, ?_, h1, fun hs => D.rep_mono hs (fun _ h => h) _ _ hur⟩
                rw [putA_out _ _ _ _ (.inl ?_)]
                · exact hu
                · have : (i + 1) * k ≤ len * k := Nat.mul_le_mul_right _ hi2
                  rw [Nat.add_mul] at this; omega
              · rw [if_neg hi2]
                rw [hks] at hj
                obtain ⟨u, hu, h1, hur⟩ := hN.cells (i - len) j (by omega) hj
                refine ⟨u, ?_, h1, fun hs => D.rep_mono hs (fun _ h => h) _ _ hur⟩
                have hql : (i - len) * te.size + j < l.length := (List.getElem?_eq_some_iff.1 hu).1
                have := putA_in l vs' (len * k) ((i - len) * te.size + j) hql (by rw [hz', hl, ← hks]; omega)
                have e6 : i * k + j = len * k + ((i - len) * te.size + j) := by rw [← hks, ← Nat.add_assoc, ← Nat.add_mul]; congr 2; omega
                rw [e6, this]; exact hu
            · -- a new row
              have hf2 := fits (need := len + n) (cap := cap) (by omega) hb1 hb2 hn
              have hol : (vs'.toList.take (len * k)).length = len * k := by rw [List.length_take, Array.length_toList, hz']; omega
              have hold : (Builtin.firstCells ge.i.size len (.slice (some ⟨b, 0, none⟩) len cap)).run P w.drew = .ok (vs'.toList.take (len * k)).toArray w.drew := by
                refine run_firstCells_some w.drew ge.i.size len _ len cap _ (by rw [hol, ge.size, hks]) (fun j u e => ?_)
                rw [add_lit0, Nat.zero_add]
                show w.cell? _ = _
                rw [cell_of_row w b _ vs' t'' fz hh]
                rw [List.getElem?_take] at e
                split at e
                · simpa using e
                · cases e
              have hrun := run_append_grow_src (P := P) w t t' o.type e ge.i ge.z hund ge.info ge.zero (some ⟨b, 0, none⟩) len cap _ hold v n l hsrc (by omega) hf2.2 (by rw [ge.bytes]; exact hf2.1)
              have hcp := grownCap_ge w (len + n) cap e
              have hrep := grown_cells (I := I) (w := w) (kk := te.size) (n := len) (m := n) (l := vs'.toList.take (len * k)) (l' := l) (c := c0) (c' := cc) (z := Builtin.zeroCells ge.z.cells (grownCap w (len + n) cap e - (len + n))) (by rw [hol, hks]) (fun i j hi hj => by
                  rw [← hks] at hj ⊢
                  obtain ⟨u, hu, h1, hur⟩ := hr i j (by omega) hj
                  refine ⟨u, ?_, h1, hur⟩
                  have : (i + 1) * k ≤ len * k := Nat.mul_le_mul_right _ hi
                  rw [Nat.add_mul] at this
                  rw [List.getElem?_take, if_pos (by omega)]; simpa using hu) hN.cells
              refine upV (exec_append (x := av (.bool true)) (y := av (.bool true)) ho hc hat he hrun) (outRow_new V h ⟨rfl, rfl, rfl⟩ rfl hcp ?_ (fun i j hi hj => ?_))
              · rw [Array.size_append, size_zeroCells, zsize ge]
                simp only [List.size_toArray, List.length_append, hl, hol]
                rw [hks, ← Nat.add_mul, ← Nat.add_mul]
                congr 1; omega
              · obtain ⟨u, hu, h1, hur⟩ := hrep i j hi (by rw [← hks]; exact hj)
                exact ⟨u, by rw [show i * k + j = i * te.size + j from by rw [hks]]; exact hu, h1, hur⟩
        | _ => exact h.elim
    | _ => exact h.elim
/-! ### calls -/
theorem op_fn {c : Call} {x : Operand} (ho : o.op = .call c) (hc : c.callee = .value x) (F : FnsOk P E) (S : Sim G N μ I sl hp a w) (h : (step E d f (.call c)).wp sl hp (Then G N sl a o.dst K hp)) : o.wp P a w K Q := by
  unfold step at h
  rw [wp_bind] at h
  obtain ⟨vs, h, hvs⟩ := opds_wp (Q := fun _ => True) S.slots h
  rw [hc] at h
  have h : ((opd x).bind _).wp sl hp (Then G N sl a o.dst K hp) := h
  rw [wp_bind] at h
  obtain ⟨v, h, hv⟩ := opd_wp S.slots h
  cases v with
  | fn g xs ys =>
    cases g with
    | func g =>
      cases hg : E.fs g with
      | none => simp only [hg] at h; exact h.elim
      | some sm =>
        simp only [hg] at h
        rw [AV.rep] at hv
        obtain ⟨p, q, e, hp', hq⟩ := hv
        have hC := F g sm hg G N μ I sl hp a w _ _ f o.dst K S (reps_app (reps_app hp' hvs) hq) h
        have hargs : (p.toList ++ c.args.toList.map a.eval ++ q.toList).toArray = p ++ c.args.map a.eval ++ q := by
          apply Array.ext'; simp
        unfold CallOk at hC
        rw [hargs] at hC
        rcases hC with ⟨⟨fn, hfn, hnm, hbd⟩, hC⟩ | ⟨u, w', hC, hK⟩
        · have hrun : (execOp a.eval o).run P w = .ok (.enter g (p ++ c.args.map a.eval ++ q)) w := by
            have n1 : ¬ fn.name = "runtime.NumGoroutine" := by simpa using hnm
            have n2 : ¬ fn.body = none := fun e => by rw [e] at hbd; cases hbd
            simp [execOp, ho, resolve, hc, e, Deferred.ofValue, invoke, callFunc, hfn, n1, n2]
          unfold Oper.wp
          rw [hrun]
          exact hC.mono fun e w' ⟨u, he, hK⟩ => by subst he; exact hK
        · have hrun : (execOp a.eval o).run P w = .ok (.value u) w' := by
            rw [← hC]
            simp [execOp, ho, resolve, hc, e, Deferred.ofValue, invoke]
          exact upV hrun hK
    | _ => exact h.elim
  | _ => exact h.elim
end
end Go.XM
