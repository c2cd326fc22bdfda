/- The abstract machine's operations are the model's: literals, append, calls. -/
import Derived.Test.YtanfllomeheiiaaGreatDoorXM8
import Derived.Great.BuildSlice
set_option linter.unusedVariables false
set_option linter.unusedSimpArgs false
namespace Go.XM
open RM Go.RowKit
section
variable {P : Program} {E : Env} {G : Ctx} {N : Nat} {μ : Mu} {I : Nat → Prop} {sl : Slots} {hp : Heap} {a : Act} {w : World} {K : Act → World → Prop} {Q : Exit → Act → World → Prop} {o : Oper} {d f : Nat}
/-! ### struct literals -/
theorem foldl_put : ∀ (l : List Value) (s off : Nat) (cs : Array Value), ((l.zipIdx s).foldl (fun cs (x : Value × Nat) => cs.setIfInBounds (off + x.2) x.1) cs).toList = putL cs.toList (off + s) l
  | [], _, _, _ => rfl
  | u :: l, s, off, cs => by
    rw [List.zipIdx_cons, List.foldl_cons, foldl_put l (s + 1) off, putL]
    simp [Nat.add_assoc]
theorem putL_len {β : Type} : ∀ (l : List β) (cs : List β) (o : Nat), (putL cs o l).length = cs.length
  | [], _, _ => rfl
  | x :: l, cs, o => by rw [putL, putL_len l]; simp
theorem zip_fill {place : Nat → Option (Nat × Nat)} : ∀ {is : List Nat} {cs : List AV} {ar : Array Value} {vs : List AV} {us : List Value} {R : List AV → Prop}, AV.reps μ w I hp cs ar.toList → AV.reps μ w I hp vs us →
    (fillL place cs (is.zip vs)).wp sl hp R → ∃ cs' ar', R cs' ∧ Instr.fill place ar (is.zip us) = some ar' ∧ AV.reps μ w I hp cs' ar'.toList ∧ ar'.size = ar.size
  | [], cs, ar, vs, us, R, h, _, hR => ⟨cs, ar, hR, rfl, h, rfl⟩
  | _ :: _, cs, ar, [], [], R, h, _, hR => ⟨cs, ar, hR, rfl, h, rfl⟩
  | _ :: _, _, _, [], _ :: _, _, _, h, _ => h.elim
  | _ :: _, _, _, _ :: _, [], _, _, h, _ => h.elim
  | i :: is, cs, ar, v :: vs, u :: us, R, h, hv, hR => by
    simp only [List.zip_cons_cons, fillL] at hR
    cases hp' : place i with
    | none => rw [hp'] at hR; exact hR.elim
    | some os =>
      obtain ⟨off, size⟩ := os
      rw [hp'] at hR
      simp only at hR
      split at hR
      · rename_i hb
        rw [Bool.and_eq_true, Bool.and_eq_true] at hb
        rw [spineK_eq] at hR
        have hsz := lenEq_eq hb.2.1
        have hin := lenLe_le hb.2.2
        obtain ⟨hcells, _⟩ := rep_cells hv.1 hb.1
        have hl : v.cells.length = u.cells.size := by rw [AV.reps_len hcells]; simp
        have hl2 : cs.length = ar.size := by rw [AV.reps_len h]; simp
        have e1 : u.cells.size = size := by omega
        have e2 : ¬ (ar.size < off + size) := by omega
        have hput : (u.cells.zipIdx.foldl (fun cs (x : Value × Nat) => cs.setIfInBounds (off + x.2) x.1) ar).toList = putL ar.toList off u.cells.toList := by
          rw [← Array.foldl_toList, Array.toList_zipIdx, foldl_put, Nat.add_zero]
        obtain ⟨cs', ar', hR', hf, hr⟩ := zip_fill (is := is) (place := place) (ar := u.cells.zipIdx.foldl (fun cs (x : Value × Nat) => cs.setIfInBounds (off + x.2) x.1) ar) (by rw [hput]; exact reps_put h hcells) hv.2 hR
        refine ⟨cs', ar', hR', ?_, hr.1, by rw [hr.2, ← Array.length_toList, hput, putL_len, Array.length_toList]⟩
        simp only [List.zip_cons_cons, Instr.fill, hp', e1]
        simpa [e2] using hf
      · exact hR.elim
theorem zip_parts (ps : Array (Nat × Operand)) : (ps.map fun (i, x) => (i, a.eval x)).toList = (ps.toList.map (·.1)).zip ((ps.toList.map (·.2)).map a.eval) := by
  rw [Array.toList_map]
  generalize ps.toList = l
  induction l with
  | nil => rfl
  | cons x l ih => simp only [List.map_cons, List.zip_cons_cons, ih]
theorem mapM_places {fs : List Field} {fo : List (Nat × Nat × Bool)} : fs.map (fieldD P) = fo.map some → fs.mapM (fun f => (P.info? f.type).map fun i => (f.offset, i.size)) = some (fo.map fun x => (x.1, x.2.1)) := by
  induction fs generalizing fo with
  | nil => intro h; cases fo with
    | nil => rfl
    | cons => simp at h
  | cons f fs ih =>
    intro h
    cases fo with
    | nil => simp at h
    | cons x fo =>
      simp only [List.map_cons, List.cons.injEq] at h
      have hx := h.1
      unfold fieldD at hx
      split at hx
      · rename_i i u hi hu
        injection hx with hx
        simp [List.mapM_cons, hi, ih h.2, ← hx]
      · cases hx
theorem op_build {t : Nat} {ps : Array (Nat × Operand)} (ho : o.op = .build t ps) (T : TyOk P E.tt) (S : Sim G N μ I sl hp a w) (h : (step E d f (.build t ps)).wp sl hp (Then G N sl a o.dst K hp)) : o.wp P a w K Q := by
  unfold step at h
  rw [wp_bind] at h
  obtain ⟨td, ht, h⟩ := ty_wp h
  obtain ⟨g⟩ := T.good ht
  have hkk := g.k
  rw [wp_bind] at h
  obtain ⟨vs, h, hvs⟩ := opds_wp (Q := fun _ => True) S.slots h
  have fin : ∀ {place : Nat → Option (Nat × Nat)}, (∀ ar', Instr.fill place g.z.cells (ps.map fun (i, x) => (i, a.eval x)).toList = some ar' → P.built t (ps.map fun (i, x) => (i, a.eval x)).toList = some ar') →
      ((fillL place (td.zero.map av) ((ps.toList.map (·.1)).zip vs)).bind fun cs => RM.pure (Eff.mk (.agg cs) [] [])).wp sl hp (Then G N sl a o.dst K hp) → o.wp P a w K Q := by
    intro place hb h
    rw [wp_bind] at h
    obtain ⟨cs', ar', h, hf, hr, _⟩ := zip_fill (ar := g.z.cells) (by rw [g.cells]; exact reps_atoms _) hvs h
    rw [← zip_parts] at hf
    have hrun := run_build w t _ ar' (hb ar' hf)
    refine upV (u := .agg ar') (w' := w) (by simp only [execOp, ho]; rw [Sem.run_bind, hrun]; rfl) (h μ I _ w S ?_)
    rw [AV.rep]
    exact ⟨_, rfl, hr⟩
  cases hk : td.k with
  | struct fo =>
    rw [hk] at h hkk
    obtain ⟨fs, hu, hf⟩ := hkk
    refine fin (fun ar' e => ?_) h
    have hund := g.und
    rw [hu] at hund
    simp only [Program.built, g.info, hund, g.zero, mapM_places hf]
    rw [← e]
    congr 1
    funext i
    simp
  | arr n e =>
    rw [hk] at h hkk
    have h : ((ty E e).bind _).wp sl hp (Then G N sl a o.dst K hp) := h
    rw [wp_bind] at h
    obtain ⟨te, hte, h⟩ := ty_wp h
    obtain ⟨ge⟩ := T.good hte
    refine fin (fun ar' e' => ?_) h
    have hund := g.und
    rw [hkk] at hund
    simp only [Program.built, g.info, hund, g.zero, ge.info, ge.size]
    exact e'
  | _ => rw [hk] at h; exact h.elim
/-- A new row, one's own or a value, behind an operation. -/
theorem newRow_ok {dst n k : Nat} {x : Bool} {c : Nat → Nat → D} {vs : Array Value} {t cap : Nat} {fz : Nat × Nat} {w' : World} (S : Sim G N μ I sl hp a w) (h : Then G N sl a o.dst K hp (newRow E dst f x n k c)) (hl : Like w w') (hh : w'.heap = w.heap.push (.cells vs t fz)) (hf : nofz vs fz)
    (hc : n ≤ cap) (hx : x = true → cap = n) (hsz : cap * k ≤ vs.size) (hr : ∀ i j, i < n → j < k → ∃ u, vs[i * k + j]? = some u ∧ u.oneCell' = true ∧ (c i j).rep w I u) :
    K (a.put o.dst (.slice (some ⟨w.heap.size, 0, none⟩) n cap)) w' := by
  have hget : w'.heap[w.heap.size]? = some (.cells vs t fz) := by rw [hh]; simp
  unfold newRow at h
  split at h
  · have H := S.heap.imm_new (.cells vs t fz) hl hh
    refine h _ _ _ _ (S.next H) ?_
    rw [AV.rep, D.rep]
    refine ⟨_, cap, rfl, hc, hx, fun _ => ⟨w.heap.size, 0, rfl, .inr rfl, fun i j hi hj => ?_⟩⟩
    obtain ⟨u, hu, h1, hur⟩ := hr i j hi hj
    exact ⟨u, by rw [Nat.zero_add, cell_of_row w' _ _ _ _ _ hget]; exact hu, h1, D.rep_mono H.2.same H.2.imm _ _ hur⟩
  · refine Then.new (z := vs.size) S h hl hh (fun X => .inr ⟨w.heap.size, _, vs, t, fz, upd_same _ _ _, hget, hf, rfl, Nat.le_trans (Nat.mul_le_mul_right _ hc) hsz, fun i j hi hj => ?_⟩) (fun X => ?_)
    · obtain ⟨u, hu, h1, hur⟩ := hr i j hi hj
      exact ⟨u, hu, h1, D.rep_mono X.same X.imm _ _ hur⟩
    · rw [AV.rep]
      refine ⟨_, cap, rfl, hc, _, by rw [get_cons, if_pos rfl], fun n' k' c' e => ?_⟩
      injection e with e1 e2 e3
      subst e1; subst e2
      exact ⟨by omega, .inr ⟨w.heap.size, _, upd_same _ _ _, fun _ => by rw [Nat.zero_mul], by rw [Nat.zero_add]; exact hsz⟩⟩
/-- A new row of any cells. -/
theorem newRowA_ok {n k cap : Nat} {cs : List AV} {vs : Array Value} {t : Nat} {fz : Nat × Nat} {w' : World} (S : Sim G N μ I sl hp a w) (h : Then G N sl a o.dst K hp (.mk (.ra f 0 n) [] [(f, .rowA n k cs)])) (hl : Like w w') (hh : w'.heap = w.heap.push (.cells vs t fz)) (hf : nofz vs fz)
    (hc : n ≤ cap) (hsz : cap * k ≤ vs.size) (hlen : cs.length = n * k) (hr : AV.reps μ w I hp cs (vs.toList.take (n * k))) (h1 : ∀ u ∈ vs.toList.take (n * k), u.oneCell' = true) :
    K (a.put o.dst (.slice (some ⟨w.heap.size, 0, none⟩) n cap)) w' := by
  have hget : w'.heap[w.heap.size]? = some (.cells vs t fz) := by rw [hh]; simp
  refine Then.new (z := vs.size) S h hl hh (fun X => ⟨hlen, .inr ⟨w.heap.size, _, vs, t, fz, upd_same _ _ _, hget, hf, rfl, Nat.le_trans (Nat.mul_le_mul_right _ hc) hsz, X.reps hr, h1⟩⟩) (fun X => ?_)
  rw [AV.rep]
  refine ⟨_, cap, rfl, hc, _, by rw [get_cons, if_pos rfl], fun n' k' c' e => ?_⟩
  injection e with e1 e2 e3
  subst e1; subst e2
  exact ⟨by omega, .inr ⟨w.heap.size, _, upd_same _ _ _, fun _ => by rw [Nat.zero_mul], by rw [Nat.zero_add]; exact hsz⟩⟩
theorem d_one {x : D} {v : Value} (h : x.ok = true) (hr : x.rep w I v) : v.oneCell' = true := by
  cases x with
  | a x => rw [D.rep] at hr; subst hr; exact one_of h
  | vs x n k c => rw [D.rep] at hr; obtain ⟨A, cap, e, _⟩ := hr; subst e; rfl
theorem op_buildSlice {t n : Nat} {ps : Array (Nat × Operand)} (ho : o.op = .buildSlice t n ps) (T : TyOk P E.tt) (S : Sim G N μ I sl hp a w) (h : (step E d f (.buildSlice t n ps)).wp sl hp (Then G N sl a o.dst K hp)) : o.wp P a w K Q := by
  unfold step at h
  rw [wp_bind] at h
  obtain ⟨td, e, ht, hel, h⟩ := elemS_wp h
  obtain ⟨g⟩ := T.good ht
  have hkk := g.k
  rw [wp_bind] at h
  obtain ⟨te, hte, h⟩ := ty_wp h
  obtain ⟨ge⟩ := T.good hte
  rw [wp_bind] at h
  obtain ⟨vs, h, hvs⟩ := opds_wp (Q := fun _ => True) S.slots h
  obtain ⟨hb, h⟩ := need_wp h
  rw [Bool.and_eq_true] at hb
  have hsm := Nat.le_of_ble_eq_true hb.1
  have hpos : 0 < te.size := by simpa [Nat.blt_eq] using hb.2
  rw [wp_bind] at h
  have hz : ((Array.range (n * te.size)).map (ge.z.cells[· % ge.z.cells.size]!)).toList = zeroL n te.zero := by
    have hzl : ge.z.cells.size = te.zero.length := by rw [← Array.length_toList, ge.cells]
    unfold zeroL
    rw [Array.toList_map, Array.toList_range, ge.len]
    apply List.map_congr_left
    intro j _
    have hlt : j % te.zero.length < te.zero.length := Nat.mod_lt _ (by rw [ge.len]; exact hpos)
    rw [hzl, ge.len] at *
    rw [List.getD_eq_getElem?_getD, ← ge.cells, getElem!_def, ← Array.getElem?_toList]
    rw [List.getElem?_eq_getElem (by rw [ge.cells, ge.len]; exact hlt)]
    rfl
  obtain ⟨cs', ar', h, hf, hr, hsz⟩ := zip_fill (ar := (Array.range (n * te.size)).map (ge.z.cells[· % ge.z.cells.size]!)) (by rw [hz]; exact reps_atoms _) hvs h
  rw [← zip_parts] at hf
  rw [hel] at hkk
  have hund : P.underlying t = some (.slice e) := by rw [g.und, hkk]
  have hsz2 : ar'.size = n * te.size := by rw [hsz]; simp
  have hrun : (execOp a.eval o).run P w = .ok (.value (.slice (some ⟨w.heap.size, 0, none⟩) n n)) (w.alloc (.cells ar' e)) := by
    have key : (Instr.buildSlice t n (ps.map fun (i, x) => (i, a.eval x))).run P w = .ok (.slice (some ⟨w.heap.size, 0, none⟩) n n) (w.alloc (.cells ar' e)) := by
      generalize (ps.map fun (i, x) => (i, a.eval x)) = parts at hf
      by_cases h0 : n * te.size = 0
      · have r0 : ∀ F : Nat → Value, (Array.range 0).map F = #[] := fun F => by apply Array.ext'; simp
        rw [h0, r0] at hf
        simp [Instr.buildSlice, run_und hund, ge.sizeOf, h0, r0, hf, Go.newRow]
      · exact run_buildSlice w t e n parts ar' ge.i ge.z hund ge.info ge.zero (by rw [ge.size]; omega) (by rw [ge.size]; exact h0) (by rw [ge.size]; exact hf)
    simp only [execOp, ho]
    rw [Sem.run_bind, key]
    rfl
  cases hcl : E.cl with
  | true =>
    rw [hcl] at h
    obtain ⟨ho, h⟩ := need_wp h
    have hl : cs'.length = n * te.size := by rw [AV.reps_len hr, Array.length_toList, hsz2]
    have ht : ar'.toList.take (n * te.size) = ar'.toList := List.take_of_length_le (by rw [Array.length_toList, hsz2]; exact Nat.le_refl _)
    refine upV hrun (newRowA_ok S h ⟨rfl, rfl, rfl⟩ rfl (nofz0 _) (Nat.le_refl _) (Nat.le_of_eq hsz2.symm) hl (by rw [ht]; exact hr) ?_)
    rw [ht]
    exact (rep_cells (v := .agg cs') (u := .agg ar') (by rw [AV.rep]; exact ⟨_, rfl, hr⟩) ho).2
  | false =>
  rw [hcl] at h
  have h : ((toDs cs').bind _).wp sl hp _ := h
  rw [wp_bind] at h
  obtain ⟨ds, ed, hok, h⟩ := toDs_wp h
  refine upV hrun (newRow_ok S h ⟨rfl, rfl, rfl⟩ rfl (nofz0 _) (Nat.le_refl _) (fun _ => rfl) (Nat.le_of_eq hsz2.symm) (fun i j hi hj => ?_))
  have hlt : i * te.size + j < ar'.size := by
    have : (i + 1) * te.size ≤ n * te.size := Nat.mul_le_mul_right _ hi
    rw [Nat.add_mul] at this; omega
  subst ed
  have hdl : ds.length = ar'.size := by have := AV.reps_len hr; simpa using this
  obtain ⟨u, hu, hur⟩ := reps_d hr (List.getElem?_eq_getElem (l := ds) (i := i * te.size + j) (by omega))
  refine ⟨u, by simpa using hu, d_one (hok _ (List.getElem_mem _)) hur, ?_⟩
  simp only [litC]
  rw [List.getD_eq_getElem?_getD, List.getElem?_eq_getElem (by omega)]
  exact hur
end
end Go.XM
