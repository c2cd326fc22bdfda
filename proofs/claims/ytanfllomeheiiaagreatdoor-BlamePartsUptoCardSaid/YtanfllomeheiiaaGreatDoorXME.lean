/- Regions that draw their order: the region. -/
import Derived.Test.YtanfllomeheiiaaGreatDoorXMD
set_option linter.unusedVariables false
set_option linter.unusedSimpArgs false
namespace Go.XM
open RM Go.RowKit
inductive TRun (E : Env) (ops : List Oper) : List Oper → Slots → Heap → List Rec → Slots → Heap → Prop
  | nil {s : Slots} {h : Heap} : TRun E ops [] s h [] s h
  | cons {o : Oper} {l : List Oper} {s sf : Slots} {h hf : Heap} {r : Rec} {rs : List Rec} {R : List Loc} {f : Nat} (hd : r.d = o.dst) (hlt : ∀ d, o.dst = some d → d < E.nt)
      (m : Runs s h (guarded ops o (step E (o.dst.getD 0) f o.op)) R (.mk r.v r.up r.nw)) (hR : ∀ l ∈ R, l ∈ r.rd) (hn : ∃ K, addNew r.nw (setOld r.up h) K) (rest : TRun E ops l (putS r s) (putH r h) rs sf hf) : TRun E ops (o :: l) s h (r :: rs) sf hf
section
variable {E : Env} {ops : List Oper}
theorem regDr_run {K : Slots → Heap → Prop} : ∀ {l : List Oper} {s : Slots} {h : Heap} {acc : List Rec}, regDr E ops l s h acc K → ∃ rs sf hf, TRun E ops l s h rs sf hf ∧ noInt ops 0 (acc.reverse ++ rs) = true ∧ edgesOk 0 ops = true ∧ K sf hf
  | [], s, h, acc, H => by
    unfold regDr at H
    have hb := H.l
    rw [Bool.and_eq_true] at hb
    exact ⟨[], s, h, .nil, by rw [List.append_nil]; exact hb.1, hb.2, H.r⟩
  | o :: l, s, h, acc, H => by
    unfold regDr at H
    cases hd : o.dst with
    | some d =>
      rw [hd] at H
      simp only at H
      split at H
      · exact H.elim
      · rename_i hlt
        obtain ⟨⟨v, up, nw⟩, R', hr, R2, h2, hq⟩ := wpL_runs H
        simp only [AV.go_eq, goH_eq, setK_eq] at hq
        have hq' := addNew_iff hq
        obtain ⟨rs, sf, hf, hT, hno, he, hK⟩ := regDr_run hq'
        refine ⟨⟨some d, v, up, nw, R2⟩ :: rs, sf, hf, .cons hd.symm (fun d' e => ?_) (R := R') (f := d) ?_ (fun l hl => (h2 l).2 (.inl hl)) ⟨_, hq⟩ hT, by rw [List.reverse_cons, List.append_assoc] at hno; exact hno, he, hK⟩
        · rw [hd] at e; injection e with e; subst e; simpa [Nat.blt_eq] using hlt
        · rw [hd]; exact hr
    | none =>
      rw [hd] at H
      obtain ⟨⟨v, up, nw⟩, R', hr, R2, h2, hq⟩ := wpL_runs H
      simp only [AV.go_eq, goH_eq, setK_eq] at hq
      have hq' := addNew_iff hq
      obtain ⟨rs, sf, hf, hT, hno, he, hK⟩ := regDr_run hq'
      refine ⟨⟨none, v, up, nw, R2⟩ :: rs, sf, hf, .cons hd.symm (fun d' e => by rw [hd] at e; cases e) (R := R') (f := 0) ?_ (fun l hl => (h2 l).2 (.inl hl)) ⟨_, hq⟩ hT, by rw [List.reverse_cons, List.append_assoc] at hno; exact hno, he, hK⟩
      rw [hd]; exact hr
theorem mg_none : ∀ (rs : List Rec) (s : Slots) (h : Heap), mgS (fun _ => false) rs s = s ∧ mgH (fun _ => false) rs h = h
  | [], _, _ => ⟨rfl, rfl⟩
  | r :: rs, s, h => by rw [mgS, mgH]; simp only [Bool.false_eq_true, if_false]; exact mg_none rs s h
def upto (i : Nat) : Nat → Bool := fun k => decide (k < i)
theorem upto_zero : upto 0 = fun _ => false := by funext k; simp [upto]
theorem upto_succ (i : Nat) : (fun k => upto (i + 1) (k + 1)) = upto i := by funext k; simp [upto]
theorem TRun.get {l : List Oper} {s sf : Slots} {h hf : Heap} {rs : List Rec} (T : TRun E ops l s h rs sf hf) :
    l.length = rs.length ∧ (sf = mgS (fun _ => true) rs s ∧ hf = mgH (fun _ => true) rs h) ∧ ∀ i o, l[i]? = some o → ∃ r R f, rs[i]? = some r ∧ r.d = o.dst ∧ (∀ d, o.dst = some d → d < E.nt) ∧
      Runs (mgS (upto i) rs s) (mgH (upto i) rs h) (guarded ops o (step E (o.dst.getD 0) f o.op)) R (.mk r.v r.up r.nw) ∧ (∀ l ∈ R, l ∈ r.rd) ∧ ∃ K, addNew r.nw (setOld r.up (mgH (upto i) rs h)) K := by
  induction T with
  | nil => exact ⟨rfl, ⟨rfl, rfl⟩, fun i o e => by simp at e⟩
  | cons hd hlt m hR hn rest ih =>
    rename_i o l s sf h hf r rs R f
    obtain ⟨h1, ⟨h2, h3⟩, h4⟩ := ih
    refine ⟨by simp [h1], ⟨by rw [mgS]; exact h2, by rw [mgH]; exact h3⟩, fun i o' e => ?_⟩
    cases i with
    | zero =>
      simp at e; subst e
      refine ⟨r, R, f, rfl, hd, hlt, ?_, hR, ?_⟩
      · rw [upto_zero, (mg_none _ _ h).1, (mg_none _ s _).2]; exact m
      · rw [upto_zero, (mg_none _ s _).2]; exact hn
    | succ i =>
      obtain ⟨r', R', f', e', hd', hlt', m', hR', hn'⟩ := h4 i o' (by simpa using e)
      refine ⟨r', R', f', by simpa using e', hd', hlt', ?_, hR', ?_⟩
      · rw [mgS, mgH, upto_succ]; exact m'
      · rw [mgH, upto_succ]; exact hn'
theorem apartF_apart {i j : Nat} {a b : Rec} (h : apartF ops i j a b = true) : apart ops i j a b = true := by
  unfold apartF at h
  unfold apart
  rw [Bool.or_eq_true]
  cases hm : (meets a.wr b.wr || meets a.rd b.wr || meets a.wr b.rd) with
  | false => right; rfl
  | true =>
    left
    rw [hm] at h
    simp only at h
    cases hd : dirB ops i j with
    | false => rw [hd] at h; exact h
    | true =>
      unfold dirB at hd
      cases ho : ops[j]? with
      | none => rw [ho] at hd; cases hd
      | some o =>
        rw [ho] at hd
        obtain ⟨n, hn⟩ : ∃ n, ops.length = n + 1 := ⟨ops.length - 1, by have := (List.getElem?_eq_some_iff.1 ho).1; omega⟩
        rw [hn, ordB, ho]
        simp only
        obtain ⟨e, he, hb⟩ := List.any_eq_true.1 hd
        rw [Bool.and_eq_true] at hb
        exact List.any_eq_true.2 ⟨e, he, by rw [hb.1, hb.2]; rfl⟩
theorem apartAll_get {i : Nat} {a : Rec} : ∀ {l : List Rec} {j0 j : Nat} {b : Rec}, apartAll ops i a j0 l = true → l[j]? = some b → apart ops i (j0 + j) a b = true
  | [], _, _, _, _, e => by simp at e
  | c :: l, j0, 0, b, h, e => by simp at e; subst e; unfold apartAll at h; rw [Bool.and_eq_true] at h; exact apartF_apart h.1
  | c :: l, j0, j + 1, b, h, e => by
    unfold apartAll at h
    rw [Bool.and_eq_true] at h
    have := apartAll_get (j := j) h.2 (by simpa using e)
    rw [show j0 + (j + 1) = j0 + 1 + j from by omega]; exact this
theorem noInt_get : ∀ {l : List Rec} {i0 i j : Nat} {a b : Rec}, noInt ops i0 l = true → i < j → l[i]? = some a → l[j]? = some b → apart ops (i0 + i) (i0 + j) a b = true
  | [], _, _, _, _, _, _, _, e, _ => by simp at e
  | c :: l, i0, 0, j, a, b, h, hij, e1, e2 => by
    simp at e1; subst e1
    unfold noInt at h
    rw [Bool.and_eq_true] at h
    obtain ⟨j', rfl⟩ : ∃ j', j = j' + 1 := ⟨j - 1, by omega⟩
    have := apartAll_get (j := j') h.1 (by simpa using e2)
    rw [show i0 + (j' + 1) = i0 + 1 + j' from by omega]; exact this
  | c :: l, i0, i + 1, j, a, b, h, hij, e1, e2 => by
    unfold noInt at h
    rw [Bool.and_eq_true] at h
    obtain ⟨j', rfl⟩ : ∃ j', j = j' + 1 := ⟨j - 1, by omega⟩
    have := noInt_get (i := i) (j := j') h.2 (by omega) (by simpa using e1) (by simpa using e2)
    rw [show i0 + (i + 1) = i0 + 1 + i from by omega, show i0 + (j' + 1) = i0 + 1 + j' from by omega]; exact this
theorem meets_false {a b : List Loc} (h : meets a b = false) : ∀ l ∈ a, l ∉ b := by
  intro l ha hb
  unfold meets at h
  rw [List.any_eq_false] at h
  have := h l ha
  exact this (List.any_eq_true.2 ⟨l, hb, Loc.eq_iff.2 rfl⟩)
/-- What is surely done ahead is done, where what is done is closed. -/
theorem ordB_closed {p : Nat → Bool} (hcl : ∀ j o, ops[j]? = some o → p j = true → ∀ e ∈ o.after.toList, Region.binds .any e = true → p e.on = true) : ∀ {n i j : Nat}, ordB ops n i j = true → (∀ o, ops[j]? = some o → ∀ e ∈ o.after.toList, Region.binds .any e = true → p e.on = true) → p i = true
  | 0, _, _, h, _ => by cases h
  | n + 1, i, j, h, hj => by
    unfold ordB at h
    cases ho : ops[j]? with
    | none => rw [ho] at h; cases h
    | some o =>
      rw [ho] at h
      simp only [List.any_eq_true, Bool.and_eq_true, Bool.or_eq_true] at h
      obtain ⟨e, he, hb, h⟩ := h
      have hpe := hj o ho e he hb
      rcases h with h | h
      · rw [← Nat.eq_of_beq_eq_true h]; exact hpe
      · exact ordB_closed hcl h (fun o' ho' => hcl e.on o' ho' hpe)
theorem edgesOk_get : ∀ {l : List Oper} {i0 i : Nat} {o : Oper}, edgesOk i0 l = true → l[i]? = some o → ∀ e ∈ o.after.toList, Region.binds .any e = true → e.on < i0 + i
  | [], _, _, _, _, e => by simp at e
  | c :: l, i0, 0, o, h, e => by
    simp at e; subst e
    unfold edgesOk at h
    rw [Bool.and_eq_true] at h
    intro e he hb
    have := List.all_eq_true.1 h.1 e he
    rw [hb] at this
    simpa [Nat.blt_eq] using this
  | c :: l, i0, i + 1, o, h, e => by
    unfold edgesOk at h
    rw [Bool.and_eq_true] at h
    intro e' he hb
    have := edgesOk_get (i := i) h.2 (by simpa using e) e' he hb
    omega
end
section
variable {P : Program} {E : Env} {G : Ctx} {N : Nat} {μ : Mu} {I : Nat → Prop} {sl : Slots} {hp : Heap} {a : Act} {w : World} {K : Act → World → Prop} {Q : Exit → Act → World → Prop}
theorem look_get {s s' : Slots} {h h' : Heap} (e : ∀ l, look s h l = look s' h' l) : (∀ n, get s n = get s' n) ∧ ∀ r, get h r = get h' r := by
  refine ⟨fun n => ?_, fun r => ?_⟩
  · have := e (.s n)
    simp only [look] at this
    cases e1 : get s n <;> cases e2 : get s' n <;> rw [e1, e2] at this <;> simp_all
  · have := e (.o r)
    simp only [look] at this
    cases e1 : get h r <;> cases e2 : get h' r <;> rw [e1, e2] at this <;> simp_all
/-- A state is what is looked up in it. -/
theorem Sim.congr {s s' : Slots} {h h' : Heap} (S : Sim G N μ I s h a w) (e : ∀ l, look s h l = look s' h' l) : Sim G N μ I s' h' a w := by
  obtain ⟨e1, e2⟩ := look_get e
  have hle : HeapLe h μ h' μ := ⟨fun r o ho => ⟨o, by rw [← e2]; exact ho, .inr ⟨.refl _, rfl⟩⟩⟩
  have lv : ∀ {r}, live h' r → live h r := fun {r} ⟨o, ho, hd⟩ => ⟨o, by rw [e2]; exact ho, hd⟩
  have X : Ext μ I h w μ I h' w := ⟨hle, fun _ h => h, fun _ _ => rfl⟩
  refine ⟨fun n v hv => ?_, ⟨fun r o ho => ?_, fun r r' b z z' h1 h2 => S.heap.inj r r' b z z' (lv h1) (lv h2), fun r b z h1 => S.heap.own r b z (lv h1), S.heap.imm, S.heap.base, S.heap.pin.le hle, S.heap.keep⟩, S.size, S.defers, fun x hx => (S.frames x hx).ext X⟩
  · obtain ⟨u, hu, hr⟩ := S.slots n v (by rw [e1]; exact hv)
    exact ⟨u, hu, X.rep hr⟩
  · exact AO.rep_mono hle (fun _ _ => rfl) (fun _ h => h) rfl (fun _ _ _ => rfl) (S.heap.objs r o (by rw [e2]; exact ho))
theorem Sim.drew (S : Sim G N μ I sl hp a w) : Sim G N μ I sl hp a w.drew := ⟨SlotsRep.ext (Ext.of_heap (μ := μ) (I := I) (hp := hp) (w := w) (w' := w.drew) rfl) S.slots, S.heap.same ⟨rfl, rfl, rfl⟩ rfl, S.size, S.defers, fun x hx => SlotsRep.ext (Ext.of_heap (μ := μ) (I := I) (hp := hp) (w := w) (w' := w.drew) rfl) (S.frames x hx)⟩
/-- A region that draws. -/
theorem drawT_sound (T : TyOk P E.tt) (F : FnsOk P E) (hm : P.follows .mixedOrders = true) {ops : Array Oper} {id : Nat} {rs : List Rec} {sf : Slots} {hf : Heap} (S : Sim G E.nt μ I sl hp a w) (hT : TRun E ops.toList ops.toList sl hp rs sf hf) (hno : noInt ops.toList 0 rs = true) (hed : edgesOk 0 ops.toList = true)
    (hQ : ∀ μ I a w, Sim G E.nt μ I sf hf a w → Q .normal a w) : (Code.region id ops true).wp P Q a w := by
  obtain ⟨hlen, ⟨hsf, hhf⟩, hget⟩ := hT.get
  -- what is listed
  have main : ∀ (fuel : Nat) (listed : Array Bool) (a : Act) (w : World), listed.size = ops.size → ((List.range ops.size).filter fun i => !listed.getD i true).length ≤ fuel →
      (∀ j o, ops.toList[j]? = some o → listed.getD j true = true → ∀ e ∈ o.after.toList, Region.binds .any e = true → listed.getD e.on false = true) →
      (∃ μ I s h, Sim G E.nt μ I s h a w ∧ ∀ l, look s h l = look (mgS (fun k => listed.getD k true) rs sl) (mgH (fun k => listed.getD k true) rs hp) l) → wpAny P .any ops Q fuel listed a w := by
    have gd : ∀ {listed : Array Bool} {k : Nat}, listed.size = ops.size → k < ops.size → listed.getD k true = listed.getD k false := fun {listed k} h1 h2 => by
      simp only [Array.getD_eq_getD_getElem?]
      rw [Array.getElem?_eq_getElem (by omega)]; rfl
    have rlen : rs.length = ops.size := by rw [← hlen]; simp
    have fin : ∀ {listed : Array Bool} {a : Act} {w : World}, (∀ i, i < ops.size → listed.getD i true = true) → (∃ μ I s h, Sim G E.nt μ I s h a w ∧ ∀ l, look s h l = look (mgS (fun k => listed.getD k true) rs sl) (mgH (fun k => listed.getD k true) rs hp) l) → Q .normal a w := by
      intro listed a w hall ⟨μ, I, s, h, S, hl⟩
      refine hQ μ I a w (S.congr fun l => ?_)
      rw [hl l, hsf, hhf]
      refine mg_look rs rfl fun k r hr _ => hall k ?_
      rw [← rlen]; exact (List.getElem?_eq_some_iff.1 hr).1
    have allOf : ∀ {listed : Array Bool}, listed.size = ops.size → Region.ready .any ops listed = [] → ∀ i, i < ops.size → listed.getD i true = true := by
      intro listed hsz hr i
      induction i using Nat.strongRecOn with
      | _ i ih =>
        intro hi
        cases hb : listed.getD i true with
        | true => rfl
        | false =>
          exfalso
          have : i ∈ Region.ready .any ops listed := by
            unfold Region.ready
            rw [List.mem_filter]
            refine ⟨List.mem_range.2 hi, ?_⟩
            rw [hb, Array.getElem?_eq_getElem hi]
            simp only [Bool.not_false, Bool.true_and, Option.map_some, Option.getD_some]
            rw [← Array.all_toList, List.all_eq_true]
            intro e he
            cases hbe : Region.binds .any e with
            | false => rfl
            | true =>
              have hlt := edgesOk_get (i := i) (o := ops[i]) hed (by simp [hi]) e he hbe
              rw [Nat.zero_add] at hlt
              have h2 : e.on < ops.size := by omega
              rw [← gd hsz h2, ih e.on hlt h2]; rfl
          rw [hr] at this; cases this
    have flt : ∀ (l : List Nat) (q q' : Nat → Bool) (i : Nat), i ∈ l → q i = true → q' i = false → (∀ k, q' k = true → q k = true) → (l.filter q').length + 1 ≤ (l.filter q).length := by
      intro l q q' i
      have le : ∀ l : List Nat, (∀ k, q' k = true → q k = true) → (l.filter q').length ≤ (l.filter q).length := by
        intro l hk
        induction l with
        | nil => exact Nat.le_refl _
        | cons x l ih =>
          rw [List.filter_cons, List.filter_cons]
          cases h1 : q' x with
          | true => rw [hk x h1]; simp; exact ih
          | false => cases q x <;> simp <;> omega
      induction l with
      | nil => intro h; cases h
      | cons x l ih =>
        intro hi hq hq' hk
        rw [List.filter_cons, List.filter_cons]
        rcases List.mem_cons.1 hi with rfl | hi
        · rw [hq, hq']; simp; exact le l hk
        · have := ih hi hq hq' hk
          cases h1 : q' x with
          | true => rw [hk x h1]; simp; omega
          | false => cases q x <;> simp <;> omega
    intro fuel
    induction fuel with
    | zero =>
      intro listed a w hsz hcnt hcl hS
      have hall : ∀ i, i < ops.size → listed.getD i true = true := fun i hi => by
        cases hb : listed.getD i true with
        | true => rfl
        | false =>
          have := flt (List.range ops.size) (fun i => !listed.getD i true) (fun _ => false) i (List.mem_range.2 hi) (by simp [hb]) rfl (fun k h => by cases h)
          omega
      refine ⟨?_, fin hall hS⟩
      unfold Region.ready
      rw [List.filter_eq_nil_iff]
      intro i hi
      rw [hall i (List.mem_range.1 hi)]; simp
    | succ fuel ih =>
      intro listed a w hsz hcnt hcl hS
      refine ⟨fun hr => fin (allOf hsz hr) hS, fun i hi => ?_⟩
      unfold Region.ready at hi
      rw [List.mem_filter, List.mem_range] at hi
      obtain ⟨hlt, hi⟩ := hi
      rw [Bool.and_eq_true, Array.getElem?_eq_getElem hlt] at hi
      simp only [Option.map_some, Option.getD_some, Bool.not_eq_true'] at hi
      obtain ⟨hun, hpre⟩ := hi
      rw [← Array.all_toList, List.all_eq_true] at hpre
      have hpre2 : ∀ e ∈ (ops[i]).after.toList, Region.binds .any e = true → listed.getD e.on false = true := fun e he hb => by
        have := hpre e he; rw [hb] at this; simpa using this
      have hoi : ops.toList[i]? = some ops[i] := by simp [hlt]
      obtain ⟨r, R', f', hri, hrd, hdlt, hruns, hRr, K0, hfresh⟩ := hget i ops[i] hoi
      obtain ⟨μ, I, s, h, S, hl⟩ := hS
      have hcl' : ∀ j o, ops.toList[j]? = some o → (fun k => listed.getD k false) j = true → ∀ e ∈ o.after.toList, Region.binds .any e = true → (fun k => listed.getD k false) e.on = true := fun j o ho hp' => by
        have hj : j < ops.size := by have := (List.getElem?_eq_some_iff.1 ho).1; simpa using this
        exact hcl j o ho (by rw [gd hsz hj]; exact hp')
      have hnoi : listed.getD i false = false := by rw [← gd hsz hlt]; exact hun
      -- what the operation sees is what the text sees
      have agree : ∀ l, (l ∈ r.rd ∨ l ∈ r.wr) → look s h l = look (mgS (upto i) rs sl) (mgH (upto i) rs hp) l := by
        intro l hlr
        rw [hl l]
        refine mg_look rs rfl fun k r' hr' hl' => ?_
        have hk : k < ops.size := by rw [← rlen]; exact (List.getElem?_eq_some_iff.1 hr').1
        rcases Nat.lt_trichotomy k i with hki | rfl | hki
        · have hap := noInt_get hno hki hr' hri
          rw [Nat.zero_add, Nat.zero_add] at hap
          unfold apart at hap
          rw [Bool.or_eq_true] at hap
          have hord : ordB ops.toList ops.toList.length k i = true := by
            rcases hap with hap | hap
            · exact hap
            · exfalso
              rw [Bool.not_eq_true', Bool.or_eq_false_iff, Bool.or_eq_false_iff] at hap
              rcases hlr with hlr | hlr
              · exact meets_false hap.2 l hl' hlr
              · exact meets_false hap.1.1 l hl' hlr
          have := ordB_closed hcl' hord (fun o ho => by rw [hoi] at ho; injection ho with ho; subst ho; exact hpre2)
          rw [gd hsz hk]
          show listed.getD k false = upto i k
          rw [this]; simp [upto, hki]
        · rw [hun]; simp [upto]
        · have hap := noInt_get hno hki hri hr'
          rw [Nat.zero_add, Nat.zero_add] at hap
          unfold apart at hap
          rw [Bool.or_eq_true] at hap
          have hord : ordB ops.toList ops.toList.length i k = true := by
            rcases hap with hap | hap
            · exact hap
            · exfalso
              rw [Bool.not_eq_true', Bool.or_eq_false_iff, Bool.or_eq_false_iff] at hap
              rcases hlr with hlr | hlr
              · exact meets_false hap.1.2 l hlr hl'
              · exact meets_false hap.1.1 l hlr hl'
          have : upto i k = false := by simp [upto]; omega
          rw [this]
          cases hlk : listed.getD k true with
          | false => rfl
          | true =>
            exfalso
            have hko : ops.toList[k]? = some ops[k] := by simp [hk]
            have := ordB_closed hcl' hord (fun o ho => by rw [hko] at ho; injection ho with ho; subst ho; exact hcl k _ hko hlk)
            rw [hnoi] at this
            cases this
      have hrun2 := hruns.agree (s' := s) (h' := h) fun l hlR => agree l (.inl (hRr l hlR))
      -- the heap's side: new names are new
      have hfr : ∀ q ∈ r.nw.map (fun x : Nat × AO => x.1), get (setOld r.up h) q = none := fun q hq => by
        rw [← addNew_fresh hfresh q hq]
        have := agree (.o q) (.inr (mem_wr.2 (.inr ⟨q, rfl, .inr hq⟩)))
        simp only [look] at this
        refine setOld_get2 (.inr ?_)
        cases e1 : get h q <;> cases e2 : get (mgH (upto i) rs hp) q <;> rw [e1, e2] at this <;> simp_all
      have hstep := guarded_sound (G := G) (N := E.nt) (Q := Q) (K := wpAny P .any ops Q fuel (listed.setIfInBounds i true)) (d := ops[i].dst.getD 0) (f := f') T F S (hrun2.wp (Q := Then G E.nt s a ops[i].dst (wpAny P .any ops Q fuel (listed.setIfInBounds i true)) h) ?_)
      · unfold wpOp
        rw [Array.getElem?_eq_getElem hlt]
        simp only
        split
        · rename_i hw; rw [if_pos hw] at hstep; exact .inl hstep
        · rename_i hw; rw [if_neg hw] at hstep; exact hstep
      · refine addNew_nodup hfresh hfr fun μ' I' u w' S' hv => ?_
        refine ih _ _ _ (by simp [hsz]) ?_ ?_ ?_
        · have := flt (List.range ops.size) (fun k => !listed.getD k true) (fun k => !(listed.setIfInBounds i true).getD k true) i (List.mem_range.2 hlt) (by simp only [hun]; rfl) (by simp [Array.getD_eq_getD_getElem?, Array.getElem?_setIfInBounds, hsz, hlt]) (fun k hk => by
            simp only [Array.getD_eq_getD_getElem?, Array.getElem?_setIfInBounds] at hk ⊢
            by_cases hik : i = k
            · subst hik
              rw [if_pos rfl, if_pos (by omega)] at hk
              cases hk
            · rw [if_neg hik] at hk; exact hk)
          omega
        · intro j o ho hlj e he hb
          have up : ∀ k, listed.getD k false = true → (listed.setIfInBounds i true).getD k false = true := fun k hk => by
            simp only [Array.getD_eq_getD_getElem?, Array.getElem?_setIfInBounds] at hk ⊢
            by_cases hik : i = k
            · subst hik; rw [if_pos rfl, if_pos (by omega)]; rfl
            · rw [if_neg hik]; exact hk
          by_cases hij : i = j
          · subst hij
            rw [hoi] at ho; injection ho with ho; subst ho
            exact up _ (hpre2 e he hb)
          · refine up _ (hcl j o ho ?_ e he hb)
            simp only [Array.getD_eq_getD_getElem?, Array.getElem?_setIfInBounds, if_neg hij] at hlj ⊢
            exact hlj
        · have hlook : ∀ l, look (putS r s) (putH r h) l = look (mgS (fun k => (listed.setIfInBounds i true).getD k true) rs sl) (mgH (fun k => (listed.setIfInBounds i true).getD k true) rs hp) l := fun l => by
            rw [mg_add rs (p := fun k => listed.getD k true) (p' := fun k => (listed.setIfInBounds i true).getD k true) hri hun (by simp [Array.getD_eq_getD_getElem?, Array.getElem?_setIfInBounds, hsz, hlt]) (fun k hne => by
              have hne' : ¬ i = k := fun e => hne e.symm
              simp only [Array.getD_eq_getD_getElem?, Array.getElem?_setIfInBounds, if_neg hne']) (fun k r' hik hr' hpk l hlr hlr' => ?_) l]
            · exact put_look (.inr (hl l))
            · have hk : k < ops.size := by rw [← rlen]; exact (List.getElem?_eq_some_iff.1 hr').1
              have hap := noInt_get hno hik hri hr'
              rw [Nat.zero_add, Nat.zero_add] at hap
              unfold apart at hap
              rw [Bool.or_eq_true] at hap
              rcases hap with hap | hap
              · have hko : ops.toList[k]? = some ops[k] := by simp [hk]
                have := ordB_closed hcl' hap (fun o ho => by rw [hko] at ho; injection ho with ho; subst ho; exact hcl k _ hko hpk)
                rw [hnoi] at this
                cases this
              · rw [Bool.not_eq_true', Bool.or_eq_false_iff, Bool.or_eq_false_iff] at hap
                exact meets_false hap.1.1 l hlr hlr'
          cases hd : ops[i].dst with
          | none =>
            refine ⟨μ', I', s, putNew r.nw (setOld r.up h), S', fun l => ?_⟩
            rw [← hlook l]
            have : putS r s = s := by unfold putS; rw [hrd, hd]
            rw [this]; rfl
          | some d =>
            refine ⟨μ', I', (d, r.v) :: s, putNew r.nw (setOld r.up h), S'.putSlot (hdlt d hd) hv, fun l => ?_⟩
            rw [← hlook l]
            have : putS r s = (d, r.v) :: s := by unfold putS; rw [hrd, hd]
            rw [this]; rfl
  refine wp_region_any hm (main ops.size _ a _ (by simp) (by have := List.length_filter_le (fun i => !(Array.replicate ops.size false).getD i true) (List.range ops.size); simpa using this) (fun j o ho hl => ?_) ⟨μ, I, sl, hp, S.drew, fun l => ?_⟩)
  · have hj : j < ops.size := by have := (List.getElem?_eq_some_iff.1 ho).1; simpa using this
    rw [Array.getD_eq_getD_getElem?, Array.getElem?_replicate, if_pos hj] at hl
    cases hl
  · have : ∀ k r, rs[k]? = some r → (fun k => (Array.replicate ops.size false).getD k true) k = (fun _ => false) k := fun k r hr => by
      have hk : k < ops.size := by
        have h1 := (List.getElem?_eq_some_iff.1 hr).1
        rw [← hlen] at h1
        simpa using h1
      simp only [Array.getD_eq_getD_getElem?, Array.getElem?_replicate, if_pos hk]; rfl
    have e := mg_look rs (p := fun k => (Array.replicate ops.size false).getD k true) (q := fun _ => false) (s := sl) (s' := sl) (h := hp) (h' := hp) (l := l) rfl (fun k r hr _ => this k r hr)
    rw [e, (mg_none rs sl hp).1, (mg_none rs sl hp).2]
theorem draw_sound (T : TyOk P E.tt) (F : FnsOk P E) (hm : P.follows .mixedOrders = true) {ops : Array Oper} {id : Nat} {R : Slots → Heap → Prop} (S : Sim G E.nt μ I sl hp a w) (h : regDr E ops.toList ops.toList sl hp [] R)
    (hQ : ∀ μ I sl hp a w, Sim G E.nt μ I sl hp a w → R sl hp → Q .normal a w) : (Code.region id ops true).wp P Q a w := by
  obtain ⟨rs, sf, hf, hT, hno, hed, hR⟩ := regDr_run h
  rw [List.reverse_nil, List.nil_append] at hno
  exact drawT_sound T F hm S hT hno hed fun μ I a w S => hQ μ I _ _ a w S hR
end
end Go.XM
