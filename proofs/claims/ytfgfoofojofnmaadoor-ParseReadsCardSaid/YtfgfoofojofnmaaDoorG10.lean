/- The abstract machine's code is the model's. -/
import Derived.LoopN
import Derived.Test.YtfgfoofojofnmaaDoorGVM11
set_option linter.unusedVariables false
set_option linter.unusedSimpArgs false
namespace Go.VM
open RM Go.RowKit
section
variable {P : Program} {E : Env} {G : Ctx} {N : Nat} {μ : Mu} {I : Nat → Prop} {sl : Slots} {hp : Heap} {a : Act} {w : World} {K : Act → World → Prop} {Q : Exit → Act → World → Prop} {o : Oper} {d f : Nat}
theorem step_sound (T : TyOk P E.tt) (F : FnsOk P E) (S : Sim G N μ I sl hp a w) (h : (step E d f o.op).wp sl hp (Then G N sl a o.dst K hp)) : o.wp P a w K Q := by
  cases ho : o.op with
  | move x => rw [ho] at h; exact op_move (.inl ho) S h
  | assign x => rw [ho] at h; exact op_move (.inr ho) S h
  | pick c x y => rw [ho] at h; exact op_pick ho S h
  | alloc t => rw [ho] at h; exact op_alloc ho T S h
  | box t x => rw [ho] at h; exact op_box ho S h
  | build t ps => rw [ho] at h; exact op_build ho T S h
  | buildSlice t n ps => rw [ho] at h; exact op_buildSlice ho T S h
  | load t x => rw [ho] at h; exact op_load ho T S h
  | store t x y => rw [ho] at h; exact op_store ho T S h
  | nilCheck x => rw [ho] at h; exact op_nilCheck ho S h
  | binOp b t x y t' => rw [ho] at h; exact op_binOp ho T S h
  | unOp b t x => rw [ho] at h; exact op_unOp ho S h
  | makeFunc g xs ys => rw [ho] at h; exact op_makeFunc ho S h
  | slice t x lo hi mx =>
    rw [ho] at h
    cases mx with
    | none => exact op_slice ho T S h
    | some m => exact h.elim
  | fieldAddr t x q => rw [ho] at h; exact op_fieldAddr ho T S h
  | field t x q => rw [ho] at h; exact op_field ho T S h
  | indexAddr t x y => rw [ho] at h; exact op_indexAddr ho T S h
  | index t x y => rw [ho] at h; exact op_index ho T S h
  | extract x q => rw [ho] at h; exact op_extract ho S h
  | call c =>
    rw [ho] at h
    cases hc : c.callee with
    | value x => exact op_fn ho hc F S h
    | builtin b =>
      cases b with
      | len => exact op_len ho hc T S h
      | append => exact op_append ho hc T S h
      | _ =>
        unfold step at h
        rw [wp_bind] at h
        obtain ⟨vs, h, hvs⟩ := opds_wp (Q := fun _ => True) S.slots h
        rw [hc] at h
        exact h.elim
    | invoke x n =>
      unfold step at h
      rw [wp_bind] at h
      obtain ⟨vs, h, hvs⟩ := opds_wp (Q := fun _ => True) S.slots h
      rw [hc] at h
      exact h.elim
  | _ => rw [ho] at h; exact h.elim
theorem addNew_mono {K1 K2 : Heap → Prop} (hk : ∀ h, K1 h → K2 h) : ∀ {nw hp : Heap}, addNew nw hp K1 → addNew nw hp K2
  | [], _, h => hk _ h
  | (r, o) :: l, hp, h => by
    simp only [addNew] at h ⊢
    cases e : get hp r with
    | none => rw [e] at h; exact addNew_mono hk h
    | some _ => rw [e] at h; exact h
theorem Sim.putSlot {v : AV} {u : Value} (S : Sim G N μ I sl hp a w) (hd : d < N) (hv : v.rep μ w I hp u) : Sim G N μ I ((d, v) :: sl) hp (a.put (some d) u) w :=
  ⟨S.slots.put S.size hd hv, S.heap, by simp only [Act.put, Array.size_setIfInBounds]; exact S.size, S.defers⟩
theorem guarded_sound (T : TyOk P E.tt) (F : FnsOk P E) {ops : Array Oper} (S : Sim G N μ I sl hp a w) (h : (guarded ops.toList o (step E d f o.op)).wp sl hp (Then G N sl a o.dst K hp)) :
    if Region.wanted o (yielded ops a.tmps) then o.wp P a w K Q else K (a.put o.dst undef) w := by
  unfold guarded at h
  cases hg : o.guard with
  | none =>
    rw [hg] at h
    have hw : Region.wanted o (yielded ops a.tmps) = true := by simp [Region.wanted, hg]
    rw [if_pos hw]
    exact step_sound T F S h
  | some jw =>
    obtain ⟨j, want⟩ := jw
    rw [hg] at h
    simp only at h
    cases hj : (ops.toList[j]?).bind (·.dst) with
    | none => rw [hj] at h; exact h.elim
    | some g =>
      rw [hj] at h
      obtain ⟨v, hv, h⟩ := slot_wp h
      obtain ⟨u, hu, hr⟩ := S.slots g v hv
      have hb : (∃ b, v = av (.bool b) ∧ Br (b == want) ((step E d f o.op).wp sl hp (Then G N sl a o.dst K hp)) (Then G N sl a o.dst K hp (.mk (av undef) [] []))) ∨ ∃ t, v = av (.tuple t) ∧ Then G N sl a o.dst K hp (.mk (av undef) [] []) := by
        cases v with
        | d x => cases x with
          | a x => cases x with
            | bool b => cases want with
              | true => exact .inl ⟨b, rfl, ⟨fun e => Br.t (show Br b _ _ from h) (by simpa using e), fun e => Br.f (show Br b _ _ from h) (by simpa using e)⟩⟩
              | false => exact .inl ⟨b, rfl, ⟨fun e => Br.f (show Br b _ _ from h) (by simpa using e), fun e => Br.t (show Br b _ _ from h) (by simpa using e)⟩⟩
            | tuple t => exact .inr ⟨t, rfl, h⟩
            | _ => exact h.elim
          | vs _ _ _ _ => exact h.elim
        | _ => exact h.elim
      rcases hb with ⟨b, rfl, hB⟩ | ⟨t, rfl, hB⟩
      case inr =>
        have hu' := rep_a hr
        subst hu'
        have hw : Region.wanted o (yielded ops a.tmps) = false := by
          have : (ops[j]?).bind (·.dst) = some g := by rw [← Array.getElem?_toList]; exact hj
          simp [Region.wanted, hg, yielded, this, hu]
        rw [hw, if_neg (by decide)]
        exact hB μ I undef w S undef_rep
      have hu' := rep_a hr
      subst hu'
      have hw : Region.wanted o (yielded ops a.tmps) = (b == want) := by
        have : (ops[j]?).bind (·.dst) = some g := by rw [← Array.getElem?_toList]; exact hj
        simp [Region.wanted, hg, yielded, this, hu]
      rw [hw]
      cases hbw : (b == want) with
      | true => rw [if_pos rfl]; exact step_sound T F S (hB.t hbw)
      | false => rw [if_neg (by simp)]; exact hB.f hbw μ I undef w S undef_rep
/-- The operations in the order of the text. -/
theorem reg_sound (T : TyOk P E.tt) (F : FnsOk P E) {ops : Array Oper} {R : Slots → Heap → Prop} (hQ : ∀ μ I sl hp a w, Sim G E.nt μ I sl hp a w → R sl hp → Q .normal a w) :
    ∀ (l : List Oper) {μ : Mu} {I : Nat → Prop} {sl : Slots} {hp : Heap} {a : Act} {w : World}, Sim G E.nt μ I sl hp a w → regWp E ops.toList l sl hp R → wpList P ops Q l a w
  | [], μ, I, sl, hp, a, w, S, h => wpList_nil (hQ μ I sl hp a w S h)
  | o :: l, μ, I, sl, hp, a, w, S, h => by
    unfold regWp at h
    refine wpList_step fun K hk => ?_
    cases hd : o.dst with
    | some d =>
      rw [hd] at h
      simp only at h
      split at h
      · exact h.elim
      · rename_i hlt
        have hlt : d < E.nt := by simpa [Nat.blt_eq] using hlt
        have := guarded_sound (K := K) (Q := Q) T F S (wp_mono (Q' := Then G E.nt sl a o.dst K hp) (fun e he => ?_) h)
        · rw [hd] at this; exact this
        · cases e with
          | mk v up nw =>
            simp only [AV.go_eq, goH_eq, setK_eq] at he
            exact addNew_mono (fun hp' hr μ' I' u w' S' hv => hk _ _ (reg_sound T F hQ l (by rw [hd]; exact S'.putSlot hlt hv) hr)) he
    | none =>
      rw [hd] at h
      have := guarded_sound (K := K) (Q := Q) T F S (wp_mono (Q' := Then G E.nt sl a o.dst K hp) (fun e he => ?_) h)
      · rw [hd] at this; exact this
      · cases e with
        | mk v up nw =>
          simp only [AV.go_eq, goH_eq, setK_eq] at he
          exact addNew_mono (fun hp' hr μ' I' u w' S' hv => hk _ _ (reg_sound T F hQ l (by rw [hd]; exact S') hr)) he
end
end Go.VM
namespace Go.VM
open RM Go.RowKit
theorem Loc.eq_iff {a b : Loc} : a.eq b = true ↔ a = b := by
  cases a <;> cases b <;> simp [Loc.eq]
/-- What is looked up. -/
def look (s : Slots) (h : Heap) : Loc → Option (AV ⊕ AO)
  | .s n => (get s n).map .inl
  | .o r => (get h r).map .inr
/-- A reading, step by step. -/
inductive Runs {α : Type} (s : Slots) (h : Heap) : RM α → List Loc → α → Prop
  | pure {a : α} : Runs s h (.pure a) [] a
  | slot {n : Nat} {k : AV → RM α} {v : AV} {R : List Loc} {a : α} (e : get s n = some v) (r : Runs s h (k v) R a) : Runs s h (.slot n k) (.s n :: R) a
  | obj {n : Nat} {k : AO → RM α} {v : AO} {R : List Loc} {a : α} (e : get h n = some v) (r : Runs s h (k v) R a) : Runs s h (.obj n k) (.o n :: R) a
  | chk {p : Prop} {k : RM α} {R : List Loc} {a : α} (e : p) (r : Runs s h k R a) : Runs s h (.chk p k) R a
  | brt {b : Bool} {t f : RM α} {R : List Loc} {a : α} (e : b = true) (r : Runs s h t R a) : Runs s h (.br b t f) R a
  | brf {b : Bool} {t f : RM α} {R : List Loc} {a : α} (e : b = false) (r : Runs s h f R a) : Runs s h (.br b t f) R a
  | ex {X : Type} {k : X → RM α} {R : List Loc} {a : α} (x : X) (r : Runs s h (k x) R a) : Runs s h (.ex k) R a
section
variable {α : Type} {s s' : Slots} {h h' : Heap}
theorem wpL_runs : ∀ {m : RM α} {R : List Loc} {Q : α → List Loc → Prop}, m.wpL s h R Q → ∃ a R', Runs s h m R' a ∧ ∃ R2, (∀ l, l ∈ R2 ↔ l ∈ R' ∨ l ∈ R) ∧ Q a R2 := by
  intro m
  induction m with
  | pure a => intro R Q hq; exact ⟨a, [], .pure, R, fun l => by simp, hq⟩
  | fail n => intro R Q hq; exact hq.elim
  | slot n k ih =>
    intro R Q hq
    simp only [RM.wpL] at hq
    cases e : get s n with
    | none => rw [e] at hq; exact hq.elim
    | some v =>
      rw [e] at hq
      obtain ⟨a, R', hr, R2, h2, hq⟩ := ih v hq
      exact ⟨a, _, .slot e hr, R2, fun l => by rw [h2, List.mem_cons, List.mem_cons]; exact ⟨fun h => h.elim (fun h => .inl (.inr h)) (fun h => h.elim (fun h => .inl (.inl h)) .inr), fun h => h.elim (fun h => h.elim (fun h => .inr (.inl h)) .inl) (fun h => .inr (.inr h))⟩, hq⟩
  | obj n k ih =>
    intro R Q hq
    simp only [RM.wpL] at hq
    cases e : get h n with
    | none => rw [e] at hq; exact hq.elim
    | some v =>
      rw [e] at hq
      obtain ⟨a, R', hr, R2, h2, hq⟩ := ih v hq
      exact ⟨a, _, .obj e hr, R2, fun l => by rw [h2, List.mem_cons, List.mem_cons]; exact ⟨fun h => h.elim (fun h => .inl (.inr h)) (fun h => h.elim (fun h => .inl (.inl h)) .inr), fun h => h.elim (fun h => h.elim (fun h => .inr (.inl h)) .inl) (fun h => .inr (.inr h))⟩, hq⟩
  | chk p k ih =>
    intro R Q hq
    obtain ⟨a, R', hr, R2, h2, hq'⟩ := ih hq.r
    exact ⟨a, R', .chk hq.l hr, R2, h2, hq'⟩
  | br b t e i1 i2 =>
    intro R Q hq
    cases hb : b with
    | true =>
      obtain ⟨a, R', hr, R2, h2, hq'⟩ := i1 (hq.t hb)
      exact ⟨a, R', .brt rfl hr, R2, h2, hq'⟩
    | false =>
      obtain ⟨a, R', hr, R2, h2, hq'⟩ := i2 (hq.f hb)
      exact ⟨a, R', .brf rfl hr, R2, h2, hq'⟩
  | ex k ih =>
    intro R Q hq
    obtain ⟨x, hq⟩ := hq
    obtain ⟨a, R', hr, R2, h2, hq⟩ := ih x hq
    exact ⟨a, R', .ex x hr, R2, h2, hq⟩
theorem Runs.agree {m : RM α} {R : List Loc} {a : α} (r : Runs s h m R a) (hl : ∀ l ∈ R, look s' h' l = look s h l) : Runs s' h' m R a := by
  induction r with
  | pure => exact .pure
  | slot e r ih =>
    have := hl _ (List.mem_cons_self ..)
    simp only [look, e] at this
    refine .slot ?_ (ih fun l h => hl l (List.mem_cons_of_mem _ h))
    cases e2 : get s' _ with
    | none => rw [e2] at this; cases this
    | some v => rw [e2] at this; simp at this; rw [this]
  | obj e r ih =>
    have := hl _ (List.mem_cons_self ..)
    simp only [look, e] at this
    refine .obj ?_ (ih fun l h => hl l (List.mem_cons_of_mem _ h))
    cases e2 : get h' _ with
    | none => rw [e2] at this; cases this
    | some v => rw [e2] at this; simp at this; rw [this]
  | chk e r ih => exact .chk e (ih hl)
  | brt e r ih => exact .brt e (ih hl)
  | brf e r ih => exact .brf e (ih hl)
  | ex x r ih => exact .ex x (ih hl)
theorem Runs.wp {m : RM α} {R : List Loc} {a : α} (r : Runs s h m R a) {Q : α → Prop} (hq : Q a) : m.wp s h Q := by
  induction r with
  | pure => exact hq
  | slot e r ih => simp only [RM.wp, e]; exact ih hq
  | obj e r ih => simp only [RM.wp, e]; exact ih hq
  | chk e r ih => exact ⟨e, ih hq⟩
  | brt e r ih => exact ⟨fun _ => ih hq, fun h => (by rw [e] at h; cases h)⟩
  | brf e r ih => exact ⟨fun h => (by rw [e] at h; cases h), fun _ => ih hq⟩
  | ex x r ih => exact ⟨x, ih hq⟩
end
/-! ### what some of the operations did -/
def putNew : Heap → Heap → Heap
  | [], h => h
  | x :: l, h => putNew l (x :: h)
theorem addNew_iff {K : Heap → Prop} : ∀ {nw h : Heap}, addNew nw h K → K (putNew nw h)
  | [], _, hk => hk
  | (r, o) :: l, h, hk => by
    simp only [addNew] at hk
    cases e : get h r with
    | none => rw [e] at hk; exact addNew_iff (nw := l) hk
    | some _ => rw [e] at hk; exact hk.elim
theorem addNew_fresh {K : Heap → Prop} : ∀ {nw h : Heap}, addNew nw h K → ∀ r ∈ nw.map (fun x : Nat × AO => x.1), get h r = none
  | [], _, _, r, hr => by simp at hr
  | (q, o) :: l, h, hk, r, hr => by
    simp only [addNew] at hk
    cases e : get h q with
    | some _ => rw [e] at hk; exact hk.elim
    | none =>
      rw [e] at hk
      rw [List.map_cons, List.mem_cons] at hr
      rcases hr with rfl | hr
      · exact e
      · have := addNew_fresh hk r hr
        rw [get_cons] at this
        by_cases hq : q = r
        · rw [if_pos hq] at this; cases this
        · rw [if_neg hq] at this; exact this
theorem addNew_nodup {K : Heap → Prop} : ∀ {nw h : Heap}, addNew nw h K → ∀ {h' : Heap} {K' : Heap → Prop}, (∀ r ∈ nw.map (fun x : Nat × AO => x.1), get h' r = none) → K' (putNew nw h') → addNew nw h' K'
  | [], _, _, _, _, _, hk => hk
  | (q, o) :: l, h, hk, h', K', hf, hk' => by
    simp only [addNew] at hk ⊢
    rw [hf q (by simp)]
    cases e : get h q with
    | some _ => rw [e] at hk; exact hk.elim
    | none =>
      rw [e] at hk
      refine addNew_nodup hk (fun r hr => ?_) hk'
      have h1 := addNew_fresh hk r hr
      rw [get_cons] at h1 ⊢
      by_cases hq : q = r
      · rw [if_pos hq] at h1; cases h1
      · rw [if_neg hq]; exact hf r (by rw [List.map_cons]; exact List.mem_cons_of_mem _ hr)
def putS (r : Rec) (s : Slots) : Slots := match r.d with
  | some d => (d, r.v) :: s
  | none => s
def putH (r : Rec) (h : Heap) : Heap := putNew r.nw (setOld r.up h)
def mgS (p : Nat → Bool) : List Rec → Slots → Slots
  | [], s => s
  | r :: l, s => mgS (fun k => p (k + 1)) l (if p 0 then putS r s else s)
def mgH (p : Nat → Bool) : List Rec → Heap → Heap
  | [], h => h
  | r :: l, h => mgH (fun k => p (k + 1)) l (if p 0 then putH r h else h)
theorem setOld_get : ∀ {up h : Heap} {r : Nat}, r ∉ up.map (fun x : Nat × AO => x.1) → get (setOld up h) r = get h r
  | [], _, _, _ => rfl
  | (q, o) :: l, h, r, hr => by
    rw [setOld, get_cons, if_neg (fun e => hr (by simp [e])), setOld_get (fun e => hr (by rw [List.map_cons]; exact List.mem_cons_of_mem _ e))]
theorem setOld_get2 : ∀ {up h h' : Heap} {r : Nat}, (r ∈ up.map (fun x : Nat × AO => x.1) ∨ get h r = get h' r) → get (setOld up h) r = get (setOld up h') r
  | [], _, _, _, hr => by rcases hr with hr | hr; simp at hr; exact hr
  | (q, o) :: l, h, h', r, hr => by
    rw [setOld, setOld, get_cons, get_cons]
    by_cases hq : q = r
    · rw [if_pos hq, if_pos hq]
    · rw [if_neg hq, if_neg hq]
      refine setOld_get2 ?_
      rcases hr with hr | hr
      · rw [List.map_cons, List.mem_cons] at hr
        rcases hr with hr | hr
        · exact absurd hr.symm hq
        · exact .inl hr
      · exact .inr hr
theorem putNew_get : ∀ {nw h : Heap} {r : Nat}, r ∉ nw.map (fun x : Nat × AO => x.1) → get (putNew nw h) r = get h r
  | [], _, _, _ => rfl
  | (q, o) :: l, h, r, hr => by
    rw [putNew, putNew_get (fun e => hr (by rw [List.map_cons]; exact List.mem_cons_of_mem _ e)), get_cons, if_neg (fun e => hr (by simp [e]))]
theorem putNew_get2 : ∀ {nw h h' : Heap} {r : Nat}, (r ∈ nw.map (fun x : Nat × AO => x.1) ∨ get h r = get h' r) → get (putNew nw h) r = get (putNew nw h') r
  | [], _, _, _, hr => by rcases hr with hr | hr; simp at hr; exact hr
  | (q, o) :: l, h, h', r, hr => by
    rw [putNew, putNew]
    refine putNew_get2 ?_
    rw [get_cons, get_cons]
    by_cases hq : q = r
    · right; rw [if_pos hq, if_pos hq]
    · rw [if_neg hq, if_neg hq]
      rcases hr with hr | hr
      · rw [List.map_cons, List.mem_cons] at hr
        rcases hr with hr | hr
        · exact absurd hr.symm hq
        · exact .inl hr
      · exact .inr hr
theorem mem_wr {r : Rec} {l : Loc} : l ∈ r.wr ↔ (∃ d, r.d = some d ∧ l = .s d) ∨ ∃ q, l = .o q ∧ (q ∈ r.up.map (fun x : Nat × AO => x.1) ∨ q ∈ r.nw.map (fun x : Nat × AO => x.1)) := by
  unfold Rec.wr
  simp only [List.mem_append, List.mem_map]
  constructor
  · rintro ((h | ⟨x, hx, rfl⟩) | ⟨x, hx, rfl⟩)
    · left
      cases hd : r.d with
      | none => rw [hd] at h; cases h
      | some d => rw [hd] at h; simp at h; exact ⟨d, rfl, h⟩
    · exact .inr ⟨x.1, rfl, .inl ⟨x, hx, rfl⟩⟩
    · exact .inr ⟨x.1, rfl, .inr ⟨x, hx, rfl⟩⟩
  · rintro (⟨d, hd, rfl⟩ | ⟨q, rfl, ⟨x, hx, rfl⟩ | ⟨x, hx, rfl⟩⟩)
    · left; left; rw [hd]; simp
    · left; right; exact ⟨x, hx, rfl⟩
    · right; exact ⟨x, hx, rfl⟩
theorem put_look {r : Rec} {s s' : Slots} {h h' : Heap} {l : Loc} (hl : l ∈ r.wr ∨ look s h l = look s' h' l) : look (putS r s) (putH r h) l = look (putS r s') (putH r h') l := by
  cases l with
  | s n =>
    simp only [look, putS]
    cases hd : r.d with
    | none =>
      rcases hl with hl | hl
      · rcases mem_wr.1 hl with ⟨d, h1, h2⟩ | ⟨q, h1, _⟩
        · rw [hd] at h1; cases h1
        · cases h1
      · simpa [look] using hl
    | some d =>
      simp only [get_cons]
      by_cases hn : d = n
      · rw [if_pos hn, if_pos hn]
      · rw [if_neg hn, if_neg hn]
        rcases hl with hl | hl
        · rcases mem_wr.1 hl with ⟨d', h1, h2⟩ | ⟨q, h1, _⟩
          · rw [hd] at h1; injection h1 with h1; injection h2 with h2; exact absurd (h1.trans h2.symm) hn
          · cases h1
        · simpa [look] using hl
  | o q =>
    simp only [look, putH]
    congr 1
    rcases hl with hl | hl
    · rcases mem_wr.1 hl with ⟨d', h1, h2⟩ | ⟨q', h1, h2⟩
      · cases h2
      · injection h1 with h1; subst h1
        rcases h2 with h2 | h2
        · exact putNew_get2 (.inr (setOld_get2 (.inl h2)))
        · exact putNew_get2 (.inl h2)
    · refine putNew_get2 (.inr (setOld_get2 (.inr ?_)))
      simp only [look] at hl
      cases e1 : get h q <;> cases e2 : get h' q <;> rw [e1, e2] at hl <;> simp_all
theorem put_look_not {r : Rec} {s : Slots} {h : Heap} {l : Loc} (hl : l ∉ r.wr) : look (putS r s) (putH r h) l = look s h l := by
  cases l with
  | s n =>
    simp only [look, putS]
    cases hd : r.d with
    | none => rfl
    | some d =>
      simp only [get_cons]
      rw [if_neg (fun e => hl (mem_wr.2 (.inl ⟨d, hd, by rw [e]⟩)))]
  | o q =>
    simp only [look, putH]
    rw [putNew_get (fun e => hl (mem_wr.2 (.inr ⟨q, rfl, .inr e⟩))), setOld_get (fun e => hl (mem_wr.2 (.inr ⟨q, rfl, .inl e⟩)))]
/-- Where those that write it agree. -/
theorem mg_look : ∀ (rs : List Rec) {p q : Nat → Bool} {s s' : Slots} {h h' : Heap} {l : Loc}, look s h l = look s' h' l → (∀ k r, rs[k]? = some r → l ∈ r.wr → p k = q k) → look (mgS p rs s) (mgH p rs h) l = look (mgS q rs s') (mgH q rs h') l
  | [], p, q, s, s', h, h', l, e, _ => e
  | r :: rs, p, q, s, s', h, h', l, e, hk => by
    rw [mgS, mgH, mgS, mgH]
    refine mg_look rs ?_ (fun k r' hr' hl => hk (k + 1) r' (by simpa using hr') hl)
    by_cases hl : l ∈ r.wr
    · rw [hk 0 r (by simp) hl]
      cases q 0 with
      | true => exact put_look (.inl hl)
      | false => exact e
    · have f : ∀ (b : Bool) (s : Slots) (h : Heap), look (if b then putS r s else s) (if b then putH r h else h) l = look s h l := fun b s h => by
        cases b with
        | true => exact put_look_not hl
        | false => rfl
      rw [f, f]; exact e
/-- One more. -/
theorem mg_add : ∀ (rs : List Rec) {p p' : Nat → Bool} {i : Nat} {r : Rec} {s : Slots} {h : Heap}, rs[i]? = some r → p i = false → p' i = true → (∀ k, k ≠ i → p' k = p k) → (∀ k r', i < k → rs[k]? = some r' → p k = true → ∀ l ∈ r.wr, l ∉ r'.wr) →
    ∀ l, look (mgS p' rs s) (mgH p' rs h) l = look (putS r (mgS p rs s)) (putH r (mgH p rs h)) l
  | [], _, _, _, _, _, _, e, _, _, _, _, _ => by simp at e
  | q :: rs, p, p', 0, r, s, h, e, h0, h1, hk, hd, l => by
    simp at e; subst e
    rw [mgS, mgH, mgS, mgH, h0, h1]
    have hpp : (fun k => p' (k + 1)) = (fun k => p (k + 1)) := by funext k; exact hk (k + 1) (by omega)
    rw [hpp]
    simp only [if_true, Bool.false_eq_true, if_false]
    by_cases hl : l ∈ q.wr
    · -- nobody behind writes it
      have a1 : look (mgS (fun k => p (k + 1)) rs (putS q s)) (mgH (fun k => p (k + 1)) rs (putH q h)) l = look (mgS (fun _ => false) rs (putS q s)) (mgH (fun _ => false) rs (putH q h)) l := mg_look rs rfl (fun k r' hr' hl' => by
        cases hp : p (k + 1) with
        | false => rfl
        | true => exact absurd hl' (hd (k + 1) r' (by omega) (by simpa using hr') hp l hl))
      have nobody : ∀ (rs : List Rec) (s : Slots) (h : Heap), mgS (fun _ => false) rs s = s ∧ mgH (fun _ => false) rs h = h := by
        intro rs
        induction rs with
        | nil => intro s h; exact ⟨rfl, rfl⟩
        | cons r rs ih => intro s h; rw [mgS, mgH]; simp only [Bool.false_eq_true, if_false]; exact ih s h
      rw [a1, (nobody rs (putS q s) (putH q h)).1, (nobody rs (putS q s) (putH q h)).2]
      exact put_look (.inl hl)
    · rw [put_look_not hl]
      exact mg_look rs (put_look_not hl) (fun _ _ _ _ => rfl)
  | q :: rs, p, p', i + 1, r, s, h, e, h0, h1, hk, hd, l => by
    rw [mgS, mgH, mgS, mgH, hk 0 (by omega)]
    exact mg_add rs (p := fun k => p (k + 1)) (p' := fun k => p' (k + 1)) (i := i) (by simpa using e) h0 h1 (fun k hne => hk (k + 1) (by omega)) (fun k r' hik hr' hp => hd (k + 1) r' (by omega) (by simpa using hr') hp) l
end Go.VM
namespace Go.VM
open RM Go.RowKit
inductive TRun (E : Env) (ops : List Oper) : List Oper → Slots → Heap → List Rec → Slots → Heap → Prop
  | nil {s : Slots} {h : Heap} : TRun E ops [] s h [] s h
  | cons {o : Oper} {l : List Oper} {s sf : Slots} {h hf : Heap} {r : Rec} {rs : List Rec} {R : List Loc} (hd : r.d = o.dst) (hlt : ∀ d, o.dst = some d → d < E.nt)
      (m : Runs s h (guarded ops o (step E (o.dst.getD 0) (o.dst.getD 0) o.op)) R (.mk r.v r.up r.nw)) (hR : ∀ l ∈ R, l ∈ r.rd) (hn : ∃ K, addNew r.nw (setOld r.up h) K) (rest : TRun E ops l (putS r s) (putH r h) rs sf hf) : TRun E ops (o :: l) s h (r :: rs) sf hf
section
variable {E : Env} {ops : List Oper}
theorem regDr_run {K : Slots → Heap → Prop} : ∀ {l : List Oper} {s : Slots} {h : Heap} {acc : List Rec}, regDr E ops l s h acc K → ∃ rs sf hf, TRun E ops l s h rs sf hf ∧ noInt ops 0 (acc.reverse ++ rs) = true ∧ edgesOk 0 ops = true ∧ K sf hf
  | [], s, h, acc, H => by
    unfold regDr at H
    have hb := H.l
    rw [Bool.and_eq_true] at hb
    exact ⟨[], s, h, .nil, by rw [List.append_nil]; exact hb.1, hb.2, H.r⟩
  | o :: l, s, h, acc, H => by
    unfold regDr at H
    cases hd : o.dst with
    | some d =>
      rw [hd] at H
      simp only at H
      split at H
      · exact H.elim
      · rename_i hlt
        obtain ⟨⟨v, up, nw⟩, R', hr, R2, h2, hq⟩ := wpL_runs H
        simp only [AV.go_eq, goH_eq, setK_eq] at hq
        have hq' := addNew_iff hq
        obtain ⟨rs, sf, hf, hT, hno, he, hK⟩ := regDr_run hq'
        refine ⟨⟨some d, v, up, nw, R2⟩ :: rs, sf, hf, .cons hd.symm (fun d' e => ?_) (R := R') ?_ (fun l hl => (h2 l).2 (.inl hl)) ⟨_, hq⟩ hT, by rw [List.reverse_cons, List.append_assoc] at hno; exact hno, he, hK⟩
        · rw [hd] at e; injection e with e; subst e; simpa [Nat.blt_eq] using hlt
        · rw [hd]; exact hr
    | none =>
      rw [hd] at H
      obtain ⟨⟨v, up, nw⟩, R', hr, R2, h2, hq⟩ := wpL_runs H
      simp only [AV.go_eq, goH_eq, setK_eq] at hq
      have hq' := addNew_iff hq
      obtain ⟨rs, sf, hf, hT, hno, he, hK⟩ := regDr_run hq'
      refine ⟨⟨none, v, up, nw, R2⟩ :: rs, sf, hf, .cons hd.symm (fun d' e => by rw [hd] at e; cases e) (R := R') ?_ (fun l hl => (h2 l).2 (.inl hl)) ⟨_, hq⟩ hT, by rw [List.reverse_cons, List.append_assoc] at hno; exact hno, he, hK⟩
      rw [hd]; exact hr
theorem mg_none : ∀ (rs : List Rec) (s : Slots) (h : Heap), mgS (fun _ => false) rs s = s ∧ mgH (fun _ => false) rs h = h
  | [], _, _ => ⟨rfl, rfl⟩
  | r :: rs, s, h => by rw [mgS, mgH]; simp only [Bool.false_eq_true, if_false]; exact mg_none rs s h
def upto (i : Nat) : Nat → Bool := fun k => decide (k < i)
theorem upto_zero : upto 0 = fun _ => false := by funext k; simp [upto]
theorem upto_succ (i : Nat) : (fun k => upto (i + 1) (k + 1)) = upto i := by funext k; simp [upto]
theorem TRun.get {l : List Oper} {s sf : Slots} {h hf : Heap} {rs : List Rec} (T : TRun E ops l s h rs sf hf) :
    l.length = rs.length ∧ (sf = mgS (fun _ => true) rs s ∧ hf = mgH (fun _ => true) rs h) ∧ ∀ i o, l[i]? = some o → ∃ r R, rs[i]? = some r ∧ r.d = o.dst ∧ (∀ d, o.dst = some d → d < E.nt) ∧
      Runs (mgS (upto i) rs s) (mgH (upto i) rs h) (guarded ops o (step E (o.dst.getD 0) (o.dst.getD 0) o.op)) R (.mk r.v r.up r.nw) ∧ (∀ l ∈ R, l ∈ r.rd) ∧ ∃ K, addNew r.nw (setOld r.up (mgH (upto i) rs h)) K := by
  induction T with
  | nil => exact ⟨rfl, ⟨rfl, rfl⟩, fun i o e => by simp at e⟩
  | cons hd hlt m hR hn rest ih =>
    rename_i o l s sf h hf r rs R
    obtain ⟨h1, ⟨h2, h3⟩, h4⟩ := ih
    refine ⟨by simp [h1], ⟨by rw [mgS]; exact h2, by rw [mgH]; exact h3⟩, fun i o' e => ?_⟩
    cases i with
    | zero =>
      simp at e; subst e
      refine ⟨r, R, rfl, hd, hlt, ?_, hR, ?_⟩
      · rw [upto_zero, (mg_none _ _ h).1, (mg_none _ s _).2]; exact m
      · rw [upto_zero, (mg_none _ s _).2]; exact hn
    | succ i =>
      obtain ⟨r', R', e', hd', hlt', m', hR', hn'⟩ := h4 i o' (by simpa using e)
      refine ⟨r', R', by simpa using e', hd', hlt', ?_, hR', ?_⟩
      · rw [mgS, mgH, upto_succ]; exact m'
      · rw [mgH, upto_succ]; exact hn'
theorem apartF_apart {i j : Nat} {a b : Rec} (h : apartF ops i j a b = true) : apart ops i j a b = true := by
  unfold apartF at h
  unfold apart
  rw [Bool.or_eq_true]
  cases hm : (meets a.wr b.wr || meets a.rd b.wr || meets a.wr b.rd) with
  | false => right; rfl
  | true =>
    left
    rw [hm] at h
    simp only at h
    cases hd : dirB ops i j with
    | false => rw [hd] at h; exact h
    | true =>
      unfold dirB at hd
      cases ho : ops[j]? with
      | none => rw [ho] at hd; cases hd
      | some o =>
        rw [ho] at hd
        obtain ⟨n, hn⟩ : ∃ n, ops.length = n + 1 := ⟨ops.length - 1, by have := (List.getElem?_eq_some_iff.1 ho).1; omega⟩
        rw [hn, ordB, ho]
        simp only
        obtain ⟨e, he, hb⟩ := List.any_eq_true.1 hd
        rw [Bool.and_eq_true] at hb
        exact List.any_eq_true.2 ⟨e, he, by rw [hb.1, hb.2]; rfl⟩
theorem apartAll_get {i : Nat} {a : Rec} : ∀ {l : List Rec} {j0 j : Nat} {b : Rec}, apartAll ops i a j0 l = true → l[j]? = some b → apart ops i (j0 + j) a b = true
  | [], _, _, _, _, e => by simp at e
  | c :: l, j0, 0, b, h, e => by simp at e; subst e; unfold apartAll at h; rw [Bool.and_eq_true] at h; exact apartF_apart h.1
  | c :: l, j0, j + 1, b, h, e => by
    unfold apartAll at h
    rw [Bool.and_eq_true] at h
    have := apartAll_get (j := j) h.2 (by simpa using e)
    rw [show j0 + (j + 1) = j0 + 1 + j from by omega]; exact this
theorem noInt_get : ∀ {l : List Rec} {i0 i j : Nat} {a b : Rec}, noInt ops i0 l = true → i < j → l[i]? = some a → l[j]? = some b → apart ops (i0 + i) (i0 + j) a b = true
  | [], _, _, _, _, _, _, _, e, _ => by simp at e
  | c :: l, i0, 0, j, a, b, h, hij, e1, e2 => by
    simp at e1; subst e1
    unfold noInt at h
    rw [Bool.and_eq_true] at h
    obtain ⟨j', rfl⟩ : ∃ j', j = j' + 1 := ⟨j - 1, by omega⟩
    have := apartAll_get (j := j') h.1 (by simpa using e2)
    rw [show i0 + (j' + 1) = i0 + 1 + j' from by omega]; exact this
  | c :: l, i0, i + 1, j, a, b, h, hij, e1, e2 => by
    unfold noInt at h
    rw [Bool.and_eq_true] at h
    obtain ⟨j', rfl⟩ : ∃ j', j = j' + 1 := ⟨j - 1, by omega⟩
    have := noInt_get (i := i) (j := j') h.2 (by omega) (by simpa using e1) (by simpa using e2)
    rw [show i0 + (i + 1) = i0 + 1 + i from by omega, show i0 + (j' + 1) = i0 + 1 + j' from by omega]; exact this
theorem meets_false {a b : List Loc} (h : meets a b = false) : ∀ l ∈ a, l ∉ b := by
  intro l ha hb
  unfold meets at h
  rw [List.any_eq_false] at h
  have := h l ha
  exact this (List.any_eq_true.2 ⟨l, hb, Loc.eq_iff.2 rfl⟩)
/-- What is surely done ahead is done, where what is done is closed. -/
theorem ordB_closed {p : Nat → Bool} (hcl : ∀ j o, ops[j]? = some o → p j = true → ∀ e ∈ o.after.toList, Region.binds .any e = true → p e.on = true) : ∀ {n i j : Nat}, ordB ops n i j = true → (∀ o, ops[j]? = some o → ∀ e ∈ o.after.toList, Region.binds .any e = true → p e.on = true) → p i = true
  | 0, _, _, h, _ => by cases h
  | n + 1, i, j, h, hj => by
    unfold ordB at h
    cases ho : ops[j]? with
    | none => rw [ho] at h; cases h
    | some o =>
      rw [ho] at h
      simp only [List.any_eq_true, Bool.and_eq_true, Bool.or_eq_true] at h
      obtain ⟨e, he, hb, h⟩ := h
      have hpe := hj o ho e he hb
      rcases h with h | h
      · rw [← Nat.eq_of_beq_eq_true h]; exact hpe
      · exact ordB_closed hcl h (fun o' ho' => hcl e.on o' ho' hpe)
theorem edgesOk_get : ∀ {l : List Oper} {i0 i : Nat} {o : Oper}, edgesOk i0 l = true → l[i]? = some o → ∀ e ∈ o.after.toList, Region.binds .any e = true → e.on < i0 + i
  | [], _, _, _, _, e => by simp at e
  | c :: l, i0, 0, o, h, e => by
    simp at e; subst e
    unfold edgesOk at h
    rw [Bool.and_eq_true] at h
    intro e he hb
    have := List.all_eq_true.1 h.1 e he
    rw [hb] at this
    simpa [Nat.blt_eq] using this
  | c :: l, i0, i + 1, o, h, e => by
    unfold edgesOk at h
    rw [Bool.and_eq_true] at h
    intro e' he hb
    have := edgesOk_get (i := i) h.2 (by simpa using e) e' he hb
    omega
end
section
variable {P : Program} {E : Env} {G : Ctx} {N : Nat} {μ : Mu} {I : Nat → Prop} {sl : Slots} {hp : Heap} {a : Act} {w : World} {K : Act → World → Prop} {Q : Exit → Act → World → Prop}
theorem look_get {s s' : Slots} {h h' : Heap} (e : ∀ l, look s h l = look s' h' l) : (∀ n, get s n = get s' n) ∧ ∀ r, get h r = get h' r := by
  refine ⟨fun n => ?_, fun r => ?_⟩
  · have := e (.s n)
    simp only [look] at this
    cases e1 : get s n <;> cases e2 : get s' n <;> rw [e1, e2] at this <;> simp_all
  · have := e (.o r)
    simp only [look] at this
    cases e1 : get h r <;> cases e2 : get h' r <;> rw [e1, e2] at this <;> simp_all
/-- A state is what is looked up in it. -/
theorem Sim.congr {s s' : Slots} {h h' : Heap} (S : Sim G N μ I s h a w) (e : ∀ l, look s h l = look s' h' l) : Sim G N μ I s' h' a w := by
  obtain ⟨e1, e2⟩ := look_get e
  have hle : HeapLe h μ h' μ := ⟨fun r o ho => ⟨o, by rw [← e2]; exact ho, .inr ⟨.refl _, rfl⟩⟩⟩
  have lv : ∀ {r}, live h' r → live h r := fun {r} ⟨o, ho, hd⟩ => ⟨o, by rw [e2]; exact ho, hd⟩
  have X : Ext μ I h w μ I h' w := ⟨hle, fun _ h => h, fun _ _ => rfl⟩
  refine ⟨fun n v hv => ?_, ⟨fun r o ho => ?_, fun r r' b z z' h1 h2 => S.heap.inj r r' b z z' (lv h1) (lv h2), fun r b z h1 => S.heap.own r b z (lv h1), S.heap.imm, S.heap.base, S.heap.pin.le hle, S.heap.keep⟩, S.size, S.defers⟩
  · obtain ⟨u, hu, hr⟩ := S.slots n v (by rw [e1]; exact hv)
    exact ⟨u, hu, X.rep hr⟩
  · exact AO.rep_mono hle (fun _ _ => rfl) (fun _ h => h) rfl (fun _ _ _ => rfl) (S.heap.objs r o (by rw [e2]; exact ho))
theorem Sim.drew (S : Sim G N μ I sl hp a w) : Sim G N μ I sl hp a w.drew := ⟨SlotsRep.ext (Ext.of_heap (μ := μ) (I := I) (hp := hp) (w := w) (w' := w.drew) rfl) S.slots, S.heap.same ⟨rfl, rfl, rfl⟩ rfl, S.size, S.defers⟩
/-- A region that draws. -/
theorem draw_sound (T : TyOk P E.tt) (F : FnsOk P E) (hm : P.follows .mixedOrders = true) {ops : Array Oper} {id : Nat} {R : Slots → Heap → Prop} (S : Sim G E.nt μ I sl hp a w) (h : regDr E ops.toList ops.toList sl hp [] R)
    (hQ : ∀ μ I sl hp a w, Sim G E.nt μ I sl hp a w → R sl hp → Q .normal a w) : (Code.region id ops true).wp P Q a w := by
  obtain ⟨rs, sf, hf, hT, hno, hed, hR⟩ := regDr_run h
  rw [List.reverse_nil, List.nil_append] at hno
  obtain ⟨hlen, ⟨hsf, hhf⟩, hget⟩ := hT.get
  -- what is listed
  have main : ∀ (fuel : Nat) (listed : Array Bool) (a : Act) (w : World), listed.size = ops.size → ((List.range ops.size).filter fun i => !listed.getD i true).length ≤ fuel →
      (∀ j o, ops.toList[j]? = some o → listed.getD j true = true → ∀ e ∈ o.after.toList, Region.binds .any e = true → listed.getD e.on false = true) →
      (∃ μ I s h, Sim G E.nt μ I s h a w ∧ ∀ l, look s h l = look (mgS (fun k => listed.getD k true) rs sl) (mgH (fun k => listed.getD k true) rs hp) l) → wpAny P .any ops Q fuel listed a w := by
    have gd : ∀ {listed : Array Bool} {k : Nat}, listed.size = ops.size → k < ops.size → listed.getD k true = listed.getD k false := fun {listed k} h1 h2 => by
      simp only [Array.getD_eq_getD_getElem?]
      rw [Array.getElem?_eq_getElem (by omega)]; rfl
    have rlen : rs.length = ops.size := by rw [← hlen]; simp
    have fin : ∀ {listed : Array Bool} {a : Act} {w : World}, (∀ i, i < ops.size → listed.getD i true = true) → (∃ μ I s h, Sim G E.nt μ I s h a w ∧ ∀ l, look s h l = look (mgS (fun k => listed.getD k true) rs sl) (mgH (fun k => listed.getD k true) rs hp) l) → Q .normal a w := by
      intro listed a w hall ⟨μ, I, s, h, S, hl⟩
      refine hQ μ I sf hf a w (S.congr fun l => ?_) hR
      rw [hl l, hsf, hhf]
      refine mg_look rs rfl fun k r hr _ => hall k ?_
      rw [← rlen]; exact (List.getElem?_eq_some_iff.1 hr).1
    have allOf : ∀ {listed : Array Bool}, listed.size = ops.size → Region.ready .any ops listed = [] → ∀ i, i < ops.size → listed.getD i true = true := by
      intro listed hsz hr i
      induction i using Nat.strongRecOn with
      | _ i ih =>
        intro hi
        cases hb : listed.getD i true with
        | true => rfl
        | false =>
          exfalso
          have : i ∈ Region.ready .any ops listed := by
            unfold Region.ready
            rw [List.mem_filter]
            refine ⟨List.mem_range.2 hi, ?_⟩
            rw [hb, Array.getElem?_eq_getElem hi]
            simp only [Bool.not_false, Bool.true_and, Option.map_some, Option.getD_some]
            rw [← Array.all_toList, List.all_eq_true]
            intro e he
            cases hbe : Region.binds .any e with
            | false => rfl
            | true =>
              have hlt := edgesOk_get (i := i) (o := ops[i]) hed (by simp [hi]) e he hbe
              rw [Nat.zero_add] at hlt
              have h2 : e.on < ops.size := by omega
              rw [← gd hsz h2, ih e.on hlt h2]; rfl
          rw [hr] at this; cases this
    have flt : ∀ (l : List Nat) (q q' : Nat → Bool) (i : Nat), i ∈ l → q i = true → q' i = false → (∀ k, q' k = true → q k = true) → (l.filter q').length + 1 ≤ (l.filter q).length := by
      intro l q q' i
      have le : ∀ l : List Nat, (∀ k, q' k = true → q k = true) → (l.filter q').length ≤ (l.filter q).length := by
        intro l hk
        induction l with
        | nil => exact Nat.le_refl _
        | cons x l ih =>
          rw [List.filter_cons, List.filter_cons]
          cases h1 : q' x with
          | true => rw [hk x h1]; simp; exact ih
          | false => cases q x <;> simp <;> omega
      induction l with
      | nil => intro h; cases h
      | cons x l ih =>
        intro hi hq hq' hk
        rw [List.filter_cons, List.filter_cons]
        rcases List.mem_cons.1 hi with rfl | hi
        · rw [hq, hq']; simp; exact le l hk
        · have := ih hi hq hq' hk
          cases h1 : q' x with
          | true => rw [hk x h1]; simp; omega
          | false => cases q x <;> simp <;> omega
    intro fuel
    induction fuel with
    | zero =>
      intro listed a w hsz hcnt hcl hS
      have hall : ∀ i, i < ops.size → listed.getD i true = true := fun i hi => by
        cases hb : listed.getD i true with
        | true => rfl
        | false =>
          have := flt (List.range ops.size) (fun i => !listed.getD i true) (fun _ => false) i (List.mem_range.2 hi) (by simp [hb]) rfl (fun k h => by cases h)
          omega
      refine ⟨?_, fin hall hS⟩
      unfold Region.ready
      rw [List.filter_eq_nil_iff]
      intro i hi
      rw [hall i (List.mem_range.1 hi)]; simp
    | succ fuel ih =>
      intro listed a w hsz hcnt hcl hS
      refine ⟨fun hr => fin (allOf hsz hr) hS, fun i hi => ?_⟩
      unfold Region.ready at hi
      rw [List.mem_filter, List.mem_range] at hi
      obtain ⟨hlt, hi⟩ := hi
      rw [Bool.and_eq_true, Array.getElem?_eq_getElem hlt] at hi
      simp only [Option.map_some, Option.getD_some, Bool.not_eq_true'] at hi
      obtain ⟨hun, hpre⟩ := hi
      rw [← Array.all_toList, List.all_eq_true] at hpre
      have hpre2 : ∀ e ∈ (ops[i]).after.toList, Region.binds .any e = true → listed.getD e.on false = true := fun e he hb => by
        have := hpre e he; rw [hb] at this; simpa using this
      have hoi : ops.toList[i]? = some ops[i] := by simp [hlt]
      obtain ⟨r, R', hri, hrd, hdlt, hruns, hRr, K0, hfresh⟩ := hget i ops[i] hoi
      obtain ⟨μ, I, s, h, S, hl⟩ := hS
      have hcl' : ∀ j o, ops.toList[j]? = some o → (fun k => listed.getD k false) j = true → ∀ e ∈ o.after.toList, Region.binds .any e = true → (fun k => listed.getD k false) e.on = true := fun j o ho hp' => by
        have hj : j < ops.size := by have := (List.getElem?_eq_some_iff.1 ho).1; simpa using this
        exact hcl j o ho (by rw [gd hsz hj]; exact hp')
      have hnoi : listed.getD i false = false := by rw [← gd hsz hlt]; exact hun
      -- what the operation sees is what the text sees
      have agree : ∀ l, (l ∈ r.rd ∨ l ∈ r.wr) → look s h l = look (mgS (upto i) rs sl) (mgH (upto i) rs hp) l := by
        intro l hlr
        rw [hl l]
        refine mg_look rs rfl fun k r' hr' hl' => ?_
        have hk : k < ops.size := by rw [← rlen]; exact (List.getElem?_eq_some_iff.1 hr').1
        rcases Nat.lt_trichotomy k i with hki | rfl | hki
        · have hap := noInt_get hno hki hr' hri
          rw [Nat.zero_add, Nat.zero_add] at hap
          unfold apart at hap
          rw [Bool.or_eq_true] at hap
          have hord : ordB ops.toList ops.toList.length k i = true := by
            rcases hap with hap | hap
            · exact hap
            · exfalso
              rw [Bool.not_eq_true', Bool.or_eq_false_iff, Bool.or_eq_false_iff] at hap
              rcases hlr with hlr | hlr
              · exact meets_false hap.2 l hl' hlr
              · exact meets_false hap.1.1 l hl' hlr
          have := ordB_closed hcl' hord (fun o ho => by rw [hoi] at ho; injection ho with ho; subst ho; exact hpre2)
          rw [gd hsz hk]
          show listed.getD k false = upto i k
          rw [this]; simp [upto, hki]
        · rw [hun]; simp [upto]
        · have hap := noInt_get hno hki hri hr'
          rw [Nat.zero_add, Nat.zero_add] at hap
          unfold apart at hap
          rw [Bool.or_eq_true] at hap
          have hord : ordB ops.toList ops.toList.length i k = true := by
            rcases hap with hap | hap
            · exact hap
            · exfalso
              rw [Bool.not_eq_true', Bool.or_eq_false_iff, Bool.or_eq_false_iff] at hap
              rcases hlr with hlr | hlr
              · exact meets_false hap.1.2 l hlr hl'
              · exact meets_false hap.1.1 l hlr hl'
          have : upto i k = false := by simp [upto]; omega
          rw [this]
          cases hlk : listed.getD k true with
          | false => rfl
          | true =>
            exfalso
            have hko : ops.toList[k]? = some ops[k] := by simp [hk]
            have := ordB_closed hcl' hord (fun o ho => by rw [hko] at ho; injection ho with ho; subst ho; exact hcl k _ hko hlk)
            rw [hnoi] at this
            cases this
      have hrun2 := hruns.agree (s' := s) (h' := h) fun l hlR => agree l (.inl (hRr l hlR))
      -- the heap's side: new names are new
      have hfr : ∀ q ∈ r.nw.map (fun x : Nat × AO => x.1), get (setOld r.up h) q = none := fun q hq => by
        rw [← addNew_fresh hfresh q hq]
        have := agree (.o q) (.inr (mem_wr.2 (.inr ⟨q, rfl, .inr hq⟩)))
        simp only [look] at this
        refine setOld_get2 (.inr ?_)
        cases e1 : get h q <;> cases e2 : get (mgH (upto i) rs hp) q <;> rw [e1, e2] at this <;> simp_all
      have hstep := guarded_sound (G := G) (N := E.nt) (Q := Q) (K := wpAny P .any ops Q fuel (listed.setIfInBounds i true)) (d := ops[i].dst.getD 0) (f := ops[i].dst.getD 0) T F S (hrun2.wp (Q := Then G E.nt s a ops[i].dst (wpAny P .any ops Q fuel (listed.setIfInBounds i true)) h) ?_)
      · unfold wpOp
        rw [Array.getElem?_eq_getElem hlt]
        simp only
        split
        · rename_i hw; rw [if_pos hw] at hstep; exact .inl hstep
        · rename_i hw; rw [if_neg hw] at hstep; exact hstep
      · refine addNew_nodup hfresh hfr fun μ' I' u w' S' hv => ?_
        refine ih _ _ _ (by simp [hsz]) ?_ ?_ ?_
        · have := flt (List.range ops.size) (fun k => !listed.getD k true) (fun k => !(listed.setIfInBounds i true).getD k true) i (List.mem_range.2 hlt) (by simp only [hun]; rfl) (by simp [Array.getD_eq_getD_getElem?, Array.getElem?_setIfInBounds, hsz, hlt]) (fun k hk => by
            simp only [Array.getD_eq_getD_getElem?, Array.getElem?_setIfInBounds] at hk ⊢
            by_cases hik : i = k
            · subst hik
              rw [if_pos rfl, if_pos (by omega)] at hk
              cases hk
            · rw [if_neg hik] at hk; exact hk)
          omega
        · intro j o ho hlj e he hb
          have up : ∀ k, listed.getD k false = true → (listed.setIfInBounds i true).getD k false = true := fun k hk => by
            simp only [Array.getD_eq_getD_getElem?, Array.getElem?_setIfInBounds] at hk ⊢
            by_cases hik : i = k
            · subst hik; rw [if_pos rfl, if_pos (by omega)]; rfl
            · rw [if_neg hik]; exact hk
          by_cases hij : i = j
          · subst hij
            rw [hoi] at ho; injection ho with ho; subst ho
            exact up _ (hpre2 e he hb)
          · refine up _ (hcl j o ho ?_ e he hb)
            simp only [Array.getD_eq_getD_getElem?, Array.getElem?_setIfInBounds, if_neg hij] at hlj ⊢
            exact hlj
        · have hlook : ∀ l, look (putS r s) (putH r h) l = look (mgS (fun k => (listed.setIfInBounds i true).getD k true) rs sl) (mgH (fun k => (listed.setIfInBounds i true).getD k true) rs hp) l := fun l => by
            rw [mg_add rs (p := fun k => listed.getD k true) (p' := fun k => (listed.setIfInBounds i true).getD k true) hri hun (by simp [Array.getD_eq_getD_getElem?, Array.getElem?_setIfInBounds, hsz, hlt]) (fun k hne => by
              have hne' : ¬ i = k := fun e => hne e.symm
              simp only [Array.getD_eq_getD_getElem?, Array.getElem?_setIfInBounds, if_neg hne']) (fun k r' hik hr' hpk l hlr hlr' => ?_) l]
            · exact put_look (.inr (hl l))
            · have hk : k < ops.size := by rw [← rlen]; exact (List.getElem?_eq_some_iff.1 hr').1
              have hap := noInt_get hno hik hri hr'
              rw [Nat.zero_add, Nat.zero_add] at hap
              unfold apart at hap
              rw [Bool.or_eq_true] at hap
              rcases hap with hap | hap
              · have hko : ops.toList[k]? = some ops[k] := by simp [hk]
                have := ordB_closed hcl' hap (fun o ho => by rw [hko] at ho; injection ho with ho; subst ho; exact hcl k _ hko hpk)
                rw [hnoi] at this
                cases this
              · rw [Bool.not_eq_true', Bool.or_eq_false_iff, Bool.or_eq_false_iff] at hap
                exact meets_false hap.1.1 l hlr hlr'
          cases hd : ops[i].dst with
          | none =>
            refine ⟨μ', I', s, putNew r.nw (setOld r.up h), S', fun l => ?_⟩
            rw [← hlook l]
            have : putS r s = s := by unfold putS; rw [hrd, hd]
            rw [this]; rfl
          | some d =>
            refine ⟨μ', I', (d, r.v) :: s, putNew r.nw (setOld r.up h), S'.putSlot (hdlt d hd) hv, fun l => ?_⟩
            rw [← hlook l]
            have : putS r s = (d, r.v) :: s := by unfold putS; rw [hrd, hd]
            rw [this]; rfl
  refine wp_region_any hm (main ops.size _ a _ (by simp) (by have := List.length_filter_le (fun i => !(Array.replicate ops.size false).getD i true) (List.range ops.size); simpa using this) (fun j o ho hl => ?_) ⟨μ, I, sl, hp, S.drew, fun l => ?_⟩)
  · have hj : j < ops.size := by have := (List.getElem?_eq_some_iff.1 ho).1; simpa using this
    rw [Array.getD_eq_getD_getElem?, Array.getElem?_replicate, if_pos hj] at hl
    cases hl
  · have : ∀ k r, rs[k]? = some r → (fun k => (Array.replicate ops.size false).getD k true) k = (fun _ => false) k := fun k r hr => by
      have hk : k < ops.size := by
        have h1 := (List.getElem?_eq_some_iff.1 hr).1
        rw [← hlen] at h1
        simpa using h1
      simp only [Array.getD_eq_getD_getElem?, Array.getElem?_replicate, if_pos hk]; rfl
    have e := mg_look rs (p := fun k => (Array.replicate ops.size false).getD k true) (q := fun _ => false) (s := sl) (s' := sl) (h := hp) (h' := hp) (l := l) rfl (fun k r hr _ => this k r hr)
    rw [e, (mg_none rs sl hp).1, (mg_none rs sl hp).2]
end
end Go.VM
namespace Go.VM
open RM Go.RowKit
section
variable {P : Program} {E : Env} {G : Ctx} {N : Nat} {μ : Mu} {I : Nat → Prop} {sl : Slots} {hp : Heap} {a : Act} {w : World} {K : Act → World → Prop} {Q : Exit → Act → World → Prop} {o : Oper} {d f : Nat}
/-- What a state may be taken for. -/
def Weak (N : Nat) (L : List Nat) : WeakRel := fun s h s' h' => ∀ G : Ctx, (∀ r m, G.pin r = some m → r ∈ L) → ∀ μ I a w, Sim G N μ I s h a w → ∃ μ' I', Sim G N μ' I' s' h' a w
/-- How code ends. -/
def Ends (G : Ctx) (N : Nat) (K : Ex → Slots → Heap → Prop) : Exit → Act → World → Prop
  | .normal, a, w => ∃ μ I sl hp, Sim G N μ I sl hp a w ∧ K .nrm sl hp
  | .exit id, a, w => ∃ μ I sl hp, Sim G N μ I sl hp a w ∧ K (.ext id) sl hp
  | .ret, a, w => ∃ μ I sl hp, Sim G N μ I sl hp a w ∧ K .ret sl hp
  | _, _, _ => False
theorem rounds_mono {c : Code} {Q : Exit → Act → World → Prop} : ∀ {n m : Nat} {a : Act} {w : World}, n ≤ m → Code.rounds P c Q n a w → Code.rounds P c Q m a w
  | 0, m, a, w, _, h => by exact h.elim
  | n + 1, m + 1, a, w, hl, h => by
    rw [rounds_succ] at h ⊢
    refine Code.wp_mono (fun e a w q => ?_) h
    cases e <;> first | exact rounds_mono (by omega) q | exact q
theorem cwp_sound (T : TyOk P E.tt) (F : FnsOk P E) (hm : P.follows .mixedOrders = true) {L : List Nat} (hG : ∀ r m, G.pin r = some m → r ∈ L) : ∀ (c : Code) {K : Ex → Slots → Heap → Prop} {μ : Mu} {I : Nat → Prop} {sl : Slots} {hp : Heap} {a : Act} {w : World}, Sim G E.nt μ I sl hp a w → cwp E (Weak E.nt L) c sl hp K → c.wp P (Ends G E.nt K) a w
  | .skip, K, μ, I, sl, hp, a, w, S, h => wp_skip ⟨μ, I, sl, hp, S, h⟩
  | .region id ops draw, K, μ, I, sl, hp, a, w, S, h => by
    cases draw with
    | false => exact wp_region_list (reg_sound T F (fun μ I sl hp a w S hr => ⟨μ, I, sl, hp, S, hr⟩) _ S h)
    | true => exact draw_sound T F hm S h (fun μ I sl hp a w S hr => ⟨μ, I, sl, hp, S, hr⟩)
  | .seq x y, K, μ, I, sl, hp, a, w, S, h => by
    refine wp_seq (Code.wp_mono (fun e a w q => ?_) (cwp_sound T F hm hG x S h))
    cases e with
    | normal => obtain ⟨μ, I, sl, hp, S, q⟩ := q; exact cwp_sound T F hm hG y S q
    | exit id => exact q
    | ret => exact q
    | _ => exact q.elim
  | .cond c x y, K, μ, I, sl, hp, a, w, S, h => by
    have h : ((opd c).bind asB).wp sl hp _ := h
    rw [wp_bind] at h
    obtain ⟨v, h, hv⟩ := opd_wp S.slots h
    obtain ⟨b, rfl, h⟩ := asB_wp h
    have e := rep_a hv
    exact wp_cond_split e (fun hb => cwp_sound T F hm hG x S (h.t hb)) (fun hb => cwp_sound T F hm hG y S (h.f hb))
  | .block id c, K, μ, I, sl, hp, a, w, S, h => by
    refine wp_block (Code.wp_mono (fun e a w q => ?_) (cwp_sound T F hm hG c S h))
    cases e with
    | exit j =>
      obtain ⟨μ, I, sl, hp, S, q⟩ := q
      simp only at q
      show (if j = id then _ else _)
      by_cases hj : j = id
      · rw [if_pos hj]
        have : Nat.beq j id = true := by rw [hj]; simp
        rw [this] at q
        exact ⟨μ, I, sl, hp, S, q⟩
      · rw [if_neg hj]
        have : Nat.beq j id = false := by
          cases e : Nat.beq j id
          · rfl
          · exact absurd (Nat.eq_of_beq_eq_true e) hj
        rw [this] at q
        exact ⟨μ, I, sl, hp, S, q⟩
    | normal => exact q
    | ret => exact q
    | _ => exact q.elim
  | .loop c, K, μ, I, sl, hp, a, w, S, h => by
    obtain ⟨Inv, ⟨n, s0, h0, hW, hI⟩, hr⟩ := h
    obtain ⟨μ', I', S'⟩ := hW G hG μ I a w S
    have key : ∀ n {μ : Mu} {I : Nat → Prop} {sl : Slots} {hp : Heap} {a : Act} {w : World}, Sim G E.nt μ I sl hp a w → Inv n sl hp → Code.rounds P c (Ends G E.nt K) (n + 1) a w := by
      intro n
      induction n using Nat.strongRecOn with
      | _ n ih =>
        intro μ I sl hp a w S hI
        rw [rounds_succ]
        refine Code.wp_mono (fun e a w q => ?_) (cwp_sound T F hm hG c S (hr n sl hp hI))
        cases e with
        | normal =>
          obtain ⟨μ1, I1, s1, h1, S1, m, s2, h2, hm, hW, hI⟩ := q
          obtain ⟨μ2, I2, S2⟩ := hW G hG μ1 I1 a w S1
          exact rounds_mono (by omega) (ih m hm S2 hI)
        | exit id => exact q
        | ret => exact q
        | _ => exact q.elim
    exact wp_loop_rounds _ (key n S' hI)
  | .exit id, K, μ, I, sl, hp, a, w, S, h => wp_exit ⟨μ, I, sl, hp, S, h⟩
  | .ret, K, μ, I, sl, hp, a, w, S, h => wp_ret ⟨μ, I, sl, hp, S, h⟩
  | .scope _, _, _, _, _, _, _, _, _, h => h.elim
  | .label _, _, _, _, _, _, _, _, _, h => h.elim
  | .goto _, _, _, _, _, _, _, _, _, h => h.elim
  | .rangeFunc _ _ _ _, _, _, _, _, _, _, _, _, h => h.elim
  | .refuse _, _, _, _, _, _, _, _, _, h => h.elim
end
end Go.VM
namespace Go.VM
open RM Go.RowKit
/-- What a function is handed. -/
structure HIn (μ : Mu) (hp : Heap) (w : World) (I : Nat → Prop) : Prop where
  objs : ∀ r o, get hp r = some o → o.rep μ w I hp r
  inj : ∀ r r' b z z', live hp r → live hp r' → μ r = some (b, z) → μ r' = some (b, z') → r = r'
  own : ∀ r b z, live hp r → μ r = some (b, z) → ¬ I b ∧ b < w.heap.size
  imm : ∀ b, I b → b < w.heap.size
def pinOf (μ : Mu) (hp : Heap) : Nat → Option (Option (Nat × Nat)) := fun r => match get hp r with
  | some .dead => none
  | some _ => some (μ r)
  | none => none
def ctx0 (w : World) (I : Nat → Prop) (μ : Mu) (hp : Heap) : Ctx := ⟨w, I, fun b => ∃ r z, live hp r ∧ μ r = some (b, z), pinOf μ hp⟩
theorem HIn.sim {μ : Mu} {hp : Heap} {w : World} {I : Nat → Prop} (h : HIn μ hp w I) : HSim (ctx0 w I μ hp) μ I hp w where
  objs := h.objs
  inj := h.inj
  own r b z hl e := ⟨(h.own r b z hl e).1, (h.own r b z hl e).2, .inl ⟨r, z, hl, e⟩⟩
  imm b hb := ⟨h.imm b hb, .inl hb⟩
  base := ⟨rfl, rfl, rfl, Nat.le_refl _, fun _ _ _ => rfl⟩
  pin r m e := by
    simp only [ctx0, pinOf] at e
    cases ho : get hp r with
    | none => rw [ho] at e; cases e
    | some o => rw [ho] at e; cases o <;> first | (cases e; done) | exact ⟨_, rfl, .inr (by injection e)⟩
  keep _ hb := hb
/-- What a function does with some objects. -/
def LSpec (P : Program) (f : Nat) (args : List AV) (hp : Heap) (Post : AV → Heap → Prop) : Prop := ∀ (w : World) (I : Nat → Prop) (μ : Mu) (vals : List Value), HIn μ hp w I → AV.reps μ w I hp args vals →
  Calls P f vals.toArray w fun e w' => ∃ u v hp' μ' I', e = .returned u ∧ Post v hp' ∧ HSim (ctx0 w I μ hp) μ' I' hp' w' ∧ v.rep μ' w' I' hp' u
theorem argSlots_get {μ : Mu} {w : World} {I : Nat → Prop} {hp : Heap} : ∀ {args : List AV} {vals : List Value} {i n : Nat} {v : AV}, AV.reps μ w I hp args vals → get (argSlots args i) n = some v → ∃ u, i ≤ n ∧ vals[n - i]? = some u ∧ v.rep μ w I hp u
  | [], [], _, _, _, _, e => by cases e
  | x :: xs, u :: us, i, n, v, h, e => by
    rw [argSlots, get_cons] at e
    by_cases hi : i = n
    · rw [if_pos hi] at e; injection e with e; subst e; subst hi
      exact ⟨u, Nat.le_refl _, by simp, h.1⟩
    · rw [if_neg hi] at e
      obtain ⟨u', hn, hu, hr⟩ := argSlots_get h.2 e
      exact ⟨u', by omega, by rw [show n - i = n - (i + 1) + 1 from by omega]; simpa using hu, hr⟩
  | [], _ :: _, _, _, _, h, _ => h.elim
  | _ :: _, [], _, _, _, h, _ => h.elim
section
variable {P : Program} {E : Env} {G : Ctx} {N : Nat} {μ : Mu} {I : Nat → Prop} {sl : Slots} {hp : Heap} {a : Act} {w : World}
/-- A result, read. -/
def resF (a : Act) : ResultVar → Sem Value
  | .tmp t => Pure.pure (a.tmps.getD t undef)
  | .cell p t => do loadVar t (← asAddr (a.tmps.getD p undef))
theorem results_eq (fn : Func) (a : Act) : results fn a.tmps = fn.results.mapM (resF a) >>= fun vs => Pure.pure (if h : vs.size = 1 then vs[0] else .tuple vs) := by
  have : (fun x : ResultVar => (match x with
    | .tmp t => (Pure.pure (a.tmps.getD t undef) : Sem Value)
    | .cell p t => do loadVar t (← asAddr (a.tmps.getD p undef)))) = resF a := by
    funext x; cases x <;> rfl
  unfold results
  rw [← this]
  rfl
theorem resR_run (T : TyOk P E.tt) (S : Sim G N μ I sl hp a w) : ∀ {rs : List ResultVar} {R : List AV → Prop}, (resR E rs).wp sl hp R → ∃ vs us, R vs ∧ AV.reps μ w I hp vs us ∧ (rs.mapM (resF a)).run P w = .ok us w
  | [], R, h => ⟨[], [], h, trivial, by simp⟩
  | .tmp t :: l, R, h => by
    obtain ⟨v, e, h⟩ := slot_wp h
    rw [wp_bind] at h
    obtain ⟨u, hu, hr⟩ := S.slots t v e
    obtain ⟨vs, us, h, hrs, hrun⟩ := resR_run T S h
    refine ⟨v :: vs, u :: us, h, ⟨hr, hrs⟩, ?_⟩
    have : a.tmps.getD t undef = u := by simp [Array.getD_eq_getD_getElem?, hu]
    rw [List.mapM_cons]
    simp only [resF, this, Sem.run_bind, Sem.run_pure, Result.andThen_ok]
    rw [hrun]; rfl
  | .cell p t :: l, R, h => by
    have h : ((step E 0 0 (.load t (.tmp p))).bind _).wp sl hp R := h
    rw [wp_bind] at h
    obtain ⟨v, u, q, h, hv, hx, hld⟩ := load_run (P := P) T S h
    simp only at h
    rw [wp_bind] at h
    obtain ⟨vs, us, h, hrs, hrun⟩ := resR_run T S h
    refine ⟨v :: vs, u :: us, h, ⟨hv, hrs⟩, ?_⟩
    have hx' : a.tmps.getD p undef = .pointer (some q) := hx
    rw [List.mapM_cons]
    simp only [resF, hx', asAddr, Sem.run_bind, Sem.run_pure, Result.andThen_ok, hld]
    rw [hrun]; rfl
theorem results_run {fn : Func} {vs : List AV} {us : List Value} (hr : AV.reps μ w I hp vs us) (hrun : (fn.results.toList.mapM (resF a)).run P w = .ok us w) : ∃ u, (results fn a.tmps).run P w = .ok u w ∧ (pack vs).rep μ w I hp u := by
  have hm : (fn.results.mapM (resF a)).run P w = .ok us.toArray w := by
    rw [Array.mapM_eq_mapM_toList, Sem.run_map, hrun]; rfl
  rw [results_eq]
  match vs, us, hr with
  | [], [], hr =>
    refine ⟨.tuple #[], ?_, by rw [pack, AV.rep]; exact ⟨_, rfl, trivial⟩; exact fun v e => by cases e⟩
    rw [Sem.run_bind, hm]; rfl
  | [v], [u], hr =>
    refine ⟨u, ?_, hr.1⟩
    rw [Sem.run_bind, hm]; rfl
  | v :: v' :: vs, u :: u' :: us, hr =>
    refine ⟨.tuple (u :: u' :: us).toArray, ?_, by rw [pack, AV.rep]; exact ⟨_, rfl, hr⟩; exact fun v e => by cases e⟩
    rw [Sem.run_bind, hm]
    simp
  | [_], _ :: _ :: _, hr => exact hr.2.elim
  | _ :: _ :: _, [_], hr => exact hr.2.elim
end
/-- A body that does it does it. -/
theorem get_mem {β : Type} : ∀ {l : List (Nat × β)} {n : Nat} {b : β}, get l n = some b → n ∈ l.map fun x : Nat × β => x.1
  | [], _, _, e => by cases e
  | (m, x) :: l, n, b, e => by
    rw [get_cons] at e
    by_cases hm : m = n
    · subst hm; simp
    · rw [if_neg hm] at e; exact List.mem_cons_of_mem _ (get_mem e)
theorem LSpec.intro {P : Program} {E : Env} {f : Nat} {fn : Func} {c : Code} {args : List AV} {hp : Heap} {Post : AV → Heap → Prop} (T : TyOk P E.tt) (F : FnsOk P E) (hm : P.follows .mixedOrders = true) (hf : P.funcs[f]? = some fn) (hb : fn.body = some c) (hn : Nat.ble E.nt fn.ntmps = true)
    (h : vfun E (Weak E.nt (hp.map fun x : Nat × AO => x.1)) c fn.results.toList args hp Post) : LSpec P f args hp Post := by
  intro w I μ vals H hr
  refine calls_of_wp hf hb ?_
  have hn := Nat.le_of_ble_eq_true hn
  have S : Sim (ctx0 w I μ hp) E.nt μ I (argSlots args 0) hp { tmps := vals.toArray ++ Array.replicate (fn.ntmps - vals.toArray.size) undef, defers := [] } w := by
    refine ⟨fun n v e => ?_, H.sim, ?_, rfl⟩
    · obtain ⟨u, _, hu, hv⟩ := argSlots_get hr e
      rw [Nat.sub_zero] at hu
      have hlt : n < vals.toArray.size := by have := (List.getElem?_eq_some_iff.1 hu).1; simpa using this
      exact ⟨u, by rw [Array.getElem?_append_left hlt]; simpa using hu, hv⟩
    · simp only [Array.size_append, Array.size_replicate]; omega
  refine Code.wp_mono (fun e a w' q => ?_) (cwp_sound T F hm (L := hp.map fun x : Nat × AO => x.1) (fun r m e => by
    simp only [ctx0, pinOf] at e
    cases ho : get hp r with
    | none => rw [ho] at e; cases e
    | some o => exact get_mem ho) c S h)
  have fin : ∀ {μ' : Mu} {I' : Nat → Prop} {s : Slots} {h' : Heap}, Sim (ctx0 w I μ hp) E.nt μ' I' s h' a w' → (resR E fn.results.toList).wp s h' (fun vs => Post (pack vs) h') → a.defers = [] ∧ ∃ v, (results fn a.tmps).run P w' = .ok v w' ∧ ∃ u v' hp' μ' I', Ending.returned v = .returned u ∧ Post v' hp' ∧ HSim (ctx0 w I μ hp) μ' I' hp' w' ∧ v'.rep μ' w' I' hp' u := by
    intro μ' I' s h' S' hq
    obtain ⟨vs, us, hP, hrs, hrun⟩ := resR_run T S' hq
    obtain ⟨u, hu, hv⟩ := results_run hrs hrun
    exact ⟨S'.defers, u, hu, u, pack vs, h', μ', I', rfl, hP, S'.heap, hv⟩
  cases e with
  | normal => obtain ⟨μ', I', s, h', S', hq⟩ := q; exact fin S' hq
  | ret => obtain ⟨μ', I', s, h', S', hq⟩ := q; exact fin S' hq
  | exit id => obtain ⟨μ', I', s, h', S', hq⟩ := q; exact hq.elim
  | _ => exact q.elim
/-! ### values without references -/
mutual
def AV.pure : AV → Bool
  | .d _ => true
  | .agg cs => AV.pures cs
  | .tup cs => AV.pures cs
  | _ => false
def AV.pures : List AV → Bool
  | [] => true
  | x :: l => match x.pure with
    | true => AV.pures l
    | false => false
end
mutual
theorem rep_pure {μ μ' : Mu} {w : World} {I : Nat → Prop} {hp hp' : Heap} : ∀ (x : AV) (v : Value), x.pure = true → x.rep μ w I hp v → x.rep μ' w I hp' v
  | .d x, v, _, h => by rw [AV.rep] at h ⊢; exact h
  | .agg xs, v, hx, h => by
    rw [AV.rep] at h ⊢
    obtain ⟨a, e, h⟩ := h
    exact ⟨a, e, reps_pure xs _ (by simpa [AV.pure] using hx) h⟩
  | .tup xs, v, hx, h => by
    rw [AV.rep] at h ⊢
    obtain ⟨a, e, h⟩ := h
    exact ⟨a, e, reps_pure xs _ (by simpa [AV.pure] using hx) h⟩
  | .rs _ _ _, _, hx, _ => by simp [AV.pure] at hx
  | .pc _ _, _, hx, _ => by simp [AV.pure] at hx
  | .pr _ _ _, _, hx, _ => by simp [AV.pure] at hx
  | .pv _ _ _ _ _, _, hx, _ => by simp [AV.pure] at hx
  | .mp _, _, hx, _ => by simp [AV.pure] at hx
  | .fn _ _ _, _, hx, _ => by simp [AV.pure] at hx
theorem reps_pure {μ μ' : Mu} {w : World} {I : Nat → Prop} {hp hp' : Heap} : ∀ (xs : List AV) (vs : List Value), AV.pures xs = true → AV.reps μ w I hp xs vs → AV.reps μ' w I hp' xs vs
  | [], [], _, _ => trivial
  | x :: xs, v :: vs, hx, h => by
    unfold AV.pures at hx
    split at hx
    · rename_i hp1
      exact ⟨rep_pure x v hp1 h.1, reps_pure xs vs hx h.2⟩
    · cases hx
  | [], _ :: _, _, h => h.elim
  | _ :: _, [], _, h => h.elim
end
theorem HIn.nil {w : World} {I : Nat → Prop} (hI : ∀ b, I b → b < w.heap.size) (μ : Mu) : HIn μ [] w I where
  objs r o e := by cases e
  inj r r' b z z' h := by obtain ⟨o, e, _⟩ := h; cases e
  own r b z h := by obtain ⟨o, e, _⟩ := h; cases e
  imm := hI
/-- What a function without objects does: a value. -/
def VSpec (P : Program) (f : Nat) (args : List AV) (ret : AV) : Prop := LSpec P f args [] fun v _ => v = ret
theorem SummOk.pure {P : Program} {f : Nat} {g : Summ} (is : FnIs P f) (hg : ∀ args fr sl hp Φ, (g args fr).wp sl hp Φ → ∃ ret, Φ (.mk ret [] []) ∧ AV.pures args = true ∧ AV.pure ret = true ∧ VSpec P f args ret) : SummOk P f g where
  is := is
  ok G N μ I sl hp a w args vals fr dst K S hr h := by
    obtain ⟨ret, hK, hpa, hpr, hL⟩ := hg args fr sl hp _ h
    refine (hL w I (fun _ => none) vals (HIn.nil (fun b hb => (S.heap.imm b hb).1) _) (reps_pure args vals hpa hr)).mono fun e w' q => ?_
    obtain ⟨u, v, hp', μ', I', rfl, rfl, H, hv⟩ := q
    refine ⟨u, rfl, ?_⟩
    have hsame : ∀ b, b < w.heap.size → w'.heap[b]? = w.heap[b]? := fun b hb => H.base.block b hb (fun ⟨r, z, hl, _⟩ => by obtain ⟨o, e, _⟩ := hl; cases e)
    have hIw : ∀ b, I b → w'.heap[b]? = w.heap[b]? := fun b hb => hsame b (S.heap.imm b hb).1
    have X : Ext μ I hp w μ I' hp w' := ⟨.refl _ _, H.keep, hIw⟩
    have H' : HSim G μ I' hp w' := by
      refine ⟨fun r o e => ?_, S.heap.inj, fun r b z hl e => ?_, fun b hb => ?_, ?_, S.heap.pin, fun b hb => H.keep b (S.heap.keep b hb)⟩
      · by_cases hd : o = .dead
        · subst hd; trivial
        · exact AO.rep_mono (.refl _ _) hIw H.keep rfl (fun b z e2 => hsame b (S.heap.own r b z ⟨o, e, hd⟩ e2).2.1) (S.heap.objs r o e)
      · have := S.heap.own r b z hl e
        refine ⟨fun hb => ?_, Nat.lt_of_lt_of_le this.2.1 H.base.size, this.2.2⟩
        rcases (H.imm b hb).2 with h | ⟨r', z', hl', _⟩ | h
        · exact this.1 h
        · obtain ⟨o, e, _⟩ := hl'; cases e
        · have h : w.heap.size ≤ b := h
          omega
      · have := H.imm b hb
        refine ⟨this.1, ?_⟩
        rcases this.2 with h | ⟨r', z', hl', _⟩ | h
        · exact (S.heap.imm b h).2
        · obtain ⟨o, e, _⟩ := hl'; cases e
        · exact .inr (.inr (Nat.le_trans S.heap.base.size h))
      · exact ⟨H.base.os.trans S.heap.base.os, H.base.tape.trans S.heap.base.tape, H.base.output.trans S.heap.base.output, Nat.le_trans S.heap.base.size H.base.size, fun b h1 h2 => by rw [hsame b (Nat.lt_of_lt_of_le h1 S.heap.base.size)]; exact S.heap.base.block b h1 h2⟩
    exact hK _ _ _ _ (S.next ⟨H', X⟩) (rep_pure _ _ hpr hv)
end Go.VM
