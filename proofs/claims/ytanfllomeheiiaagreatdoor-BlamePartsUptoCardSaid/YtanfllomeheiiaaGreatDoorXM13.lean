/- Functions: what their bodies come to is what their calls come to. -/
import Derived.Test.YtanfllomeheiiaaGreatDoorXMF
set_option linter.unusedVariables false
set_option linter.unusedSimpArgs false
namespace Go.XM
open RM Go.RowKit
/-- What a function is handed. -/
structure HIn (μ : Mu) (hp : Heap) (w : World) (I : Nat → Prop) : Prop where
  objs : ∀ r o, get hp r = some o → o.rep μ w I hp r
  inj : ∀ r r' b z z', live hp r → live hp r' → μ r = some (b, z) → μ r' = some (b, z') → r = r'
  own : ∀ r b z, live hp r → μ r = some (b, z) → ¬ I b ∧ b < w.heap.size
  imm : ∀ b, I b → b < w.heap.size
def pinOf (μ : Mu) (hp : Heap) : Nat → Option (Option (Nat × Nat)) := fun r => match get hp r with
  | some .dead => none
  | some _ => some (μ r)
  | none => none
def ctx0 (w : World) (I : Nat → Prop) (μ : Mu) (hp : Heap) : Ctx := ⟨w, I, fun b => ∃ r z, live hp r ∧ μ r = some (b, z), pinOf μ hp, []⟩
theorem HIn.sim {μ : Mu} {hp : Heap} {w : World} {I : Nat → Prop} (h : HIn μ hp w I) : HSim (ctx0 w I μ hp) μ I hp w where
  objs := h.objs
  inj := h.inj
  own r b z hl e := ⟨(h.own r b z hl e).1, (h.own r b z hl e).2, .inl ⟨r, z, hl, e⟩⟩
  imm b hb := ⟨h.imm b hb, .inl hb⟩
  base := ⟨rfl, rfl, rfl, Nat.le_refl _, fun _ _ _ => rfl⟩
  pin r m e := by
    simp only [ctx0, pinOf] at e
    cases ho : get hp r with
    | none => rw [ho] at e; cases e
    | some o => rw [ho] at e; cases o <;> first | (cases e; done) | exact ⟨_, rfl, .inr (by injection e)⟩
  keep _ hb := hb
/-- What a function does with some objects. -/
def LSpec (P : Program) (f : Nat) (args : List AV) (hp : Heap) (Post : AV → Heap → Prop) : Prop := ∀ (w : World) (I : Nat → Prop) (μ : Mu) (vals : List Value), HIn μ hp w I → AV.reps μ w I hp args vals →
  Calls P f vals.toArray w fun e w' => ∃ u v hp' μ' I', e = .returned u ∧ Post v hp' ∧ HSim (ctx0 w I μ hp) μ' I' hp' w' ∧ v.rep μ' w' I' hp' u
theorem argSlots_get {μ : Mu} {w : World} {I : Nat → Prop} {hp : Heap} : ∀ {args : List AV} {vals : List Value} {i n : Nat} {v : AV}, AV.reps μ w I hp args vals → get (argSlots args i) n = some v → ∃ u, i ≤ n ∧ vals[n - i]? = some u ∧ v.rep μ w I hp u
  | [], [], _, _, _, _, e => by cases e
  | x :: xs, u :: us, i, n, v, h, e => by
    rw [argSlots, get_cons] at e
    by_cases hi : i = n
    · rw [if_pos hi] at e; injection e with e; subst e; subst hi
      exact ⟨u, Nat.le_refl _, by simp, h.1⟩
    · rw [if_neg hi] at e
      obtain ⟨u', hn, hu, hr⟩ := argSlots_get h.2 e
      exact ⟨u', by omega, by rw [show n - i = n - (i + 1) + 1 from by omega]; simpa using hu, hr⟩
  | [], _ :: _, _, _, _, h, _ => h.elim
  | _ :: _, [], _, _, _, h, _ => h.elim
section
variable {P : Program} {E : Env} {G : Ctx} {N : Nat} {μ : Mu} {I : Nat → Prop} {sl : Slots} {hp : Heap} {a : Act} {w : World}
/-- A result, read. -/
def resF (a : Act) : ResultVar → Sem Value
  | .tmp t => Pure.pure (a.tmps.getD t undef)
  | .cell p t => do loadVar t (← asAddr (a.tmps.getD p undef))
theorem results_eq (fn : Func) (a : Act) : results fn a.tmps = fn.results.mapM (resF a) >>= fun vs => Pure.pure (if h : vs.size = 1 then vs[0] else .tuple vs) := by
  have : (fun x : ResultVar => (match x with
    | .tmp t => (Pure.pure (a.tmps.getD t undef) : Sem Value)
    | .cell p t => do loadVar t (← asAddr (a.tmps.getD p undef)))) = resF a := by
    funext x; cases x <;> rfl
  unfold results
  rw [← this]
  rfl
theorem resR_run (T : TyOk P E.tt) (S : Sim G N μ I sl hp a w) : ∀ {rs : List ResultVar} {R : List AV → Prop}, (resR E rs).wp sl hp R → ∃ vs us, R vs ∧ AV.reps μ w I hp vs us ∧ (rs.mapM (resF a)).run P w = .ok us w
  | [], R, h => ⟨[], [], h, trivial, by simp⟩
  | .tmp t :: l, R, h => by
    obtain ⟨v, e, h⟩ := slot_wp h
    rw [wp_bind] at h
    obtain ⟨u, hu, hr⟩ := S.slots t v e
    obtain ⟨vs, us, h, hrs, hrun⟩ := resR_run T S h
    refine ⟨v :: vs, u :: us, h, ⟨hr, hrs⟩, ?_⟩
    have : a.tmps.getD t undef = u := by simp [Array.getD_eq_getD_getElem?, hu]
    rw [List.mapM_cons]
    simp only [resF, this, Sem.run_bind, Sem.run_pure, Result.andThen_ok]
    rw [hrun]; rfl
  | .cell p t :: l, R, h => by
    have h : ((step E 0 0 (.load t (.tmp p))).bind _).wp sl hp R := h
    rw [wp_bind] at h
    obtain ⟨v, u, q, h, hv, hx, hld⟩ := load_run (P := P) T S h
    simp only at h
    rw [wp_bind] at h
    obtain ⟨vs, us, h, hrs, hrun⟩ := resR_run T S h
    refine ⟨v :: vs, u :: us, h, ⟨hv, hrs⟩, ?_⟩
    have hx' : a.tmps.getD p undef = .pointer (some q) := hx
    rw [List.mapM_cons]
    simp only [resF, hx', asAddr, Sem.run_bind, Sem.run_pure, Result.andThen_ok, hld]
    rw [hrun]; rfl
theorem results_run {fn : Func} {vs : List AV} {us : List Value} (hr : AV.reps μ w I hp vs us) (hrun : (fn.results.toList.mapM (resF a)).run P w = .ok us w) : ∃ u, (results fn a.tmps).run P w = .ok u w ∧ (pack vs).rep μ w I hp u := by
  have hm : (fn.results.mapM (resF a)).run P w = .ok us.toArray w := by
    rw [Array.mapM_eq_mapM_toList, Sem.run_map, hrun]; rfl
  rw [results_eq]
  match vs, us, hr with
  | [], [], hr =>
    refine ⟨.tuple #[], ?_, by rw [pack, AV.rep]; exact ⟨_, rfl, trivial⟩; exact fun v e => by cases e⟩
    rw [Sem.run_bind, hm]; rfl
  | [v], [u], hr =>
    refine ⟨u, ?_, hr.1⟩
    rw [Sem.run_bind, hm]; rfl
  | v :: v' :: vs, u :: u' :: us, hr =>
    refine ⟨.tuple (u :: u' :: us).toArray, ?_, by rw [pack, AV.rep]; exact ⟨_, rfl, hr⟩; exact fun v e => by cases e⟩
    rw [Sem.run_bind, hm]
    simp
  | [_], _ :: _ :: _, hr => exact hr.2.elim
  | _ :: _ :: _, [_], hr => exact hr.2.elim
end
/-- A body that does it does it. -/
theorem get_mem {β : Type} : ∀ {l : List (Nat × β)} {n : Nat} {b : β}, get l n = some b → n ∈ l.map fun x : Nat × β => x.1
  | [], _, _, e => by cases e
  | (m, x) :: l, n, b, e => by
    rw [get_cons] at e
    by_cases hm : m = n
    · subst hm; simp
    · rw [if_neg hm] at e; exact List.mem_cons_of_mem _ (get_mem e)
theorem LSpec.intro {P : Program} {E : Env} {f : Nat} {fn : Func} {c : Code} {args : List AV} {hp : Heap} {Post : AV → Heap → Prop} (T : TyOk P E.tt) (F : FnsOk P E) (hm : P.follows .mixedOrders = true) (hf : P.funcs[f]? = some fn) (hb : fn.body = some c) (hn : Nat.ble E.nt fn.ntmps = true)
    (h : vfun E (Weak E.nt (hp.map fun x : Nat × AO => x.1)) c fn.results.toList args hp Post) : LSpec P f args hp Post := by
  intro w I μ vals H hr
  refine calls_of_wp hf hb ?_
  have hn := Nat.le_of_ble_eq_true hn
  have S : Sim (ctx0 w I μ hp) E.nt μ I (argSlots args 0) hp { tmps := vals.toArray ++ Array.replicate (fn.ntmps - vals.toArray.size) undef, defers := [] } w := by
    refine ⟨fun n v e => ?_, H.sim, ?_, rfl, fun x hx => (by cases hx)⟩
    · obtain ⟨u, _, hu, hv⟩ := argSlots_get hr e
      rw [Nat.sub_zero] at hu
      have hlt : n < vals.toArray.size := by have := (List.getElem?_eq_some_iff.1 hu).1; simpa using this
      exact ⟨u, by rw [Array.getElem?_append_left hlt]; simpa using hu, hv⟩
    · simp only [Array.size_append, Array.size_replicate]; omega
  refine Code.wp_mono (fun e a w' q => ?_) (cwp_sound T F hm rfl (L := hp.map fun x : Nat × AO => x.1) (fun r m e => by
    simp only [ctx0, pinOf] at e
    cases ho : get hp r with
    | none => rw [ho] at e; cases e
    | some o => exact get_mem ho) c S h)
  have fin : ∀ {μ' : Mu} {I' : Nat → Prop} {s : Slots} {h' : Heap}, Sim (ctx0 w I μ hp) E.nt μ' I' s h' a w' → (resR E fn.results.toList).wp s h' (fun vs => Post (pack vs) h') → a.defers = [] ∧ ∃ v, (results fn a.tmps).run P w' = .ok v w' ∧ ∃ u v' hp' μ' I', Ending.returned v = .returned u ∧ Post v' hp' ∧ HSim (ctx0 w I μ hp) μ' I' hp' w' ∧ v'.rep μ' w' I' hp' u := by
    intro μ' I' s h' S' hq
    obtain ⟨vs, us, hP, hrs, hrun⟩ := resR_run T S' hq
    obtain ⟨u, hu, hv⟩ := results_run hrs hrun
    exact ⟨S'.defers, u, hu, u, pack vs, h', μ', I', rfl, hP, S'.heap, hv⟩
  cases e with
  | normal => obtain ⟨μ', I', s, h', S', hq⟩ := q; exact fin S' hq
  | ret => obtain ⟨μ', I', s, h', S', hq⟩ := q; exact fin S' hq
  | exit id => obtain ⟨μ', I', s, h', S', hq⟩ := q; exact hq.elim
  | _ => exact q.elim
/-! ### values without references -/
mutual
def AV.pure : AV → Bool
  | .d _ => true
  | .agg cs => AV.pures cs
  | .tup cs => AV.pures cs
  | _ => false
def AV.pures : List AV → Bool
  | [] => true
  | x :: l => match x.pure with
    | true => AV.pures l
    | false => false
end
mutual
theorem rep_pure {μ μ' : Mu} {w : World} {I : Nat → Prop} {hp hp' : Heap} : ∀ (x : AV) (v : Value), x.pure = true → x.rep μ w I hp v → x.rep μ' w I hp' v
  | .d x, v, _, h => by rw [AV.rep] at h ⊢; exact h
  | .agg xs, v, hx, h => by
    rw [AV.rep] at h ⊢
    obtain ⟨a, e, h⟩ := h
    exact ⟨a, e, reps_pure xs _ (by simpa [AV.pure] using hx) h⟩
  | .tup xs, v, hx, h => by
    rw [AV.rep] at h ⊢
    obtain ⟨a, e, h⟩ := h
    exact ⟨a, e, reps_pure xs _ (by simpa [AV.pure] using hx) h⟩
  | .rs _ _ _, _, hx, _ => by simp [AV.pure] at hx
  | .pc _ _, _, hx, _ => by simp [AV.pure] at hx
  | .pr _ _ _, _, hx, _ => by simp [AV.pure] at hx
  | .pv _ _ _ _ _, _, hx, _ => by simp [AV.pure] at hx
  | .mp _, _, hx, _ => by simp [AV.pure] at hx
  | .fn _ _ _, _, hx, _ => by simp [AV.pure] at hx
  | .ra _ _ _, _, hx, _ => by simp [AV.pure] at hx
  | .pa _ _ _, _, hx, _ => by simp [AV.pure] at hx
  | .it _, _, hx, _ => by simp [AV.pure] at hx
  | .any, _, hx, _ => by simp [AV.pure] at hx
theorem reps_pure {μ μ' : Mu} {w : World} {I : Nat → Prop} {hp hp' : Heap} : ∀ (xs : List AV) (vs : List Value), AV.pures xs = true → AV.reps μ w I hp xs vs → AV.reps μ' w I hp' xs vs
  | [], [], _, _ => trivial
  | x :: xs, v :: vs, hx, h => by
    unfold AV.pures at hx
    split at hx
    · rename_i hp1
      exact ⟨rep_pure x v hp1 h.1, reps_pure xs vs hx h.2⟩
    · cases hx
  | [], _ :: _, _, h => h.elim
  | _ :: _, [], _, h => h.elim
end
theorem HIn.nil {w : World} {I : Nat → Prop} (hI : ∀ b, I b → b < w.heap.size) (μ : Mu) : HIn μ [] w I where
  objs r o e := by cases e
  inj r r' b z z' h := by obtain ⟨o, e, _⟩ := h; cases e
  own r b z h := by obtain ⟨o, e, _⟩ := h; cases e
  imm := hI
/-- What a function without objects does: a value. -/
def VSpec (P : Program) (f : Nat) (args : List AV) (ret : AV) : Prop := LSpec P f args [] fun v _ => v = ret
theorem SummOk.pure {P : Program} {f : Nat} {g : Summ} (is : FnIs P f) (hg : ∀ args fr sl hp Φ, (g args fr).wp sl hp Φ → ∃ ret, Φ (.mk ret [] []) ∧ AV.pures args = true ∧ AV.pure ret = true ∧ VSpec P f args ret) : SummOk P f g := by
    intro G N μ I sl hp a w args vals fr dst K S hr h
    obtain ⟨ret, hK, hpa, hpr, hL⟩ := hg args fr sl hp _ h
    refine .inl ⟨is, ?_⟩
    refine (hL w I (fun _ => none) vals (HIn.nil (fun b hb => (S.heap.imm b hb).1) _) (reps_pure args vals hpa hr)).mono fun e w' q => ?_
    obtain ⟨u, v, hp', μ', I', rfl, rfl, H, hv⟩ := q
    refine ⟨u, rfl, ?_⟩
    have hsame : ∀ b, b < w.heap.size → w'.heap[b]? = w.heap[b]? := fun b hb => H.base.block b hb (fun ⟨r, z, hl, _⟩ => by obtain ⟨o, e, _⟩ := hl; cases e)
    have hIw : ∀ b, I b → w'.heap[b]? = w.heap[b]? := fun b hb => hsame b (S.heap.imm b hb).1
    have X : Ext μ I hp w μ I' hp w' := ⟨.refl _ _, H.keep, hIw⟩
    have H' : HSim G μ I' hp w' := by
      refine ⟨fun r o e => ?_, S.heap.inj, fun r b z hl e => ?_, fun b hb => ?_, ?_, S.heap.pin, fun b hb => H.keep b (S.heap.keep b hb)⟩
      · by_cases hd : o = .dead
        · subst hd; trivial
        · exact AO.rep_mono (.refl _ _) hIw H.keep rfl (fun b z e2 => hsame b (S.heap.own r b z ⟨o, e, hd⟩ e2).2.1) (S.heap.objs r o e)
      · have := S.heap.own r b z hl e
        refine ⟨fun hb => ?_, Nat.lt_of_lt_of_le this.2.1 H.base.size, this.2.2⟩
        rcases (H.imm b hb).2 with h | ⟨r', z', hl', _⟩ | h
        · exact this.1 h
        · obtain ⟨o, e, _⟩ := hl'; cases e
        · have h : w.heap.size ≤ b := h
          omega
      · have := H.imm b hb
        refine ⟨this.1, ?_⟩
        rcases this.2 with h | ⟨r', z', hl', _⟩ | h
        · exact (S.heap.imm b h).2
        · obtain ⟨o, e, _⟩ := hl'; cases e
        · exact .inr (.inr (Nat.le_trans S.heap.base.size h))
      · exact ⟨H.base.os.trans S.heap.base.os, H.base.tape.trans S.heap.base.tape, H.base.output.trans S.heap.base.output, Nat.le_trans S.heap.base.size H.base.size, fun b h1 h2 => by rw [hsame b (Nat.lt_of_lt_of_le h1 S.heap.base.size)]; exact S.heap.base.block b h1 h2⟩
    exact hK _ _ _ _ (S.next ⟨H', X⟩) (rep_pure _ _ hpr hv)
end Go.XM
