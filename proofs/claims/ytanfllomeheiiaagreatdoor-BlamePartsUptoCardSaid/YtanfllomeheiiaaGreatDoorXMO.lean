/- The abstract machine's operations are the model's: maps. -/
import Derived.Test.YtanfllomeheiiaaGreatDoorXM11
import Derived.Carry
set_option linter.unusedVariables false
set_option linter.unusedSimpArgs false
namespace Go.XM
open RM Go.RowKit
section
variable {P : Program} {E : Env} {G : Ctx} {N : Nat} {μ : Mu} {I : Nat → Prop} {sl : Slots} {hp : Heap} {a : Act} {w : World} {K : Act → World → Prop} {Q : Exit → Act → World → Prop} {o : Oper} {d f : Nat}
/-! ### keys are found -/
/-- A key's place in a map's entries, as the model finds it. -/
structure FK (P : Program) (w : World) (kt : Nat) (k : Value) (es : List MapEntry) (i : Nat) (r : Option (Nat × Value)) : Prop where
  ask : (Instr.findAsking kt k es i).run P w = .ok r w
  now : ∀ u, Instr.findNow u k es i = some r ∨ Instr.findNow u k es i = none
theorem sameNow_key {u : TypeDesc} {agg : Bool} {x y : Value} {b : Bool} (h : keyEq agg x y = some b) : Instr.sameNow u x y = some b ∨ Instr.sameNow u x y = none := by
  have ats : ∀ {x y : Value} {b : Bool}, atEq x y = some b → Instr.sameNow u x y = some b ∨ Instr.sameNow u x y = none := by
    intro x y b h
    unfold atEq at h
    split at h
    · rename_i k m k' n
      split at h
      · rename_i hk
        have hk : k = k' := by simpa using hk
        subst hk
        injection h with h; subst h
        cases u <;> first | (right; rfl) | skip
        left
        simp [Instr.sameNow]
        exact Bool.eq_iff_iff.2 (by simp)
      · cases h
    · injection h with h; subst h
      cases u <;> first | (right; rfl) | (left; rfl)
    · injection h with h; subst h
      cases u <;> first | (right; rfl) | skip
      left
      simp only [Instr.sameNow]
      rw [beq_toListBytes, lsU_eq, lsU_eq, eqU_eq]
    · cases h
  cases agg with
  | false => exact ats h
  | true =>
    unfold keyEq at h
    simp only at h
    split at h
    · right; cases u <;> rfl
    · cases h
theorem FK.nil {kt i : Nat} {k : Value} : FK P w kt k [] i none := ⟨by simp [Instr.findAsking, Sem.run_pure], fun u => .inl rfl⟩
theorem FK.here {kt i : Nat} {k : Value} {e : MapEntry} {es : List MapEntry} {agg : Bool} (hE : (Op.equal kt k e.key).run P w = .ok true w) (hk : keyEq agg k e.key = some true) : FK P w kt k (e :: es) i (some (i, e.val)) := by
  refine ⟨by simp [Instr.findAsking, hE, Sem.run_pure], fun u => ?_⟩
  rcases sameNow_key (u := u) hk with h | h
  · left; simp [Instr.findNow, h]
  · right; simp [Instr.findNow, h]
theorem FK.there {kt i : Nat} {k : Value} {e : MapEntry} {es : List MapEntry} {agg : Bool} {r : Option (Nat × Value)} (hE : (Op.equal kt k e.key).run P w = .ok false w) (hk : keyEq agg k e.key = some false) (h : FK P w kt k es (i + 1) r) : FK P w kt k (e :: es) i r := by
  refine ⟨by simp [Instr.findAsking, hE, h.ask], fun u => ?_⟩
  rcases sameNow_key (u := u) hk with h1 | h1
  · rcases h.now u with h2 | h2
    · left; simp [Instr.findNow, h1, h2]
    · right; simp [Instr.findNow, h1, h2]
  · right; simp [Instr.findNow, h1]
theorem FK.run {kt : Nat} {u : TypeDesc} {k : Value} {es : List MapEntry} {r : Option (Nat × Value)} (hu : P.underlying kt = some u) (h : FK P w kt k es 0 r) : (Instr.findKey kt k es).run P w = .ok r w := by
  unfold Instr.findKey
  simp only [Sem.run_bind, run_underlying hu, Result.andThen]
  rcases h.now u with h1 | h1
  · rw [h1]; rfl
  · rw [h1]; exact h.ask
theorem mfind_wp {kt : Nat} {dk : TyD} {k : Value} (g : TyGood P kt dk) (hk : keyIs dk.k.agg dk.eqs k = true) : ∀ {es : List (Value × Nat × AV)} {es' : List MapEntry} {i : Nat} {R : Option (Nat × Nat × AV) → Prop}, mapRep μ w I hp es es' → (mfind dk.k.agg dk.eqs k es i).wp sl hp R →
    ∃ q, R q ∧ ((q = none ∧ FK P w kt k es' i none) ∨ ∃ j e v, q = some (i + j, e.born, v) ∧ es[j]? = some (k, e.born, v) ∧ es'[j]? = some e ∧ e.key = k ∧ v.rep μ w I hp e.val ∧ FK P w kt k es' i (some (i + j, e.val)))
  | [], [], i, R, _, h => ⟨none, h, .inl ⟨rfl, .nil⟩⟩
  | [], _ :: _, _, _, h, _ => h.elim
  | _ :: _, [], _, _, h, _ => h.elim
  | (k', b, v) :: es, e :: es', i, R, hr, h => by
    obtain ⟨⟨e1, e2, e3⟩, hr⟩ := hr
    unfold mfind at h
    split at h
    · rename_i hk'
      split at h
      · rename_i x hx
        subst e1
        have hE := equal_key (P := P) (w := w) g hk hk' hx
        cases x with
        | true =>
          have ek := (keyEq_iff hx).1 rfl
          refine ⟨_, Br.t (show Br _ _ _ from h) rfl, .inr ⟨0, e, v, by rw [← e2]; rfl, by rw [← e2, ek]; rfl, rfl, ek.symm, e3, FK.here hE hx⟩⟩
        | false =>
          obtain ⟨q, hq, h⟩ := mfind_wp g hk hr (Br.f (show Br _ _ _ from h) rfl)
          refine ⟨q, hq, ?_⟩
          rcases h with ⟨rfl, h⟩ | ⟨j, e', v', rfl, h1, h2, h3, h4, h⟩
          · exact .inl ⟨rfl, .there hE hx h⟩
          · refine .inr ⟨j + 1, e', v', by rw [Nat.add_assoc, Nat.add_comm 1 j], h1, h2, h3, h4, ?_⟩
            have := FK.there (agg := dk.k.agg) hE hx h
            rw [Nat.add_assoc, Nat.add_comm 1 j] at this
            exact this
      · exact h.elim
    · exact h.elim
theorem atIs_same {k n : Nat} {v : Value} (h : atIs k v = true) : Instr.sameBits n v v = true := by
  cases v <;> simp [atIs] at h <;> simp [Instr.sameBits]
  rw [beq_toListBytes]; simp
theorem atsIs_same {n : Nat} : ∀ {ks : List Nat} {vs : List Value}, atsIs ks vs = true → ((vs.zip vs).all fun (x, y) => Instr.sameBits n x y) = true
  | [], [], _ => rfl
  | [], _ :: _, h => by cases h
  | _ :: _, [], h => by cases h
  | k :: ks, v :: vs, h => by
    unfold atsIs at h
    split at h
    · rename_i h1
      rw [List.zip_cons_cons, List.all_cons, atsIs_same h]
      simp [atIs_same h1]
    · cases h
theorem same_key {agg : Bool} {ks : List Nat} {v : Value} (h : keyIs agg ks v = true) : Instr.sameBits 10000 v v = true := by
  unfold keyIs at h
  cases agg with
  | false =>
    simp only at h
    split at h
    · exact atIs_same h
    · cases h
  | true =>
    simp only at h
    split at h
    · split at h
      · cases h
      · unfold Instr.sameBits
        rw [beq_self_eq_true, Bool.true_and]
        exact atsIs_same h
    · cases h
theorem stays {k old : Value} (h : Instr.sameBits 10000 k k = true) (e : old = k) : (Instr.keyThatStays old k).run P w = .ok k w := by
  subst e
  simp [Instr.keyThatStays, h, Sem.run_pure]
theorem forIn_yield {α : Type} {body : α → PUnit → Sem (ForInStep PUnit)} : ∀ {l : List α}, (∀ x ∈ l, (body x ⟨⟩).run P w = .ok (.yield ⟨⟩) w) → (forIn l PUnit.unit body).run P w = .ok ⟨⟩ w
  | [], _ => by simp [Sem.run_pure]
  | x :: l, h => by
    simp only [List.forIn_cons, Sem.run_bind, h x (List.mem_cons_self ..), Result.andThen]
    exact forIn_yield fun y hy => h y (List.mem_cons_of_mem _ hy)
theorem flat_all {cs : Array Value} : ∀ {fs : List Field} {i : Nat} {ks : List Nat}, flatFs P i fs = some ks → atsIs ks (cs.toList.drop i) = true → ∀ f ∈ fs, f.name ≠ "_" ∧ ∃ k x l, atK P f.type = some k ∧ cs.toList.drop f.offset = x :: l
  | [], _, _, _, _, _, h => by cases h
  | f :: fs, i, ks, hf, hx, q, hq => by
    unfold flatFs at hf
    split at hf
    · rename_i k ks' hb hk hr
      injection hf with hf; subst hf
      rw [Bool.and_eq_true] at hb
      have hn : f.name ≠ "_" := by simpa using hb.1
      have ho : f.offset = i := Nat.eq_of_beq_eq_true hb.2
      cases h1 : cs.toList.drop i with
      | nil => rw [h1] at hx; cases hx
      | cons x l =>
        rw [h1] at hx
        have hl : cs.toList.drop (i + 1) = l := by rw [← List.drop_drop, h1]; rfl
        unfold atsIs at hx
        split at hx
        · rcases List.mem_cons.1 hq with rfl | hq
          · exact ⟨hn, k, x, l, hk, by rw [ho]; exact h1⟩
          · exact flat_all hr (by rw [hl]; exact hx) q hq
        · cases hx
    · cases hf
theorem check_at {t k n : Nat} {em : Bool} {x : Value} (h : atK P t = some k) : (Instr.checkKey em (n + 1) t x).run P w = .ok () w := by
  unfold atK at h
  unfold Instr.checkKey
  split at h <;> first | (cases h; done) | (rename_i hu; simp only [Sem.run_bind, run_underlying hu, Result.andThen]; cases x <;> rfl)
/-- A key's type asks nothing more. -/
theorem check_key {kt : Nat} {dk : TyD} {k : Value} {em : Bool} (g : TyGood P kt dk) (hk : keyIs dk.k.agg dk.eqs k = true) : (Instr.checkKey em 10000 kt k).run P w = .ok () w := by
  have hu := g.und
  have ha := g.agg
  have hq := g.eqs
  rw [hq] at hk
  generalize g.u = u at hk hu ha
  unfold Instr.checkKey
  simp only [Sem.run_bind, run_underlying hu, Result.andThen]
  cases u with
  | struct fs =>
    have ht : dk.k.agg = true := ha.symm
    rw [ht] at hk
    unfold keyIs at hk
    simp only [eqsOf] at hk
    cases k with
    | agg cs =>
      cases hf : flatFs P 0 fs.toList with
      | none => rw [hf] at hk; cases hk
      | some ks =>
        simp only [hf] at hk
        cases hs : (P.stoodInHeld kt || P.eqGuardType P.depth kt) with
        | true => rw [hs] at hk; cases hk
        | false =>
          rw [hs] at hk
          simp only at hk
          have hk : atsIs ks (cs.toList.drop 0) = true := by
            cases ks with
            | nil => cases hk
            | cons => exact hk
          have := flat_all hf hk
          simp only [← Array.forIn_toList]
          have hfor := forIn_yield (P := P) (w := w) (body := fun (f : Field) (_ : PUnit) => if f.name ≠ "_" then (do let x ← part f.type cs f.offset; Instr.checkKey em 9999 f.type x; Pure.pure (ForInStep.yield PUnit.unit)) else Pure.pure (ForInStep.yield PUnit.unit)) (l := fs.toList) (fun q hq => by
            obtain ⟨hn, k, x, l, hk, hx⟩ := this q hq
            simp [hn, part_at hk hx, check_at hk, Sem.run_pure])
          rw [Sem.run_bind]
          erw [hfor]
          rfl
    | _ => cases hk
  | int q => cases k <;> rfl
  | bool => cases k <;> rfl
  | string => cases k <;> rfl
  | _ => exfalso; simp only [eqsOf] at hk; revert hk; cases dk.k.agg <;> cases k <;> simp [keyIs]
/-! ### the operations -/
theorem keyTy_wp {t : Nat} {R : TyD × TyD → Prop} (T : TyOk P E.tt) (h : (keyTy E t).wp sl hp R) : ∃ kt et dk de, P.underlying t = some (.map kt et) ∧ R (dk, de) ∧ Nonempty (TyGood P kt dk) ∧ Nonempty (TyGood P et de) := by
  unfold keyTy at h
  rw [wp_bind] at h
  obtain ⟨td, ht, h⟩ := ty_wp h
  obtain ⟨g⟩ := T.good ht
  have hk := g.k
  have hu := g.und
  split at h
  · rename_i kt et e
    rw [e] at hk
    rw [wp_bind] at h
    obtain ⟨dk, h1, h⟩ := ty_wp h
    rw [wp_bind] at h
    obtain ⟨de, h2, h⟩ := ty_wp h
    exact ⟨kt, et, dk, de, by rw [hu, hk], h, T.good h1, T.good h2⟩
  · exact h.elim
theorem mapAt_wp {m : AV} {q : Nat → List (Value × Nat × AV) → Nat → RM Eff} {R : Eff → Prop} (h : (mapAt m q).wp sl hp R) : ∃ r es c, m = .mp r ∧ get hp r = some (.map es c) ∧ (q r es c).wp sl hp R := by
  unfold mapAt at h
  split at h
  · obtain ⟨ob, e, h⟩ := obj_wp h
    split at h
    · exact ⟨_, _, _, rfl, e, h⟩
    · exact h.elim
  · exact h.elim
/-- A map is turned. -/
theorem Then.turn {v : AV} {u : Value} {r b z c c2 : Nat} {es es2 : List (Value × Nat × AV)} {es' es2' : Array MapEntry} {dst : Option Tmp} (S : Sim G N μ I sl hp a w) (h : Then G N sl a dst K hp (.mk v [(r, .map es2 c2)] [])) (hr : get hp r = some (.map es c)) (hm : μ r = some (b, z)) (hh : w.heap[b]? = some (.map es' c)) (hrep : mapRep μ w I hp es2 es2'.toList) (hv : v.rep μ w I hp u) : K (a.put dst u) { w with heap := w.heap.setIfInBounds b (.map es2' c2) } := by
  have hlt := (Array.getElem?_eq_some_iff.1 hh).1
  have H := S.heap.turn (o' := .map es2 c2) (w' := { w with heap := w.heap.setIfInBounds b (.map es2' c2) }) hr (by simp) trivial hm ⟨rfl, rfl, rfl⟩ (by simp) (fun k hk => by simp [Ne.symm hk]) (fun X => ⟨b, z, es2', hm, by simp [hlt], mapRep_mono X.le X.same X.imm _ _ hrep⟩)
  exact h μ I u _ (S.next H) (H.2.rep hv)
theorem op_makeMap {t : Nat} {r : Option Operand} (ho : o.op = .makeMap t r) (T : TyOk P E.tt) (S : Sim G N μ I sl hp a w) (h : (step E d f (.makeMap t r)).wp sl hp (Then G N sl a o.dst K hp)) : o.wp P a w K Q := by
  unfold step at h
  rw [wp_bind] at h
  have fin : ((execOp a.eval o).run P w = .ok (.value (.map (some w.heap.size))) (w.alloc (.map #[] 0))) → Then G N sl a o.dst K hp (.mk (.mp f) [] [(f, .map [] 0)]) → o.wp P a w K Q := fun hrun h =>
    upV hrun (Then.new (z := 0) S h ⟨rfl, rfl, rfl⟩ rfl (fun X => ⟨w.heap.size, 0, #[], upd_same _ _ _, heap_push_self _ _, trivial⟩) (fun X => by
      rw [AV.rep]
      exact ⟨_, rfl, _, by rw [get_cons, if_pos rfl], fun es c _ => ⟨0, upd_same _ _ _⟩⟩))
  cases r with
  | none => exact fin (by simp [execOp, ho, run_makeMap]) h
  | some x =>
    simp only [oopd] at h
    rw [wp_bind] at h
    obtain ⟨v, h, hv⟩ := opd_wp S.slots h
    have h : ((keyTy E t).bind _).wp sl hp _ := h
    rw [wp_bind] at h
    obtain ⟨kt, et, dk, de, hu, h, _, _⟩ := keyTy_wp T h
    rw [wp_bind] at h
    obtain ⟨k, n, rfl, h⟩ := asI_wp h
    refine fin ?_ h
    have e := rep_a hv
    simp [execOp, ho, e, Instr.makeMap, run_und hu, asInt, asIntOf, Sem.run_bind, newObj]
    rfl
theorem zero_rep {t : Nat} {td : TyD} {z : AV} (g : TyGood P t td) (h : (td.k.agg = true ∧ z = .agg (td.zero.map av)) ∨ (td.k.agg = false ∧ td.zero.map av = [z])) : z.rep μ w I hp g.z := by
  have hc := g.cells
  have ha := g.zagg
  generalize g.z = y at hc ha
  rcases h with ⟨hb, rfl⟩ | ⟨hb, e⟩
  · rw [hb] at ha
    cases y with
    | agg cs =>
      rw [AV.rep]
      refine ⟨cs, rfl, ?_⟩
      have : cs.toList = td.zero := hc
      rw [this]
      exact reps_atoms _
    | _ => cases ha
  · rw [hb] at ha
    have hy : y.cells = #[y] := by cases y <;> first | rfl | cases ha
    rw [hy] at hc
    rw [← hc] at e
    injection e with e
    subst e
    exact a_rep _
theorem run_lookupK {t kt et : Nat} {k v z : Value} {ok : Bool} {es : Array MapEntry} {r : Option (Nat × Value)} (hu : P.underlying t = some (.map kt et)) (hes : (v = .map none ∧ es = #[]) ∨ ∃ b c, v = .map (some b) ∧ w.heap[b]? = some (.map es c)) (hck : ∀ em, (Instr.checkKey em 10000 kt k).run P w = .ok () w) (hF : (Instr.findKey kt k es.toList).run P w = .ok r w) (hz : (zeroValue et).run P w = .ok z w) :
    (Instr.lookup t v k ok).run P w = .ok (match r with | some (_, y) => if ok then .tuple #[y, .bool true] else y | none => if ok then .tuple #[z, .bool false] else z) w := by
  rcases hes with ⟨rfl, rfl⟩ | ⟨b, c, rfl, hh⟩
  · cases r <;> cases ok <;> simp [Instr.lookup, run_und hu, hck, hF, hz]
  · cases r <;> cases ok <;> simp [Instr.lookup, run_und hu, getMap hh, hck, hF, hz]
theorem op_lookup {t : Nat} {x i : Operand} {ok : Bool} (ho : o.op = .lookup t x i ok) (T : TyOk P E.tt) (S : Sim G N μ I sl hp a w) (h : (step E d f (.lookup t x i ok)).wp sl hp (Then G N sl a o.dst K hp)) : o.wp P a w K Q := by
  unfold step at h
  rw [wp_bind] at h
  obtain ⟨vx, h, hvx⟩ := opd_wp S.slots h
  rw [wp_bind] at h
  obtain ⟨vi, h, hvi⟩ := opd_wp S.slots h
  rw [wp_bind] at h
  obtain ⟨kt, et, dk, de, hu, h, ⟨gk⟩, ⟨ge⟩⟩ := keyTy_wp T h
  rw [wp_bind] at h
  obtain ⟨k, hk1, hk2, h⟩ := keyV_wp h
  rw [wp_bind] at h
  obtain ⟨es, h, hes⟩ := mapEs_wp S.heap hvx h
  rw [wp_bind] at h
  have ek := val_rep hk1 hvi
  have ⟨es', hes', hrep⟩ : ∃ es' : Array MapEntry, ((a.eval x = .map none ∧ es' = #[]) ∨ ∃ b c, a.eval x = .map (some b) ∧ w.heap[b]? = some (.map es' c)) ∧ mapRep μ w I hp es es'.toList := by
    rcases hes with ⟨e, rfl⟩ | ⟨b, es', c, e, hh, hr⟩
    · exact ⟨#[], .inl ⟨e, rfl⟩, trivial⟩
    · exact ⟨es', .inr ⟨b, c, e, hh⟩, hr⟩
  obtain ⟨q, h, hq⟩ := mfind_wp gk hk2 hrep h
  have hck : ∀ em, (Instr.checkKey em 10000 kt k).run P w = .ok () w := fun em => check_key gk hk2
  rcases hq with ⟨rfl, hF⟩ | ⟨j, e, v, rfl, _, _, _, hv, hF⟩
  · have h : ((wrapT _ _).bind _).wp sl hp _ := h
    rw [wp_bind] at h
    have hF := hF.run gk.und
    have hz := ge.zeroValue w
    obtain ⟨z, h, hz2⟩ : ∃ z, (match ok with
      | true => RM.pure (Eff.mk (.tup [z, av (.bool false)]) [] [])
      | false => RM.pure (Eff.mk z [] []) : RM Eff).wp sl hp (Then G N sl a o.dst K hp) ∧ z.rep μ w I hp ge.z := by
      rcases wrapT_wp h with ⟨hb, h⟩ | ⟨hb, z, ez, h⟩
      · exact ⟨_, h, zero_rep ge (.inl ⟨hb, rfl⟩)⟩
      · exact ⟨_, h, zero_rep ge (.inr ⟨hb, ez⟩)⟩
    cases ok with
    | true =>
      refine upV (u := .tuple #[ge.z, .bool false]) (w' := w) ?_ (h μ I _ w S (by rw [AV.rep]; exact ⟨_, rfl, hz2, a_rep _, trivial⟩))
      simp [execOp, ho, ek, run_lookupK hu hes' hck hF hz]
    | false =>
      refine upV (u := ge.z) (w' := w) ?_ (h μ I _ w S hz2)
      simp [execOp, ho, ek, run_lookupK hu hes' hck hF hz]
  · have hF := hF.run gk.und
    cases ok with
    | true =>
      refine upV (u := .tuple #[e.val, .bool true]) (w' := w) ?_ (h μ I _ w S (by rw [AV.rep]; exact ⟨_, rfl, hv, a_rep _, trivial⟩))
      simp [execOp, ho, ek, run_lookupK hu hes' hck hF (ge.zeroValue w)]
    | false =>
      refine upV (u := e.val) (w' := w) ?_ (h μ I _ w S hv)
      simp [execOp, ho, ek, run_lookupK hu hes' hck hF (ge.zeroValue w)]
/-! ### maps turned -/
def entRep (μ : Mu) (w : World) (I : Nat → Prop) (hp : Heap) (y : Value × Nat × AV) (e : MapEntry) : Prop := e.key = y.1 ∧ e.born = y.2.1 ∧ y.2.2.rep μ w I hp e.val
theorem mapRep_modify {g : MapEntry → MapEntry} {y : Value × Nat × AV} : ∀ {es : List (Value × Nat × AV)} {es' : List MapEntry} {j : Nat} {e : MapEntry}, mapRep μ w I hp es es' → es'[j]? = some e → entRep μ w I hp y (g e) → mapRep μ w I hp (es.set j y) (es'.modify j g)
  | [], [], _, _, _, h, _ => by cases h
  | [], _ :: _, _, _, h, _, _ => h.elim
  | _ :: _, [], _, _, h, _, _ => h.elim
  | x :: es, e' :: es', 0, e, h, he, hy => by
    injection he with he; subst he
    exact ⟨hy, h.2⟩
  | x :: es, e' :: es', j + 1, e, h, he, hy => ⟨h.1, mapRep_modify h.2 he hy⟩
theorem mapRep_push {y : Value × Nat × AV} {e : MapEntry} (hy : entRep μ w I hp y e) : ∀ {es : List (Value × Nat × AV)} {es' : List MapEntry}, mapRep μ w I hp es es' → mapRep μ w I hp (es ++ [y]) (es' ++ [e])
  | [], [], _ => ⟨hy, trivial⟩
  | [], _ :: _, h => h.elim
  | _ :: _, [], h => h.elim
  | x :: es, e' :: es', h => ⟨h.1, mapRep_push hy h.2⟩
theorem mapRep_erase : ∀ {es : List (Value × Nat × AV)} {es' : List MapEntry} {j : Nat}, mapRep μ w I hp es es' → mapRep μ w I hp (es.eraseIdx j) (es'.eraseIdx j)
  | [], [], _, _ => trivial
  | [], _ :: _, _, h => h.elim
  | _ :: _, [], _, h => h.elim
  | x :: es, e' :: es', 0, h => h.2
  | x :: es, e' :: es', j + 1, h => ⟨h.1, mapRep_erase h.2⟩
theorem op_put {t : Nat} {m k x : Operand} (ho : o.op = .mapUpdate t m k x ∨ o.op = .insert t m k x) (T : TyOk P E.tt) (S : Sim G N μ I sl hp a w) (h : (step E d f (.mapUpdate t m k x)).wp sl hp (Then G N sl a o.dst K hp)) : o.wp P a w K Q := by
  unfold step at h
  rw [wp_bind] at h
  obtain ⟨vm, h, hvm⟩ := opd_wp S.slots h
  rw [wp_bind] at h
  obtain ⟨vk, h, hvk⟩ := opd_wp S.slots h
  rw [wp_bind] at h
  obtain ⟨vx, h, hvx⟩ := opd_wp S.slots h
  rw [wp_bind] at h
  obtain ⟨kt, et, dk, de, hu, h, ⟨gk⟩, _⟩ := keyTy_wp T h
  rw [wp_bind] at h
  obtain ⟨kv, hk1, hk2, h⟩ := keyV_wp h
  obtain ⟨r, es, c, rfl, hr, h⟩ := mapAt_wp h
  obtain ⟨b, z, es', em, hm, hh, hrep⟩ := mp_wp S.heap hvm hr
  rw [wp_bind] at h
  obtain ⟨q, h, hq⟩ := mfind_wp gk hk2 hrep h
  have ek := val_rep hk1 hvk
  have hck : ∀ em, (Instr.checkKey em 10000 kt kv).run P w = .ok () w := fun em => check_key gk hk2
  have hs := same_key hk2
  have ex : ∀ {w' : World}, (Instr.mapUpdate t (a.eval m) (a.eval k) (a.eval x)).run P w = .ok () w' → (execOp a.eval o).run P w = .ok .skip w' := fun {w'} hrun => by
    rcases ho with ho | ho <;> simp [execOp, ho, hrun]
  rcases hq with ⟨rfl, hF⟩ | ⟨j, e, v, rfl, _, he, ek2, hv, hF⟩
  · have hF := hF.run gk.und
    refine upS (w' := { w with heap := w.heap.setIfInBounds b (.map (es'.push { key := kv, val := a.eval x, born := c }) (c + 1)) }) (ex ?_) (Then.turn S h hr hm hh (by rw [Array.toList_push]; exact mapRep_push ⟨rfl, rfl, hvx⟩ hrep) undef_rep)
    rw [em, ek]
    simp [Instr.mapUpdate, run_und hu, getMap hh, hck, hF, setMap _ hh]
  · have hF := hF.run gk.und
    rw [Nat.zero_add] at hF
    have he' : es'[j]? = some e := by rw [← Array.getElem?_toList]; exact he
    have hst := stays (P := P) (w := w) hs ek2
    refine upS (w' := { w with heap := w.heap.setIfInBounds b (.map (es'.modify j fun e => { e with key := kv, val := a.eval x }) c) }) (ex ?_) (Then.turn S h hr hm hh (by rw [Array.toList_modify, Nat.zero_add]; exact mapRep_modify hrep he ⟨rfl, rfl, hvx⟩) undef_rep)
    rw [em, ek]
    simp [Instr.mapUpdate, run_und hu, getMap hh, hck, hF, he', hst, setMap _ hh]
theorem op_mapEntry {t : Nat} {m k : Operand} (ho : o.op = .mapEntry t m k) (T : TyOk P E.tt) (S : Sim G N μ I sl hp a w) (h : (step E d f (.mapEntry t m k)).wp sl hp (Then G N sl a o.dst K hp)) : o.wp P a w K Q := by
  unfold step at h
  rw [wp_bind] at h
  obtain ⟨vm, h, hvm⟩ := opd_wp S.slots h
  rw [wp_bind] at h
  obtain ⟨vk, h, hvk⟩ := opd_wp S.slots h
  rw [wp_bind] at h
  obtain ⟨kt, et, dk, de, hu, h, ⟨gk⟩, ⟨ge⟩⟩ := keyTy_wp T h
  rw [wp_bind] at h
  obtain ⟨kv, hk1, hk2, h⟩ := keyV_wp h
  obtain ⟨r, es, c, rfl, hr, h⟩ := mapAt_wp h
  obtain ⟨b, z, es', em, hm, hh, hrep⟩ := mp_wp S.heap hvm hr
  rw [wp_bind] at h
  obtain ⟨q, h, hq⟩ := mfind_wp gk hk2 hrep h
  have ek := val_rep hk1 hvk
  have hck : ∀ em, (Instr.checkKey em 10000 kt kv).run P w = .ok () w := fun em => check_key gk hk2
  have hs := same_key hk2
  rcases hq with ⟨rfl, hF⟩ | ⟨j, e, v, rfl, _, he, ek2, hv, hF⟩
  · have hF := hF.run gk.und
    have h : ((wrapT _ _).bind _).wp sl hp _ := h
    rw [wp_bind] at h
    obtain ⟨y, h, hy⟩ : ∃ y : AV, Then G N sl a o.dst K hp (.mk (.tup [y, av (.int .i64 c)]) [(r, .map (es ++ [(kv, c, y)]) (c + 1))] []) ∧ y.rep μ w I hp ge.z := by
      rcases wrapT_wp h with ⟨hb, h⟩ | ⟨hb, z, ez, h⟩
      · exact ⟨_, h, zero_rep ge (.inl ⟨hb, rfl⟩)⟩
      · exact ⟨_, h, zero_rep ge (.inr ⟨hb, ez⟩)⟩
    refine upV (u := .tuple #[ge.z, .int .i64 c]) (w' := { w with heap := w.heap.setIfInBounds b (.map (es'.push { key := kv, val := ge.z, born := c }) (c + 1)) }) ?_ (Then.turn S h hr hm hh (by rw [Array.toList_push]; exact mapRep_push ⟨rfl, rfl, hy⟩ hrep) (by rw [AV.rep]; exact ⟨_, rfl, hy, a_rep _, trivial⟩))
    simp [execOp, ho, em, ek, Instr.mapEntry, run_und hu, getMap hh, hck, hF, ge.zeroValue, setMap _ hh, goInt]
  · have hF := hF.run gk.und
    rw [Nat.zero_add] at hF
    have he' : es'[j]? = some e := by rw [← Array.getElem?_toList]; exact he
    have hst := stays (P := P) (w := w) hs ek2
    refine upV (u := .tuple #[e.val, .int .i64 e.born]) (w' := { w with heap := w.heap.setIfInBounds b (.map (es'.modify j fun e => { e with key := kv }) c) }) ?_ (Then.turn S h hr hm hh (by rw [Array.toList_modify, Nat.zero_add]; exact mapRep_modify hrep he ⟨rfl, rfl, hv⟩) (by rw [AV.rep]; exact ⟨_, rfl, hv, a_rep _, trivial⟩))
    simp [execOp, ho, em, ek, Instr.mapEntry, run_und hu, getMap hh, hck, hF, he', hst, setMap _ hh, goInt]
theorem mstamp_wp {st : Int} : ∀ {es : List (Value × Nat × AV)} {es' : List MapEntry} {i : Nat} {R : Nat × Value → Prop}, mapRep μ w I hp es es' → (mstamp st es i).wp sl hp R → ∃ j e, R (i + j, e.key) ∧ es'[j]? = some e ∧ (e.born : Int) = st ∧ es'.findIdx? (fun e => (e.born : Int) == st) = some j
  | [], [], _, _, _, h => h.elim
  | [], _ :: _, _, _, h, _ => h.elim
  | _ :: _, [], _, _, h, _ => h.elim
  | (k, b, v) :: es, e :: es', i, R, hr, h => by
    unfold mstamp at h
    obtain ⟨⟨e1, e2, e3⟩, hr⟩ := hr
    by_cases hb : (b : Int) = st
    · refine ⟨0, e, ?_, rfl, by rw [e2]; exact hb, by simp [List.findIdx?_cons, e2, hb]⟩
      have := Br.t (show Br _ _ _ from h) (decide_eq_true hb)
      rw [e1]
      exact this
    · have h := Br.f (show Br _ _ _ from h) (decide_eq_false hb)
      obtain ⟨j, e', hR, h1, h2, h3⟩ := mstamp_wp hr h
      refine ⟨j + 1, e', by rw [Nat.add_comm j 1, ← Nat.add_assoc]; exact hR, h1, h2, ?_⟩
      rw [List.findIdx?_cons]
      simp [e2, hb, h3]
theorem op_entryStore {t : Nat} {m s x : Operand} (ho : o.op = .entryStore t m s x) (S : Sim G N μ I sl hp a w) (h : (step E d f (.entryStore t m s x)).wp sl hp (Then G N sl a o.dst K hp)) : o.wp P a w K Q := by
  unfold step at h
  rw [wp_bind] at h
  obtain ⟨vm, h, hvm⟩ := opd_wp S.slots h
  rw [wp_bind] at h
  obtain ⟨vs, h, hvs⟩ := opd_wp S.slots h
  rw [wp_bind] at h
  obtain ⟨vx, h, hvx⟩ := opd_wp S.slots h
  rw [wp_bind] at h
  obtain ⟨sk, st, rfl, h⟩ := asI_wp h
  obtain ⟨r, es, c, rfl, hr, h⟩ := mapAt_wp h
  obtain ⟨b, z, es', em, hm, hh, hrep⟩ := mp_wp S.heap hvm hr
  rw [wp_bind] at h
  obtain ⟨j, e, h, he, hb, hj⟩ := mstamp_wp hrep h
  rw [Nat.zero_add] at h
  have es := rep_a hvs
  have hj' : es'.findIdx? (fun e => (e.born : Int) == st) = some j := by obtain ⟨l⟩ := es'; simpa using hj
  refine upS (w' := { w with heap := w.heap.setIfInBounds b (.map (es'.modify j fun e => { e with val := a.eval x }) c) }) ?_ (Then.turn S h hr hm hh (by rw [Array.toList_modify]; exact mapRep_modify hrep he ⟨rfl, (show e.born = st.toNat by omega), hvx⟩) undef_rep)
  simp [execOp, ho, em, es, Instr.entryStore, getMap hh, asInt, asIntOf, hj', setMap _ hh]
end
end Go.XM
