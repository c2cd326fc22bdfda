/- Texts, atoms and keys. -/
import Derived.Test.YtanfllomeheiiaaGreatDoorXM7
import Derived.Laws.StructEq
import Derived.MapKept
set_option linter.unusedVariables false
set_option linter.unusedSimpArgs false
namespace Go.XM
open RM Go.RowKit
theorem lsU_eq (s : ByteArray) : s.toList = lsU s := ByteArray.toList_eq s
theorem u8_beq (a b : UInt8) : Nat.beq a.toNat b.toNat = (a == b) := by
  cases h : Nat.beq a.toNat b.toNat with
  | true => rw [UInt8.toNat_inj.1 (Nat.eq_of_beq_eq_true h)]; simp
  | false =>
    have : a ≠ b := fun e => by rw [e] at h; simp at h
    simp [this]
theorem eqU_eq : ∀ l m : List UInt8, eqU l m = (l == m)
  | [], [] => rfl
  | [], _ :: _ => rfl
  | _ :: _, [] => rfl
  | a :: l, b :: m => by
    rw [eqU, u8_beq, List.cons_beq_cons]
    cases a == b <;> simp [eqU_eq l m]
theorem ltU_eq : ∀ l m : List UInt8, ltU l m = Op.bytesLess l m
  | [], [] => rfl
  | [], _ :: _ => rfl
  | _ :: _, [] => rfl
  | a :: l, b :: m => by
    rw [ltU, u8_beq, Op.bytesLess, ltU_eq l m]
    cases h : a == b with
    | true =>
      have : a = b := by simpa using h
      subst this
      simp
    | false =>
      simp only [Bool.false_and, Bool.or_false]
      rw [Bool.eq_iff_iff]
      simp [Nat.blt_eq, UInt8.lt_iff_toNat_lt]
theorem app_eq (x y : ByteArray) : x ++ y = ⟨⟨lsU x ++ lsU y⟩⟩ := by
  apply ByteArray.ext
  rw [ByteArray.data_append]
  apply Array.toList_inj.1
  simp
theorem ext_eq (s : ByteArray) (l h : Nat) : s.extract l h = ⟨⟨((lsU s).drop l).take (h - l)⟩⟩ := by
  apply ByteArray.ext
  rw [ByteArray.data_extract]
  apply Array.toList_inj.1
  simp [List.extract_eq_take_drop]
theorem ba_eq {x y : ByteArray} (h : lsU x = lsU y) : x = y := by
  apply ByteArray.ext
  exact Array.toList_inj.1 h
/-! ### atoms -/
theorem atEq_iff {x y : Value} {b : Bool} (h : atEq x y = some b) : b = true ↔ x = y := by
  unfold atEq at h
  split at h
  · rename_i k m k' n
    split at h
    · rename_i hk
      have hk : k = k' := by simpa using hk
      subst hk
      injection h with h
      subst h
      simp
    · cases h
  · injection h with h; subst h; simp
  · injection h with h
    subst h
    rename_i s s'
    rw [eqU_eq]
    constructor
    · intro h; exact congrArg Value.string (ba_eq (by simpa using h))
    · intro h; injection h with h; rw [h]; simp
  · cases h
theorem atsEq_iff : ∀ {xs ys : List Value} {b : Bool}, atsEq xs ys = some b → (b = true ↔ xs = ys)
  | [], [], b, h => by injection h with h; subst h; simp
  | [], _ :: _, b, h => by cases h
  | _ :: _, [], b, h => by cases h
  | x :: xs, y :: ys, b, h => by
    unfold atsEq at h
    split at h
    · rename_i b1 h1
      split at h
      · rename_i b2 h2
        injection h with h
        subst h
        rw [Bool.and_eq_true, atEq_iff h1, atsEq_iff h2, List.cons.injEq]
      · cases h
    · cases h
theorem keyEq_iff {agg : Bool} {x y : Value} {b : Bool} (h : keyEq agg x y = some b) : b = true ↔ x = y := by
  cases agg with
  | false => exact atEq_iff h
  | true =>
    unfold keyEq at h
    simp only at h
    split at h
    · refine (atsEq_iff h).trans ⟨fun e => ?_, fun e => ?_⟩
      · exact congrArg Value.agg (Array.toList_inj.1 e)
      · injection e with e; exact congrArg Array.toList e
    · cases h
section
variable {P : Program} {w : World}
theorem isAgg_at {t k : Nat} (h : atK P t = some k) : (isAgg t).run P w = .ok false w := by
  unfold atK at h
  unfold Go.isAgg
  split at h <;> first | (cases h; done) | (rename_i hu; rw [Sem.run_bind, run_underlying hu]; rfl)
theorem equal_at {d t k : Nat} {x y : Value} {b : Bool} (h : atK P t = some k) (hx : atIs k x = true) (hy : atIs k y = true) (he : atEq x y = some b) : (Op.equalIn (d + 1) t x y).run P w = .ok b w := by
  unfold atK at h
  split at h
  · rename_i q hu
    injection h with h; subst h
    cases x <;> simp [atIs] at hx
    cases y <;> simp [atIs] at hy
    rename_i k1 m k2 n
    simp only [atEq] at he
    split at he
    · rename_i hk
      have hk : k1 = k2 := by simpa using hk
      subst hk
      injection he with he; subst he
      rw [run_equalIn_int w d t k1 q m n hu]
      rfl
    · cases he
  · rename_i hu
    injection h with h; subst h
    cases x <;> simp [atIs] at hx
    cases y <;> simp [atIs] at hy
    injection he with he; subst he
    rw [run_equalIn_bool' w d t _ _ hu]
  · rename_i hu
    injection h with h; subst h
    cases x <;> simp [atIs] at hx
    cases y <;> simp [atIs] at hy
    injection he with he; subst he
    rw [run_equalIn_string w d t _ _ hu, lsU_eq, lsU_eq, eqU_eq]
  · cases h
theorem part_at {t k : Nat} {xs : Array Value} {i : Nat} {x : Value} {l : List Value} (h : atK P t = some k) (hx : xs.toList.drop i = x :: l) : (part t xs i).run P w = .ok x w := by
  have hi : xs[i]? = some x := by
    rw [← Array.getElem?_toList]
    have : (xs.toList.drop i)[0]? = some x := by rw [hx]; rfl
    rw [List.getElem?_drop] at this
    simpa using this
  simp [part, isAgg_at h, hi]
theorem eqFields_flat {d : Nat} {xs ys : Array Value} : ∀ {fs : List Field} {i : Nat} {ks : List Nat} {b : Bool}, flatFs P i fs = some ks → atsIs ks (xs.toList.drop i) = true → atsIs ks (ys.toList.drop i) = true → atsEq (xs.toList.drop i) (ys.toList.drop i) = some b → (Op.eqFields (d + 1) xs ys fs).run P w = .ok b w
  | [], i, ks, b, hf, hx, hy, he => by
    injection hf with hf; subst hf
    cases h1 : xs.toList.drop i with
    | cons => rw [h1] at hx; cases hx
    | nil =>
      cases h2 : ys.toList.drop i with
      | cons => rw [h2] at hy; cases hy
      | nil =>
        rw [h1, h2] at he
        injection he with he; subst he
        rfl
  | f :: fs, i, ks, b, hf, hx, hy, he => by
    unfold flatFs at hf
    split at hf
    · rename_i k ks' hb hk hr
      injection hf with hf; subst hf
      rw [Bool.and_eq_true] at hb
      have hn : f.name ≠ "_" := by simpa using hb.1
      have ho : f.offset = i := Nat.eq_of_beq_eq_true hb.2
      cases h1 : xs.toList.drop i with
      | nil => rw [h1] at hx; cases hx
      | cons x l =>
        cases h2 : ys.toList.drop i with
        | nil => rw [h2] at hy; cases hy
        | cons y m =>
          rw [h1] at hx; rw [h2] at hy
          rw [h1, h2] at he
          have hl : xs.toList.drop (i + 1) = l := by rw [← List.drop_drop, h1]; rfl
          have hm : ys.toList.drop (i + 1) = m := by rw [← List.drop_drop, h2]; rfl
          unfold atsIs at hx hy
          split at hx
          · rename_i hx1
            split at hy
            · rename_i hy1
              unfold atsEq at he
              split at he
              · rename_i b1 e1
                split at he
                · rename_i b2 e2
                  injection he with he; subst he
                  unfold Op.eqFields
                  simp only [hn, ne_eq, not_false_eq_true, if_true, ho, Sem.run_bind, part_at hk h1, part_at hk h2, Result.andThen_ok, equal_at hk hx1 hy1 e1]
                  cases b1 with
                  | false => simp [Sem.run_pure]
                  | true =>
                    simp only [Bool.not_true, Bool.false_eq_true, if_false, Bool.true_and]
                    exact eqFields_flat hr (by rw [hl]; exact hx) (by rw [hm]; exact hy) (by rw [hl, hm]; exact e2)
                · cases he
              · cases he
            · cases hy
          · cases hx
    · cases hf
/-- Two values of a type of atoms. -/
theorem equal_key {t : Nat} {td : TyD} (g : TyGood P t td) {x y : Value} {b : Bool} (hx : keyIs td.k.agg td.eqs x = true) (hy : keyIs td.k.agg td.eqs y = true) (he : keyEq td.k.agg x y = some b) : (Op.equal t x y).run P w = .ok b w := by
  have hu := g.und
  have ha := g.agg
  have hq := g.eqs
  cases hag : td.k.agg with
  | false =>
    rw [hag] at hx hy he ha
    rw [hq] at hx hy
    generalize g.u = u at hx hy hu ha
    have go : ∀ {k}, atK P t = some k → atIs k x = true → atIs k y = true → (Op.equal t x y).run P w = .ok b w := fun hk h1 h2 => equal_at hk h1 h2 he
    cases u with
    | int q => exact go (k := 0) (by simp [atK, hu]) hx hy
    | bool => exact go (k := 1) (by simp [atK, hu]) hx hy
    | string => exact go (k := 2) (by simp [atK, hu]) hx hy
    | struct fs => cases ha
    | _ => cases hx
  | true =>
    rw [hag] at hx hy he ha
    rw [hq] at hx hy
    generalize g.u = u at hx hy hu ha
    cases u with
    | struct fs =>
      unfold keyIs at hx hy
      simp only at hx hy
      unfold keyEq at he
      simp only at he
      cases x with
      | agg xs =>
        cases y with
        | agg ys =>
          simp only [eqsOf] at hx hy he
          cases hf : flatFs P 0 fs.toList with
          | none => rw [hf] at hx; cases hx
          | some ks =>
            rw [hf] at hx hy
            simp only at hx hy
            cases hs : (P.stoodInHeld t || P.eqGuardType P.depth t) with
            | true => rw [hs] at hx; cases hx
            | false =>
              rw [hs] at hx hy
              simp only at hx hy
              rw [Bool.or_eq_false_iff] at hs
              have hfs : P.fieldsOf t = fs := by simp [Program.fieldsOf, hu]
              show (Op.equalIn (9999 + 1) t _ _).run P w = _
              rw [run_equalIn_struct w 9999 t xs ys (by rw [hfs]; exact hu) hs.1, hfs]
              cases ks with
              | nil => cases hx
              | cons k ks => exact eqFields_flat (d := 9998) hf hx hy he
        | _ => cases hy
      | _ => cases hx
    | _ => first | (cases ha; done) | (cases hx; done) | (cases x <;> cases hx)
/-- .. and no interface within. -/
theorem guard_key {t : Nat} {td : TyD} (g : TyGood P t td) {xs : Array Value} (hx : keyIs true td.eqs (.agg xs) = true) (hag : td.k.agg = true) : P.eqGuardType P.depth t = false := by
  have ha := g.agg
  have hq := g.eqs
  rw [hag] at ha
  rw [hq] at hx
  generalize g.u = u at hx ha
  cases u with
  | struct fs =>
    unfold keyIs eqsOf at hx
    simp only at hx
    cases hf : flatFs P 0 fs.toList with
    | none => rw [hf] at hx; cases hx
    | some ks =>
      rw [hf] at hx
      simp only at hx
      cases hs : (P.stoodInHeld t || P.eqGuardType P.depth t) with
      | true => rw [hs] at hx; cases hx
      | false => exact (Bool.or_eq_false_iff.1 hs).2
  | _ => first | (cases ha; done) | (cases hx; done)
end
section
variable {μ : Mu} {I : Nat → Prop} {hp : Heap} {w : World} {sl : Slots}
theorem atoms_rep : ∀ {cs : List AV} {vs us : List Value}, atoms cs = some vs → AV.reps μ w I hp cs us → us = vs
  | [], vs, [], h, _ => by injection h
  | [], vs, _ :: _, _, h => h.elim
  | x :: cs, vs, [], _, h => h.elim
  | x :: cs, vs, u :: us, h, hr => by
    cases x with
    | d y =>
      cases y with
      | a v =>
        unfold atoms at h
        split at h
        · rename_i vs' h'
          injection h with h; subst h
          rw [atoms_rep h' hr.2]
          have := hr.1
          rw [AV.rep, D.rep] at this
          rw [this]
        · cases h
      | vs _ _ _ _ => simp [atoms] at h
    | _ => simp [atoms] at h
theorem val_rep {x : AV} {v u : Value} (h : x.val = some v) (hr : x.rep μ w I hp u) : u = v := by
  cases x with
  | d y =>
    cases y with
    | a v' => injection h with h; subst h; rw [AV.rep, D.rep] at hr; exact hr
    | vs _ _ _ _ => cases h
  | agg cs =>
    unfold AV.val at h
    simp only at h
    split at h
    · rename_i vs h'
      injection h with h; subst h
      rw [AV.rep] at hr
      obtain ⟨a, rfl, hr⟩ := hr
      have := atoms_rep h' hr
      rw [← this]
    · cases h
  | _ => cases h
theorem keyV_wp {agg : Bool} {ks : List Nat} {x : AV} {R : Value → Prop} (h : (keyV agg ks x).wp sl hp R) : ∃ v, x.val = some v ∧ keyIs agg ks v = true ∧ R v := by
  unfold keyV at h
  split at h
  · rename_i v hv
    split at h
    · rename_i hk; exact ⟨v, hv, hk, h⟩
    · exact h.elim
  · exact h.elim
end
end Go.XM
