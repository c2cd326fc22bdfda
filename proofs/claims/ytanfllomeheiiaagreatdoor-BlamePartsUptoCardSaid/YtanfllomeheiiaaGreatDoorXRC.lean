/- What calls came to, kept: records of the executor's runs. -/
import Derived.Test.YtanfllomeheiiaaGreatDoorXY
set_option linter.unusedVariables false
set_option linter.unusedSimpArgs false
namespace Go.XM
open RM Go.RowKit
/-! ### alike -/
def eqV0 : Value → Value → Bool
  | .bool a, .bool b => match a, b with
    | true, true => true
    | false, false => true
    | _, _ => false
  | .int k m, .int k' n => match decide (k = k') with
    | true => decide (m = n)
    | false => false
  | .string a, .string b => eqU (lsU a) (lsU b)
  | .pointer none, .pointer none => true
  | .pointer (some ⟨b, o, none⟩), .pointer (some ⟨b', o', none⟩) => Nat.beq b b' && Nat.beq o o'
  | .slice none 0 0, .slice none 0 0 => true
  | .map none, .map none => true
  | .nilFunc, .nilFunc => true
  | .nilIface, .nilIface => true
  | .tuple ⟨[]⟩, .tuple ⟨[]⟩ => true
  | _, _ => false
def eqVs : List Value → List Value → Bool
  | [], [] => true
  | x :: xs, y :: ys => match eqV0 x y with
    | true => eqVs xs ys
    | false => false
  | _, _ => false
def eqV : Value → Value → Bool
  | .agg a, .agg b => eqVs a.toList b.toList
  | x, y => eqV0 x y
theorem beqN {a b : Nat} (h : Nat.beq a b = true) : a = b := Nat.eq_of_beq_eq_true h
theorem eqV0_eq {x y : Value} (h : eqV0 x y = true) : x = y := by
  unfold eqV0 at h
  split at h <;> first
    | rfl
    | (cases h; done)
    | skip
  · rename_i a b
    cases a <;> cases b <;> first | rfl | cases h
  · rename_i k m k' n
    split at h
    · rename_i hk
      rw [of_decide_eq_true hk, of_decide_eq_true h]
    · cases h
  · rename_i a b
    exact congrArg Value.string (ba_eq (by simpa [eqU_eq] using h))
  · rw [Bool.and_eq_true] at h
    rw [beqN h.1, beqN h.2]
theorem eqVs_eq : ∀ {xs ys : List Value}, eqVs xs ys = true → xs = ys
  | [], [], _ => rfl
  | [], _ :: _, h => by cases h
  | _ :: _, [], h => by cases h
  | x :: xs, y :: ys, h => by
    unfold eqVs at h
    split at h
    · rename_i h1; rw [eqV0_eq h1, eqVs_eq h]
    · cases h
theorem eqV_eq {x y : Value} (h : eqV x y = true) : x = y := by
  unfold eqV at h
  split at h
  · exact congrArg Value.agg (Array.toList_inj.1 (eqVs_eq h))
  · exact eqV0_eq h
mutual
def eqA : AV → AV → Bool
  | .d (.a u), y => match y with
    | .d (.a v) => eqV u v
    | _ => false
  | .pc r j, y => match y with
    | .pc r' j' => Nat.beq r r' && Nat.beq j j'
    | _ => false
  | .mp r, y => match y with
    | .mp r' => Nat.beq r r'
    | _ => false
  | .ra r o l, y => match y with
    | .ra r' o' l' => Nat.beq r r' && (Nat.beq o o' && Nat.beq l l')
    | _ => false
  | .pa r i j, y => match y with
    | .pa r' i' j' => Nat.beq r r' && (Nat.beq i i' && Nat.beq j j')
    | _ => false
  | .fn (.func f) a b, y => match y with
    | .fn (.func f') a' b' => Nat.beq f f' && (eqAs a a' && eqAs b b')
    | _ => false
  | .agg a, y => match y with
    | .agg b => eqAs a b
    | _ => false
  | .tup a, y => match y with
    | .tup b => eqAs a b
    | _ => false
  | .any, y => match y with
    | .any => true
    | _ => false
  | _, _ => false
def eqAs : List AV → List AV → Bool
  | [], [] => true
  | x :: xs, y :: ys => match eqA x y with
    | true => eqAs xs ys
    | false => false
  | _, _ => false
end
mutual
theorem eqA_eq : ∀ (x y : AV), eqA x y = true → x = y
  | .d (.a u), y, h => by
    unfold eqA at h
    split at h
    · rw [eqV_eq h]
    · cases h
  | .pc r j, y, h => by
    unfold eqA at h
    split at h
    · rw [Bool.and_eq_true] at h; rw [beqN h.1, beqN h.2]
    · cases h
  | .mp r, y, h => by
    unfold eqA at h
    split at h
    · rw [beqN h]
    · cases h
  | .ra r o l, y, h => by
    unfold eqA at h
    split at h
    · rw [Bool.and_eq_true, Bool.and_eq_true] at h; rw [beqN h.1, beqN h.2.1, beqN h.2.2]
    · cases h
  | .pa r i j, y, h => by
    unfold eqA at h
    split at h
    · rw [Bool.and_eq_true, Bool.and_eq_true] at h; rw [beqN h.1, beqN h.2.1, beqN h.2.2]
    · cases h
  | .fn (.func f) a b, y, h => by
    unfold eqA at h
    split at h
    · rw [Bool.and_eq_true, Bool.and_eq_true] at h; rw [beqN h.1, eqAs_eq _ _ h.2.1, eqAs_eq _ _ h.2.2]
    · cases h
  | .agg a, y, h => by
    unfold eqA at h
    split at h
    · rw [eqAs_eq _ _ h]
    · cases h
  | .tup a, y, h => by
    unfold eqA at h
    split at h
    · rw [eqAs_eq _ _ h]
    · cases h
  | .any, y, h => by
    unfold eqA at h
    split at h
    · rfl
    · cases h
  | .d (.vs _ _ _ _), _, h => by cases h
  | .rs _ _ _, _, h => by cases h
  | .pr _ _ _, _, h => by cases h
  | .pv _ _ _ _ _, _, h => by cases h
  | .it _, _, h => by cases h
theorem eqAs_eq : ∀ (x y : List AV), eqAs x y = true → x = y
  | [], [], _ => rfl
  | [], _ :: _, h => by unfold eqAs at h; cases h
  | _ :: _, [], h => by unfold eqAs at h; cases h
  | x :: xs, y :: ys, h => by
    unfold eqAs at h
    split at h
    · rename_i h1; rw [eqA_eq x y h1, eqAs_eq xs ys h]
    · cases h
end
def eqE : List (Value × Nat × AV) → List (Value × Nat × AV) → Bool
  | [], [] => true
  | (k, b, v) :: l, (k', b', v') :: l' => match eqV k k' && (Nat.beq b b' && eqA v v') with
    | true => eqE l l'
    | false => false
  | _, _ => false
theorem eqE_eq : ∀ {x y : List (Value × Nat × AV)}, eqE x y = true → x = y
  | [], [], _ => rfl
  | [], _ :: _, h => by cases h
  | _ :: _, [], h => by cases h
  | (k, b, v) :: l, (k', b', v') :: l', h => by
    unfold eqE at h
    split at h
    · rename_i h1
      rw [Bool.and_eq_true, Bool.and_eq_true] at h1
      rw [eqV_eq h1.1, beqN h1.2.1, eqA_eq _ _ h1.2.2, eqE_eq h]
    · cases h
def eqO : AO → AO → Bool
  | .dead, .dead => true
  | .cells a, .cells b => eqAs a b
  | .rowA n k a, .rowA n' k' b => Nat.beq n n' && (Nat.beq k k' && eqAs a b)
  | .map a c, .map b c' => Nat.beq c c' && eqE a b
  | _, _ => false
theorem eqO_eq {x y : AO} (h : eqO x y = true) : x = y := by
  unfold eqO at h
  split at h
  · rfl
  · rw [eqAs_eq _ _ h]
  · rw [Bool.and_eq_true, Bool.and_eq_true] at h; rw [beqN h.1, beqN h.2.1, eqAs_eq _ _ h.2.2]
  · rw [Bool.and_eq_true] at h; rw [beqN h.1, eqE_eq h.2]
  · cases h
/-! ### objects are given up -/
section
variable {G : Ctx} {N : Nat} {μ : Mu} {I : Nat → Prop} {s : Slots} {H1 H2 : Heap} {a : Act} {w : World}
/-- The second heap is the first one, but for what is given up. -/
def Gc (H1 H2 : Heap) : Prop := ∀ r, get H2 r = get H1 r ∨ (get H2 r = some .dead ∧ (get H1 r).isSome = true)
theorem Gc.le (h : Gc H1 H2) : HeapLe H1 μ H2 μ := ⟨fun r o e => by
  rcases h r with h | ⟨h, _⟩
  · exact ⟨o, by rw [h, e], .inr ⟨.refl _, rfl⟩⟩
  · exact ⟨.dead, h, .inl rfl⟩⟩
theorem Gc.live (h : Gc H1 H2) {r : Nat} (l : live H2 r) : live H1 r := by
  obtain ⟨o, e, hd⟩ := l
  rcases h r with h | ⟨h, _⟩
  · exact ⟨o, by rw [← h, e], hd⟩
  · rw [h] at e; injection e with e; exact absurd e.symm hd
theorem Gc.sim (h : Gc H1 H2) (S : Sim G N μ I s H1 a w) : Sim G N μ I s H2 a w := by
  have X : Ext μ I H1 w μ I H2 w := ⟨h.le, fun _ h => h, fun _ _ => rfl⟩
  refine ⟨S.slots.ext X, ⟨fun r o e => ?_, fun r r' b z z' l l' => S.heap.inj r r' b z z' (h.live l) (h.live l'), fun r b z l => S.heap.own r b z (h.live l), S.heap.imm, S.heap.base, S.heap.pin.le h.le, S.heap.keep⟩, S.size, S.defers, fun x hx => (S.frames x hx).ext X⟩
  rcases h r with h1 | ⟨h1, _⟩
  · exact AO.rep_mono h.le (fun _ _ => rfl) (fun _ h => h) rfl (fun _ _ _ => rfl) (S.heap.objs r o (by rw [← h1, e]))
  · rw [h1] at e; injection e with e; subst e; trivial
end
/-! ### records -/
structure Rc where
  args : List AV
  fr : Nat
  rd : Heap
  v : AV
  up : Heap
  n : Nat
  live : Heap
/-- n new names, of which few are wanted. -/
def fillD : Nat → Nat → Heap → Heap
  | _, 0, _ => []
  | r, n + 1, [] => (r, .dead) :: fillD (r + 1) n []
  | r, n + 1, (q, o) :: l => match Nat.beq q r with
    | true => (r, o) :: fillD (r + 1) n l
    | false => (r, .dead) :: fillD (r + 1) n ((q, o) :: l)
def gcEq : Heap → Heap → Bool
  | [], [] => true
  | (r, o) :: l, (q, p) :: m => match Nat.beq r q with
    | true => match p with
      | .dead => gcEq l m
      | p => match eqO o p with
        | true => gcEq l m
        | false => false
    | false => false
  | _, _ => false
def upSub : Heap → Heap → Bool
  | [], _ => true
  | (r, o) :: l, m => match get m r with
    | some p => match eqO o p with
      | true => upSub l m
      | false => false
    | none => false
noncomputable section
def treeOf : Heap → Tr AO → Tr AO
  | [], t => t
  | (r, o) :: l, t => treeOf l (Tr.setK o .nil dO t r id)
/-- A reading, done: what is asked to be new lies between two names. -/
def RM.runB {α : Type} (obs : Tr AO) (lo hi : Nat) (m : RM α) : Option α := @RM.rec α (fun _ => Option α) (fun a => some a) (fun _ => none) (fun _ _ _ => none)
  (fun r _ ih => @Option.rec AO (fun _ => Option α) none (fun o => ih o) (Tr.at dO obs r))
  (fun r _ ih => @Bool.rec (fun _ => Option α) none ih (Nat.ble lo r && Nat.blt r hi))
  (fun _ b _ _ ih => @Bool.rec (fun _ => Option α) none ih b)
  (fun b _ _ i1 i2 => @Bool.rec (fun _ => Option α) i2 i1 b)
  (fun _ _ => none) m
def okRc (s : Summ) (c : Rc) : Bool := match (s c.args c.fr).runB (treeOf c.rd .nil) c.fr (c.fr + c.n) with
  | some (.mk v up nw) => eqA v c.v && (upSub up c.up && (upSub c.up up && gcEq nw (fillD c.fr c.n c.live)))
  | none => false
end
def rdK : Heap → RM Eff → RM Eff
  | [], m => m
  | (r, o) :: l, m => .obj r fun o' => match eqO o' o with
    | true => rdK l m
    | false => .fail 4003
def newK : Nat → Nat → RM Eff → RM Eff
  | _, 0, m => m
  | r, n + 1, m => .new r (newK (r + 1) n m)
def sRec : List Rc → Summ
  | [], _, _ => .fail 4001
  | c :: l, args, fr => match Nat.beq fr c.fr with
    | true => match eqAs args c.args with
      | true => rdK c.rd (newK c.fr c.n (.pure ⟨c.v, c.up, fillD c.fr c.n c.live⟩))
      | false => .fail 4002
    | false => sRec l args fr

theorem upSub_get : ∀ {l m : Heap}, upSub l m = true → ∀ q o, get l q = some o → get m q = some o
  | [], _, _, q, o, e => by cases e
  | (r, p) :: l, m, h, q, o, e => by
    unfold upSub at h
    split at h
    · rename_i p' e'
      split at h
      · rename_i h1
        rw [get_cons] at e
        by_cases hq : r = q
        · rw [if_pos hq] at e; injection e with e; subst e; subst hq; rw [e', eqO_eq h1]
        · rw [if_neg hq] at e; exact upSub_get h q o e
      · cases h
    · cases h
theorem gcEq_cons {r q : Nat} {o p : AO} {l m : Heap} (h : gcEq ((r, o) :: l) ((q, p) :: m) = true) : r = q ∧ (p = .dead ∨ p = o) ∧ gcEq l m = true := by
  unfold gcEq at h
  split at h
  · rename_i h1
    refine ⟨beqN h1, ?_⟩
    split at h
    · exact ⟨.inl rfl, h⟩
    · split at h
      · rename_i h2; exact ⟨.inr (eqO_eq h2).symm, h⟩
      · cases h
  · cases h
theorem gcEq_get : ∀ {l m : Heap}, gcEq l m = true → ∀ q, get m q = get l q ∨ (get m q = some .dead ∧ (get l q).isSome = true)
  | [], [], _, q => .inl rfl
  | [], _ :: _, h, q => by cases h
  | (_, _) :: _, [], h, q => by cases h
  | (r, o) :: l, (q', p) :: m, h, q => by
    obtain ⟨rfl, hp, h⟩ := gcEq_cons h
    rw [get_cons, get_cons]
    by_cases hq : r = q
    · rw [if_pos hq, if_pos hq]
      rcases hp with rfl | rfl
      · exact .inr ⟨rfl, rfl⟩
      · exact .inl rfl
    · rw [if_neg hq, if_neg hq]; exact gcEq_get h q
theorem addNew_gc {K : Heap → Prop} : ∀ {F nw h : Heap}, addNew F h K → gcEq nw F = true → ∀ {h' : Heap} {K' : Heap → Prop}, (∀ r ∈ F.map (fun x : Nat × AO => x.1), get h' r = none) → K' (putNew nw h') → addNew nw h' K'
  | [], [], _, _, _, _, _, _, hk => hk
  | [], _ :: _, _, _, g, _, _, _, _ => by cases g
  | _ :: _, [], _, _, g, _, _, _, _ => by cases g
  | (q, p) :: l, (q', o) :: nw, h, hk, g, h', K', hf, hk' => by
    obtain ⟨rfl, _, g⟩ := gcEq_cons g
    simp only [addNew] at hk ⊢
    rw [hf q' (by simp)]
    cases e : get h q' with
    | some _ => rw [e] at hk; exact hk.elim
    | none =>
      rw [e] at hk
      refine addNew_gc hk g (fun r hr => ?_) hk'
      have h1 := addNew_fresh hk r hr
      rw [get_cons] at h1 ⊢
      by_cases hq : q' = r
      · rw [if_pos hq] at h1; cases h1
      · rw [if_neg hq]; exact hf r (by rw [List.map_cons]; exact List.mem_cons_of_mem _ hr)
theorem treeOf_get {h : Heap} : ∀ {l : Heap} {t : Tr AO}, (∀ r o, Tr.at dO t r = some o → get h r = some o) → (∀ x ∈ l, get h x.1 = some x.2) → ∀ r o, Tr.at dO (treeOf l t) r = some o → get h r = some o
  | [], t, ht, _, r, o, e => ht r o e
  | (q, p) :: l, t, ht, hl, r, o, e => by
    unfold treeOf at e
    refine treeOf_get (l := l) (fun r' o' e' => ?_) (fun x hx => hl x (List.mem_cons_of_mem _ hx)) r o e
    rcases Tr.setK_is (x := p) (z := Tr.nil) (d := dO) (t := t) (n := q) (k := id) with hz | ⟨t', hz, ht'⟩
    · rw [hz, Tr.at_nil] at e'; cases e'
    · rw [hz] at e'
      have e' : Tr.at dO t' r' = some o' := e'
      rw [ht'] at e'
      by_cases hq : r' = q
      · rw [if_pos hq] at e'; injection e' with e'; subst e'; subst hq; exact hl _ (List.mem_cons_self ..)
      · rw [if_neg hq] at e'; exact ht r' o' e'
theorem runB_wp {α : Type} {obs : Tr AO} {lo hi : Nat} {sl : Slots} {hp : Heap} (ho : ∀ r o, Tr.at dO obs r = some o → get hp r = some o) (hno : ∀ r, lo ≤ r → r < hi → get hp r = none) {Q : α → Prop} : ∀ {m : RM α} {a : α}, m.runB obs lo hi = some a → Q a → m.wp sl hp Q := by
  intro m
  induction m with
  | pure b => intro a e hq; injection e with e; subst e; exact hq
  | fail n => intro a e; cases e
  | slot n f ih => intro a e; cases e
  | obj r f ih =>
    intro a e hq
    have e : (@Option.rec AO (fun _ => Option α) none (fun o => (f o).runB obs lo hi) (Tr.at dO obs r)) = some a := e
    cases e2 : Tr.at dO obs r with
    | none => rw [e2] at e; cases e
    | some o => rw [e2] at e; simp only [RM.wp, ho r o e2]; exact ih o e hq
  | new r f ih =>
    intro a e hq
    have e : (@Bool.rec (fun _ => Option α) none (f.runB obs lo hi) (Nat.ble lo r && Nat.blt r hi)) = some a := e
    cases e2 : (Nat.ble lo r && Nat.blt r hi) with
    | false => rw [e2] at e; cases e
    | true =>
      rw [e2] at e
      rw [Bool.and_eq_true] at e2
      simp only [RM.wp, hno r (by simpa [Nat.ble_eq] using e2.1) (by simpa [Nat.blt_eq] using e2.2)]
      exact ih e hq
  | chkT p b hb f ih =>
    intro a e hq
    have e : (@Bool.rec (fun _ => Option α) none (f.runB obs lo hi) b) = some a := e
    cases b with
    | false => cases e
    | true => exact ⟨hb rfl, ih e hq⟩
  | br b x y i1 i2 =>
    intro a e hq
    have e : (@Bool.rec (fun _ => Option α) (y.runB obs lo hi) (x.runB obs lo hi) b) = some a := e
    cases b with
    | true => exact ⟨fun _ => i1 e hq, fun h => by cases h⟩
    | false => exact ⟨fun h => (by cases h), fun _ => i2 e hq⟩
  | ex f ih => intro a e; cases e
theorem rdK_wp {Φ : Eff → Prop} {sl : Slots} {h : Heap} : ∀ {l : Heap} {m : RM Eff}, (rdK l m).wp sl h Φ → (∀ x ∈ l, get h x.1 = some x.2) ∧ m.wp sl h Φ
  | [], m, hk => ⟨fun x hx => (by cases hx), hk⟩
  | (r, o) :: l, m, hk => by
    unfold rdK at hk
    simp only [RM.wp] at hk
    cases e : get h r with
    | none => rw [e] at hk; exact hk.elim
    | some o' =>
      rw [e] at hk
      simp only at hk
      split at hk
      · rename_i h1
        obtain ⟨h2, h3⟩ := rdK_wp hk
        refine ⟨fun x hx => ?_, h3⟩
        rcases List.mem_cons.1 hx with rfl | hx
        · rw [e, eqO_eq h1]
        · exact h2 x hx
      · exact hk.elim
theorem newK_wp {Φ : Eff → Prop} {sl : Slots} {h : Heap} : ∀ {n r : Nat} {m : RM Eff}, (newK r n m).wp sl h Φ → (∀ q, r ≤ q → q < r + n → get h q = none) ∧ m.wp sl h Φ
  | 0, r, m, hk => ⟨fun q h1 h2 => absurd h2 (by omega), hk⟩
  | n + 1, r, m, hk => by
    unfold newK at hk
    obtain ⟨h1, hk⟩ := new_wp hk
    obtain ⟨h2, h3⟩ := newK_wp hk
    refine ⟨fun q hq1 hq2 => ?_, h3⟩
    by_cases e : q = r
    · subst e; exact h1
    · exact h2 q (by omega) (by omega)
/-- Records that are right, as a function's summary. -/
theorem rec_ok {P : Program} {g : Nat} {s : Summ} (h : SummOk P g s) : ∀ {l : List Rc}, (∀ c ∈ l, okRc s c = true) → SummOk P g (sRec l) := by
  intro l hl
  refine fun G N μ I sl hp a w args vals fr dst K S hr hk => h G N μ I sl hp a w args vals fr dst K S hr ?_
  induction l with
  | nil => exact hk.elim
  | cons c l ih =>
    unfold sRec at hk
    split at hk
    · rename_i h1
      split at hk
      · rename_i h2
        have h1 := beqN h1
        have h2 := eqAs_eq _ _ h2
        subst h1; subst h2
        have hc := hl c (List.mem_cons_self ..)
        obtain ⟨hrd, hk⟩ := rdK_wp hk
        obtain ⟨hnew, hk⟩ := newK_wp hk
        unfold okRc at hc
        split at hc
        · rename_i v up nw hrun
          rw [Bool.and_eq_true, Bool.and_eq_true, Bool.and_eq_true] at hc
          obtain ⟨hv, hu1, hu2, hg⟩ := hc
          have hv := eqA_eq _ _ hv
          subst hv
          refine runB_wp (treeOf_get (fun r o e => by rw [Tr.at_nil] at e; cases e) hrd) hnew hrun ?_
          have hk : addNew (fillD c.fr c.n c.live) (setOld c.up hp) _ := hk
          have hup : ∀ q, get up q = get c.up q := fun q => by
            cases e : get up q with
            | some o => exact (upSub_get hu1 q o e).symm
            | none =>
              cases e2 : get c.up q with
              | none => rfl
              | some o => rw [upSub_get hu2 q o e2] at e; cases e
          have hset : ∀ q, get (setOld up hp) q = get (setOld c.up hp) q := fun q => by rw [setOld_get', setOld_get', hup]
          show addNew nw (setOld up hp) _
          refine addNew_gc hk hg (fun r hr => by rw [hset]; exact addNew_fresh hk r hr) ?_
          have hN := addNew_gc (K' := fun _ => True) hk hg (h' := setOld up hp) (fun r hr => by rw [hset]; exact addNew_fresh hk r hr) trivial
          intro μ' I' u w' S' hrep
          have GC : Gc (putNew nw (setOld up hp)) (putNew (fillD c.fr c.n c.live) (setOld c.up hp)) := fun r => by
            rw [putNew_or' hN, putNew_or' hk, hset]
            rcases gcEq_get hg r with e | ⟨e1, e2⟩
            · rw [e]; exact .inl rfl
            · rw [e1]
              refine .inr ⟨rfl, ?_⟩
              cases e3 : get nw r with
              | none => rw [e3] at e2; cases e2
              | some o => rfl
          exact addNew_iff hk μ' I' u w' (GC.sim S') (AV.rep_mono (GC.le (μ := μ')) (fun _ _ => rfl) (fun _ h => h) _ _ hrep)
        · cases hc
      · exact hk.elim
    · exact ih (fun c hc => hl c (List.mem_cons_of_mem _ hc)) hk
end Go.XM
namespace Go.XM
open RM Go.RowKit
theorem addNew_fill : ∀ (n r : Nat) (l h : Heap), (∀ q, r ≤ q → get h q = none) → addNew (fillD r n l) h fun _ => True
  | 0, _, _, _, _ => trivial
  | n + 1, r, [], h, hf => by
    unfold fillD
    simp only [addNew]
    rw [hf r (Nat.le_refl _)]
    exact addNew_fill n (r + 1) [] _ fun q hq => by rw [get_cons, if_neg (by omega)]; exact hf q (by omega)
  | n + 1, r, (q, o) :: l, h, hf => by
    unfold fillD
    split
    · simp only [addNew]
      rw [hf r (Nat.le_refl _)]
      exact addNew_fill n (r + 1) l _ fun q hq => by rw [get_cons, if_neg (by omega)]; exact hf q (by omega)
    · simp only [addNew]
      rw [hf r (Nat.le_refl _)]
      exact addNew_fill n (r + 1) _ _ fun q hq => by rw [get_cons, if_neg (by omega)]; exact hf q (by omega)
theorem closed {P : Program} {g : Nat} {s : Summ} (is : FnIs P g) (h : SummOk P g s) {c : Rc} (hc : okRc s c = true) (ha : c.args = []) (hrd : c.rd = []) (hup : c.up = []) : VSpec P g [] c.v := by
  intro w I μ vals H hr
  match vals, hr with
  | [], _ =>
    unfold okRc at hc
    split at hc
    · rename_i v up nw hrun
      rw [Bool.and_eq_true, Bool.and_eq_true, Bool.and_eq_true] at hc
      obtain ⟨hv, hu1, _, hg⟩ := hc
      have hv := eqA_eq _ _ hv
      have hup0 : up = [] := by
        cases up with
        | nil => rfl
        | cons x l => obtain ⟨q, o⟩ := x; rw [hup] at hu1; cases hu1
      have S : Sim (ctx0 w I μ []) 0 μ I [] [] ⟨#[undef], []⟩ w := ⟨fun n v e => (by cases e), H.sim, Nat.zero_le _, rfl, fun x hx => (by cases hx)⟩
      have hC := h (ctx0 w I μ []) 0 μ I [] [] ⟨#[undef], []⟩ w [] [] c.fr (some 0) (fun a' w' => ∃ u v hp' μ' I', a'.tmps[0]? = some u ∧ v = c.v ∧ HSim (ctx0 w I μ []) μ' I' hp' w' ∧ v.rep μ' w' I' hp' u) S trivial (by
        rw [ha, hrd] at hrun
        refine runB_wp (hp := []) (treeOf_get (l := []) (fun r o e => (by rw [Tr.at_nil] at e; cases e)) (fun x hx => (by cases hx))) (fun _ _ _ => rfl) hrun ?_
        subst hup0
        show addNew nw [] _
        exact addNew_gc (addNew_fill c.n c.fr c.live [] fun _ _ => rfl) hg (fun _ _ => rfl) fun μ' I' u w' S' hrep => ⟨u, v, _, μ', I', rfl, hv, S'.heap, hrep⟩)
      rcases hC with ⟨_, hC⟩ | ⟨u, w', hC, _⟩
      · refine hC.mono fun e w' q => ?_
        obtain ⟨u, rfl, u', v', hp', μ', I', e1, e2, h1, h2⟩ := q
        have : u' = u := by
          have : (#[u] : Array Value)[0]? = some u' := e1
          simpa using this.symm
        subst this
        exact ⟨u', v', hp', μ', I', rfl, e2, h1, h2⟩
      · obtain ⟨fn, hfn, hnm, hbd⟩ := is
        have n1 : ¬ fn.name = "runtime.NumGoroutine" := by simpa using hnm
        have n2 : ¬ fn.body = none := fun e => by rw [e] at hbd; cases hbd
        simp [callFunc, hfn, n1, n2] at hC
    · cases hc
end Go.XM
