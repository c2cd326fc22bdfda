/- Functions with objects, called: local names for the caller's. -/
import Derived.Test.YtanfllomeheiiaaGreatDoorXM14
set_option linter.unusedVariables false
set_option linter.unusedSimpArgs false
namespace Go.XM
open RM Go.RowKit
section
variable {μ : Mu} {w : World} {I : Nat → Prop} {ρ : Nat → Nat} {h h' : Heap}
theorem ORel.rep (H : ∀ q o', get h' q = some o' → ∃ o, get h (ρ q) = some o ∧ ORel ρ h' o o') {q : Nat} {o o' : AO} (hR : ORel ρ h' o o') (hr : o.rep μ w I h (ρ q)) : o'.rep (fun q => μ (ρ q)) w I h' q := by
  cases hR with
  | dead => trivial
  | cells hs =>
    obtain ⟨b, z, vs, t, fz, h1, h2, h3, h4⟩ := hr
    exact ⟨b, z, vs, t, fz, h1, h2, h3, hs.reps H h4⟩
  | row hn hc =>
    subst hn
    rcases hr with ⟨h1, h2⟩ | ⟨b, z, vs, t, fz, h1, h2, h3, h4, h5, h6⟩
    · exact .inl ⟨h1, h2⟩
    · exact .inr ⟨b, z, vs, t, fz, h1, h2, h3, h4, h5, fun i j hi hj => (h6 i j hi hj).imp fun u q => ⟨q.1, q.2.1, (hc i j hi hj).rep q.2.2⟩⟩
theorem ORel.live {o o' : AO} (hR : ORel ρ h' o o') (hd : o' ≠ .dead) : o ≠ .dead := fun e => by
  subst e; cases hR; exact hd rfl
end
theorem get_or {β : Type} (l m : List (Nat × β)) (q : Nat) : get (l ++ m) q = (get l q).or (get m q) := by
  induction l with
  | nil => rfl
  | cons x l ih =>
    obtain ⟨a, b⟩ := x
    rw [List.cons_append, get_cons, get_cons]
    by_cases h : a = q
    · rw [if_pos h, if_pos h]; rfl
    · rw [if_neg h, if_neg h, ih]
theorem setOld_eq : ∀ up h : Heap, setOld up h = up ++ h
  | [], _ => rfl
  | x :: l, h => by rw [setOld, setOld_eq l h]; rfl
theorem get_not {β : Type} {l : List (Nat × β)} {n : Nat} (h : n ∉ l.map fun x : Nat × β => x.1) : get l n = none := by
  cases e : get l n with
  | none => rfl
  | some b => exact absurd (get_mem e) h
theorem putNew_or {K : Heap → Prop} : ∀ {nw h : Heap}, addNew nw h K → ∀ q, get (putNew nw h) q = (get nw q).or (get h q)
  | [], _, _, _ => rfl
  | (r, o) :: l, h, hk, q => by
    have hk0 := hk
    simp only [addNew] at hk
    cases e : get h r with
    | some _ => rw [e] at hk; exact hk.elim
    | none =>
      rw [e] at hk
      rw [putNew, putNew_or hk q, get_cons, get_cons]
      by_cases hq : r = q
      · rw [if_pos hq, if_pos hq]
        have : get l q = none := get_not fun hm => by
          have := addNew_fresh hk q hm
          rw [get_cons, if_pos hq] at this
          cases this
        rw [this]; rfl
      · rw [if_neg hq, if_neg hq]
/-- What a call with local names comes to for the caller: up: all that was handed in; nw: what is new. -/
structure Lift (ρ σ : Nat → Nat) (hp hp0 hp1 : Heap) (up nw : Heap) (v ret : AV) : Prop where
  ret : VRel σ (up ++ nw) v ret
  heap : HW σ hp1 (up ++ nw) (up ++ nw)
  back : ∀ r, (get hp0 r).isSome = true → (get up (ρ r)).isSome = true ∧ σ (ρ r) = r ∧ get hp0 r ≠ some .dead
  ups : ∀ q o, get up q = some o → ∃ r o0, (get hp0 r).isSome = true ∧ q = ρ r ∧ get hp q = some o0 ∧ (o = .dead ∨ o0.like o)
  inj : ∀ q q', (get (up ++ nw) q).isSome = true → (get (up ++ nw) q').isSome = true → σ q = σ q' → q = q'
theorem like_dead {o o' : AO} (h : o.like o') (hd : o' ≠ .dead) : o ≠ .dead := fun e => by
  subst e; cases o' <;> first | exact hd rfl | exact h
theorem SummOk.lift {P : Program} {f : Nat} {g : Summ} (is : FnIs P f) (hg : ∀ args fr sl hp Φ, (g args fr).wp sl hp Φ → ∃ (ρ σ : Nat → Nat) (args0 : List AV) (hp0 : Heap) (Post : AV → Heap → Prop), LSpec P f args0 hp0 Post ∧ VRels ρ hp0 args args0 ∧ HW ρ hp hp0 hp0 ∧ (∀ q q', (get hp0 q).isSome = true → (get hp0 q').isSome = true → ρ q = ρ q' → q = q') ∧ ∀ v hp1, Post v hp1 → ∃ ret up nw, Φ (.mk ret up nw) ∧ Lift ρ σ hp hp0 hp1 up nw v ret) : SummOk P f g := by
    intro G N μ I sl hp a w args vals fr dst K S hr h
    refine .inl ⟨is, ?_⟩
    obtain ⟨ρ, σ, args0, hp0, Post, hL, hA, hH, hinj, hP⟩ := hg args fr sl hp _ h
    have H : ∀ q o', get hp0 q = some o' → ∃ o, get hp (ρ q) = some o ∧ ORel ρ hp0 o o' := fun q o' e => hH.get e
    have lv : ∀ {q}, live hp0 q → live hp (ρ q) := fun {q} ⟨o', e, hd⟩ => by
      obtain ⟨o, e2, hR⟩ := H q o' e
      exact ⟨o, e2, hR.live hd⟩
    have hin : HIn (fun q => μ (ρ q)) hp0 w I := by
      refine ⟨fun r o e => ?_, fun r r' b z z' h1 h2 e1 e2 => ?_, fun r b z h1 e => ?_, fun b hb => (S.heap.imm b hb).1⟩
      · obtain ⟨o1, e1, hR⟩ := H r o e
        exact hR.rep H (S.heap.objs _ _ e1)
      · have e := S.heap.inj _ _ b z z' (lv h1) (lv h2) e1 e2
        obtain ⟨o1, f1, _⟩ := h1
        obtain ⟨o2, f2, _⟩ := h2
        exact hinj r r' (by rw [f1]; rfl) (by rw [f2]; rfl) e
      · have := S.heap.own _ b z (lv h1) e
        exact ⟨this.1, this.2.1⟩
    refine (hL w I _ vals hin (hA.reps H hr)).mono fun e w' q => ?_
    obtain ⟨u, v, hp1, μ1, I1, rfl, hpost, HS, hv⟩ := q
    refine ⟨u, rfl, ?_⟩
    obtain ⟨ret, up, nw, hK, L⟩ := hP v hp1 hpost
    have hK : addNew nw (setOld up hp) _ := hK
    have hput := putNew_or hK
    have hfr := addNew_fresh hK
    have hN : ∀ q, get (putNew nw (setOld up hp)) q = (get (up ++ nw) q).or (get hp q) := fun q => by
      rw [hput q, setOld_eq, get_or, get_or]
      cases e : get nw q with
      | none => cases get up q <;> rfl
      | some o =>
        have := hfr q (get_mem e)
        rw [setOld_eq, get_or] at this
        cases e2 : get up q with
        | none => rfl
        | some _ => rw [e2] at this; cases this
    have hKq := addNew_iff hK
    -- names of the call
    let C : Heap := up ++ nw
    let μN : Mu := fun q => if (get C q).isSome = true then μ1 (σ q) else μ q
    have Hc : ∀ q o', get C q = some o' → ∃ o, get hp1 (σ q) = some o ∧ ORel σ C o o' := fun q o' e => L.heap.get e
    have lvc : ∀ {q}, live C q → live hp1 (σ q) := fun {q} ⟨o', e, hd⟩ => by
      obtain ⟨o, e2, hR⟩ := Hc q o' e
      exact ⟨o, e2, hR.live hd⟩
    have hold : ∀ {q}, (get C q).isSome = true → ∀ o, get hp q = some o → ∃ r, (get hp0 r).isSome = true ∧ q = ρ r ∧ σ q = r ∧ ∃ o1, get up q = some o1 ∧ (o1 = .dead ∨ o.like o1) := fun {q} hq o ho => by
      have : (get up q).isSome = true := by
        have : get C q = (get up q).or (get nw q) := get_or up nw q
        rw [this] at hq
        cases e : get up q with
        | some _ => rfl
        | none =>
          rw [e] at hq
          obtain ⟨o2, e2⟩ := Option.isSome_iff_exists.1 hq
          have := hfr q (get_mem e2)
          rw [setOld_eq, get_or, e, ho] at this
          cases this
      obtain ⟨o1, e1⟩ := Option.isSome_iff_exists.1 this
      obtain ⟨r, o0, h1, rfl, h3, h4⟩ := L.ups q o1 e1
      rw [ho] at h3; injection h3 with h3; subst h3
      exact ⟨r, h1, rfl, (L.back r h1).2.1, o1, e1, h4⟩
    have hB : ∀ {b}, (∃ r z, live hp0 r ∧ μ (ρ r) = some (b, z)) → ∃ q z, live hp q ∧ (get C q).isSome = true ∧ μ q = some (b, z) := fun {b} ⟨r, z, hl, e⟩ => by
      have hl0 := hl
      obtain ⟨o, eo, _⟩ := hl0
      have := (L.back r (by rw [eo]; rfl)).1
      refine ⟨ρ r, z, lv hl, ?_, e⟩
      have hc : get C (ρ r) = (get up (ρ r)).or (get nw (ρ r)) := get_or up nw _
      rw [hc]
      obtain ⟨o1, e1⟩ := Option.isSome_iff_exists.1 this
      rw [e1]; rfl
    -- what isn't of the call stays
    have hout : ∀ {q b z}, live hp q → (get C q).isSome ≠ true → μ q = some (b, z) → ¬ (∃ r z, live hp0 r ∧ μ (ρ r) = some (b, z)) := fun {q b z} hl hq e hb => by
      obtain ⟨q', z', hl', hq', e'⟩ := hB hb
      have := S.heap.inj q q' b z z' hl hl' e e'
      subst this
      exact hq hq'
    have hsame : ∀ {q b z}, live hp q → (get C q).isSome ≠ true → μ q = some (b, z) → w'.heap[b]? = w.heap[b]? := fun {q b z} hl hq e => HS.base.block b (S.heap.own q b z hl e).2.1 (hout hl hq e)
    have hIw : ∀ b, I b → w'.heap[b]? = w.heap[b]? := fun b hb => HS.base.block b (S.heap.imm b hb).1 fun ⟨r, z, hl, e⟩ => (S.heap.own _ b z (lv hl) e).1 hb
    have hle : HeapLe hp μ (putNew nw (setOld up hp)) μN := ⟨fun q o ho => by
      by_cases hq : (get C q).isSome = true
      · obtain ⟨r, h1, rfl, h3, o1, h4, h5⟩ := hold hq o ho
        have hc : get C (ρ r) = some o1 := by rw [show get C (ρ r) = (get up (ρ r)).or (get nw (ρ r)) from get_or up nw _, h4]; rfl
        refine ⟨o1, by rw [hN]; rw [show get (up ++ nw) (ρ r) = some o1 from hc]; rfl, ?_⟩
        rcases h5 with h5 | h5
        · exact .inl h5
        · by_cases hd : o1 = .dead
          · exact .inl hd
          · refine .inr ⟨h5, ?_⟩
            show (if (get C (ρ r)).isSome = true then μ1 (σ (ρ r)) else μ (ρ r)) = μ (ρ r)
            rw [if_pos hq, h3]
            obtain ⟨o', e'⟩ := Option.isSome_iff_exists.1 h1
            obtain ⟨ol, el, hRl⟩ := Hc _ _ hc
            rw [h3] at el
            obtain ⟨oo, eo, hRo⟩ := H r o' e'
            have hpin : (ctx0 w I (fun q => μ (ρ q)) hp0).pin r = some (μ (ρ r)) ∨ o' = .dead := by
              simp only [ctx0, pinOf]
              rw [e']
              cases o' <;> first | (right; rfl) | (left; rfl)
            rcases hpin with hpin | hpin
            · obtain ⟨o2, e2, hk⟩ := HS.pin r _ hpin
              rw [el] at e2; injection e2 with e2; subst e2
              rcases hk with hk | hk
              · exact absurd hk (hRl.live hd)
              · exact hk
            · rw [hpin] at e'; exact absurd e' (L.back r h1).2.2
      · refine ⟨o, by rw [hN, show get (up ++ nw) q = none from Option.not_isSome_iff_eq_none.1 hq, ho]; rfl, .inr ⟨.refl o, ?_⟩⟩
        show (if (get C q).isSome = true then μ1 (σ q) else μ q) = μ q
        rw [if_neg hq]⟩
    have hlc : HeapLe C (fun q => μ1 (σ q)) (putNew nw (setOld up hp)) μN := ⟨fun q o ho => ⟨o, by rw [hN, show get (up ++ nw) q = some o from ho]; rfl, .inr ⟨.refl o, by
      show (if (get C q).isSome = true then μ1 (σ q) else μ q) = μ1 (σ q)
      rw [if_pos (by rw [ho]; rfl)]⟩⟩⟩
    have X : Ext μ I hp w μN I1 (putNew nw (setOld up hp)) w' := ⟨hle, HS.keep, hIw⟩
    have hget : ∀ {q}, (get C q).isSome ≠ true → get (putNew nw (setOld up hp)) q = get hp q := fun {q} hq => by
      rw [hN, show get (up ++ nw) q = none from Option.not_isSome_iff_eq_none.1 hq]; rfl
    have hgetc : ∀ {q}, (get C q).isSome = true → get (putNew nw (setOld up hp)) q = get C q := fun {q} hq => by
      show _ = get (up ++ nw) q
      obtain ⟨o, e⟩ := Option.isSome_iff_exists.1 hq
      rw [hN, show get (up ++ nw) q = some o from e]; rfl
    have hmC : ∀ {q}, (get C q).isSome = true → μN q = μ1 (σ q) := fun {q} hq => if_pos hq
    have hmO : ∀ {q}, (get C q).isSome ≠ true → μN q = μ q := fun {q} hq => if_neg hq
    have lC : ∀ {q}, (get C q).isSome = true → live (putNew nw (setOld up hp)) q → live C q := fun {q} hq ⟨o, e, hd⟩ => ⟨o, by rw [← hgetc hq]; exact e, hd⟩
    have lO : ∀ {q}, (get C q).isSome ≠ true → live (putNew nw (setOld up hp)) q → live hp q := fun {q} hq ⟨o, e, hd⟩ => ⟨o, by rw [← hget hq]; exact e, hd⟩
    have hno : ∀ {q q' b z z'}, (get C q).isSome = true → (get C q').isSome ≠ true → live (putNew nw (setOld up hp)) q → live (putNew nw (setOld up hp)) q' → μ1 (σ q) = some (b, z) → μ q' = some (b, z') → False := fun {q q' b z z'} hq hq' hl hl' e e' => by
      rcases (HS.own _ b z (lvc (lC hq hl)) e).2.2 with hb | hb
      · exact hout (lO hq' hl') hq' e' hb
      · have := (S.heap.own q' b z' (lO hq' hl') e').2.1
        have hb : w.heap.size ≤ b := hb
        omega
    have HS' : HSim G μN I1 (putNew nw (setOld up hp)) w' := by
      refine ⟨fun q o e => ?_, fun q q' b z z' h1 h2 e1 e2 => ?_, fun q b z hl e => ?_, fun b hb => ?_, ?_, S.heap.pin.le hle, fun b hb => HS.keep b (S.heap.keep b hb)⟩
      · by_cases hq : (get C q).isSome = true
        · rw [hgetc hq] at e
          obtain ⟨o1, e1, hR⟩ := Hc q o e
          have := hR.rep (μ := μ1) (w := w') (I := I1) Hc (HS.objs _ _ e1)
          exact AO.rep_mono hlc (fun _ _ => rfl) (fun _ h => h) (hmC hq) (fun _ _ _ => rfl) this
        · by_cases hd : o = .dead
          · subst hd; trivial
          · rw [hget hq] at e
            exact AO.rep_mono hle hIw HS.keep (hmO hq) (fun b z e2 => hsame ⟨o, e, hd⟩ hq e2) (S.heap.objs q o e)
      · by_cases hq : (get C q).isSome = true <;> by_cases hq' : (get C q').isSome = true
        · rw [hmC hq] at e1; rw [hmC hq'] at e2
          exact L.inj q q' hq hq' (HS.inj _ _ b z z' (lvc (lC hq h1)) (lvc (lC hq' h2)) e1 e2)
        · rw [hmC hq] at e1; rw [hmO hq'] at e2
          exact (hno hq hq' h1 h2 e1 e2).elim
        · rw [hmO hq] at e1; rw [hmC hq'] at e2
          exact (hno hq' hq h2 h1 e2 e1).elim
        · rw [hmO hq] at e1; rw [hmO hq'] at e2
          exact S.heap.inj q q' b z z' (lO hq h1) (lO hq' h2) e1 e2
      · by_cases hq : (get C q).isSome = true
        · rw [hmC hq] at e
          obtain ⟨h1, h2, h3⟩ := HS.own _ b z (lvc (lC hq hl)) e
          refine ⟨h1, h2, ?_⟩
          rcases h3 with ⟨r, z', hl', e'⟩ | h3
          · exact (S.heap.own _ b z' (lv hl') e').2.2
          · exact .inr (Nat.le_trans S.heap.base.size h3)
        · rw [hmO hq] at e
          have := S.heap.own q b z (lO hq hl) e
          refine ⟨fun hb => ?_, Nat.lt_of_lt_of_le this.2.1 HS.base.size, this.2.2⟩
          rcases (HS.imm b hb).2 with h | h | h
          · exact this.1 h
          · exact hout (lO hq hl) hq e h
          · have h : w.heap.size ≤ b := h
            omega
      · have := HS.imm b hb
        refine ⟨this.1, ?_⟩
        rcases this.2 with h | ⟨r, z, hl, e⟩ | h
        · exact (S.heap.imm b h).2
        · exact .inr (S.heap.own _ b z (lv hl) e).2.2
        · exact .inr (.inr (Nat.le_trans S.heap.base.size h))
      · refine ⟨HS.base.os.trans S.heap.base.os, HS.base.tape.trans S.heap.base.tape, HS.base.output.trans S.heap.base.output, Nat.le_trans S.heap.base.size HS.base.size, fun b h1 h2 => ?_⟩
        rw [← S.heap.base.block b h1 h2]
        refine HS.base.block b (Nat.lt_of_lt_of_le h1 S.heap.base.size) fun ⟨r, z, hl, e⟩ => ?_
        rcases (S.heap.own _ b z (lv hl) e).2.2 with h | h
        · exact h2 h
        · omega
    exact hKq _ _ _ _ (S.next ⟨HS', X⟩) (AV.rep_mono hlc (fun _ _ => rfl) (fun _ h => h) _ _ (VRel.rep (h := hp1) Hc L.ret hv))
end Go.XM
