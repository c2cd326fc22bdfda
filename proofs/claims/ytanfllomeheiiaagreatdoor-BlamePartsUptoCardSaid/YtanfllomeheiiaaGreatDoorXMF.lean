/- The abstract machine's code is the model's. -/
import Derived.Scope
import Derived.Test.YtanfllomeheiiaaGreatDoorXME
import Derived.LoopN
set_option linter.unusedVariables false
set_option linter.unusedSimpArgs false
namespace Go.XM
open RM Go.RowKit
section
variable {P : Program} {E : Env} {G : Ctx} {N : Nat} {μ : Mu} {I : Nat → Prop} {sl : Slots} {hp : Heap} {a : Act} {w : World} {K : Act → World → Prop} {Q : Exit → Act → World → Prop} {o : Oper} {d f : Nat}
/-- What a state may be taken for. -/
def Weak (N : Nat) (L : List Nat) : WeakRel := fun s h s' h' => ∀ G : Ctx, G.fr = [] → (∀ r m, G.pin r = some m → r ∈ L) → ∀ μ I a w, Sim G N μ I s h a w → ∃ μ' I', Sim G N μ' I' s' h' a w
/-- How code ends. -/
def Ends (G : Ctx) (N : Nat) (K : Ex → Slots → Heap → Prop) : Exit → Act → World → Prop
  | .normal, a, w => ∃ μ I sl hp, Sim G N μ I sl hp a w ∧ K .nrm sl hp
  | .exit id, a, w => ∃ μ I sl hp, Sim G N μ I sl hp a w ∧ K (.ext id) sl hp
  | .ret, a, w => ∃ μ I sl hp, Sim G N μ I sl hp a w ∧ K .ret sl hp
  | _, _, _ => False
theorem rounds_mono {c : Code} {Q : Exit → Act → World → Prop} : ∀ {n m : Nat} {a : Act} {w : World}, n ≤ m → Code.rounds P c Q n a w → Code.rounds P c Q m a w
  | 0, m, a, w, _, h => by exact h.elim
  | n + 1, m + 1, a, w, hl, h => by
    rw [rounds_succ] at h ⊢
    refine Code.wp_mono (fun e a w q => ?_) h
    cases e <;> first | exact rounds_mono (by omega) q | exact q
theorem cwp_sound (T : TyOk P E.tt) (F : FnsOk P E) (hm : P.follows .mixedOrders = true) {L : List Nat} (hfr : G.fr = []) (hG : ∀ r m, G.pin r = some m → r ∈ L) : ∀ (c : Code) {K : Ex → Slots → Heap → Prop} {μ : Mu} {I : Nat → Prop} {sl : Slots} {hp : Heap} {a : Act} {w : World}, Sim G E.nt μ I sl hp a w → cwp E (Weak E.nt L) c sl hp K → c.wp P (Ends G E.nt K) a w
  | .skip, K, μ, I, sl, hp, a, w, S, h => wp_skip ⟨μ, I, sl, hp, S, h⟩
  | .region id ops draw, K, μ, I, sl, hp, a, w, S, h => by
    cases draw with
    | false => exact wp_region_list (reg_sound T F (fun μ I sl hp a w S hr => ⟨μ, I, sl, hp, S, hr⟩) _ S h)
    | true => exact draw_sound T F hm S h (fun μ I sl hp a w S hr => ⟨μ, I, sl, hp, S, hr⟩)
  | .seq x y, K, μ, I, sl, hp, a, w, S, h => by
    refine wp_seq (Code.wp_mono (fun e a w q => ?_) (cwp_sound T F hm hfr hG x S h))
    cases e with
    | normal => obtain ⟨μ, I, sl, hp, S, q⟩ := q; exact cwp_sound T F hm hfr hG y S q
    | exit id => exact q
    | ret => exact q
    | _ => exact q.elim
  | .cond c x y, K, μ, I, sl, hp, a, w, S, h => by
    have h : ((opd c).bind asB).wp sl hp _ := h
    rw [wp_bind] at h
    obtain ⟨v, h, hv⟩ := opd_wp S.slots h
    obtain ⟨b, rfl, h⟩ := asB_wp h
    have e := rep_a hv
    exact wp_cond_split e (fun hb => cwp_sound T F hm hfr hG x S (h.t hb)) (fun hb => cwp_sound T F hm hfr hG y S (h.f hb))
  | .block id c, K, μ, I, sl, hp, a, w, S, h => by
    refine wp_block (Code.wp_mono (fun e a w q => ?_) (cwp_sound T F hm hfr hG c S h))
    cases e with
    | exit j =>
      obtain ⟨μ, I, sl, hp, S, q⟩ := q
      simp only at q
      show (if j = id then _ else _)
      by_cases hj : j = id
      · rw [if_pos hj]
        have : Nat.beq j id = true := by rw [hj]; simp
        rw [this] at q
        exact ⟨μ, I, sl, hp, S, q⟩
      · rw [if_neg hj]
        have : Nat.beq j id = false := by
          cases e : Nat.beq j id
          · rfl
          · exact absurd (Nat.eq_of_beq_eq_true e) hj
        rw [this] at q
        exact ⟨μ, I, sl, hp, S, q⟩
    | normal => exact q
    | ret => exact q
    | _ => exact q.elim
  | .loop c, K, μ, I, sl, hp, a, w, S, h => by
    obtain ⟨Inv, ⟨n, s0, h0, hW, hI⟩, hr⟩ := h
    obtain ⟨μ', I', S'⟩ := hW G hfr hG μ I a w S
    have key : ∀ n {μ : Mu} {I : Nat → Prop} {sl : Slots} {hp : Heap} {a : Act} {w : World}, Sim G E.nt μ I sl hp a w → Inv n sl hp → Code.rounds P c (Ends G E.nt K) (n + 1) a w := by
      intro n
      induction n using Nat.strongRecOn with
      | _ n ih =>
        intro μ I sl hp a w S hI
        rw [rounds_succ]
        refine Code.wp_mono (fun e a w q => ?_) (cwp_sound T F hm hfr hG c S (hr n sl hp hI))
        cases e with
        | normal =>
          obtain ⟨μ1, I1, s1, h1, S1, m, s2, h2, hm, hW, hI⟩ := q
          obtain ⟨μ2, I2, S2⟩ := hW G hfr hG μ1 I1 a w S1
          exact rounds_mono (by omega) (ih m hm S2 hI)
        | exit id => exact q
        | ret => exact q
        | _ => exact q.elim
    exact wp_loop_rounds _ (key n S' hI)
  | .exit id, K, μ, I, sl, hp, a, w, S, h => wp_exit ⟨μ, I, sl, hp, S, h⟩
  | .ret, K, μ, I, sl, hp, a, w, S, h => wp_ret ⟨μ, I, sl, hp, S, h⟩
  | .scope c, K, μ, I, sl, hp, a, w, S, h => wp_scope_straight (Code.wp_mono (fun e a w q => by cases e <;> first | exact q | exact q.elim) (cwp_sound T F hm hfr hG c S h))
  | .label _, K, μ, I, sl, hp, a, w, S, h => wp_label ⟨μ, I, sl, hp, S, h⟩
  | .goto _, _, _, _, _, _, _, _, _, h => h.elim
  | .rangeFunc _ _ _ _, _, _, _, _, _, _, _, _, h => h.elim
  | .refuse _, _, _, _, _, _, _, _, _, h => h.elim
end
end Go.XM
