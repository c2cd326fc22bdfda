/- Nodes as data: what the print's words and what the abstract machine say of them. -/
import Derived.Test.YtfgfoofojofnmaaDoorG14
set_option linter.unusedVariables false
set_option linter.unusedSimpArgs false
namespace Go.Proofs.YtfgfoofojofnmaaDoor.V
open Go.VM
open Go.RowKit Go.Proofs.YtfgfoofojofnmaaDoorW.PrintWords
open Go.Proofs.YtfgfoofojofnmaaDoor.Q Go.Proofs.YtfgfoofojofnmaaDoor.Hand
theorem spot_none {w : World} {a : Addr} {v : Value} (h : w.cell? a = some v) : a = ⟨a.block, a.off, none⟩ := by
  unfold World.cell? at h
  split at h
  · obtain ⟨b, o, s⟩ := a
    cases s with
    | none => rfl
    | some s => simp at h
  · cases h
theorem add_n (b o n : Nat) : (⟨b, o, none⟩ : Addr).add n = ⟨b, o + n, none⟩ := by
  unfold Addr.add
  split
  · rename_i h; subst h; rfl
  · rfl
theorem kid_wt {l : List S44} {i n : Nat} (h : i < l.length) (hw : wtM l ≤ n) : wtM (l.getD i z44).f4 < n := by
  have := wt_kid h
  rw [wt_is] at this; omega
/-- A node's kids, read, as data. -/
theorem D_of_C (w : World) : ∀ (n : Nat) (l : List S44) (A : Option Addr) (cap : Nat), wtM l ≤ n → Kd.C k44 w A l.length l → l.length ≤ cap → D.rep w (fun b => b < w.heap.size) (.vs false l.length 6 (encNs l)) (.slice A l.length cap)
  | n, l, A, cap, hn, h, hc => by
    refine ⟨A, cap, rfl, hc, (fun e => by cases e), fun hl => ?_⟩
    obtain ⟨ad, e, hcell⟩ := h.2.2 hl
    have hg : ∀ i, i < l.length → ∃ A4 c4, (w.cell? (ad.add (i * 6)) = some (.int .i64 (l.getD i z44).f0) ∧ w.cell? (ad.add (i * 6 + 1)) = some (.string (l.getD i z44).f1) ∧ w.cell? (ad.add (i * 6 + 2)) = some (.int .i64 (l.getD i z44).f2) ∧ w.cell? (ad.add (i * 6 + 3)) = some (.int .u64 (l.getD i z44).f3) ∧ w.cell? (ad.add (i * 6 + 4)) = some (.slice A4 (l.getD i z44).f4.length c4) ∧ w.cell? (ad.add (i * 6 + 5)) = some (.int .i64 (l.getD i z44).f5)) ∧ (l.getD i z44).f4.length ≤ c4 ∧ Kd.C k44 w A4 (l.getD i z44).f4.length (l.getD i z44).f4 := fun i hi => by
      obtain ⟨c, hs, hK, hu⟩ := hcell i (l.getD i z44) (by rw [List.getElem?_eq_getElem hi, List.getD_eq_getElem?_getD, List.getElem?_eq_getElem hi]; rfl)
      obtain ⟨A4, c4, rfl, l4, g4⟩ := k44_open hK
      exact ⟨A4, c4, ⟨hu 0 _ rfl, hu 1 _ rfl, hu 2 _ rfl, hu 3 _ rfl, hu 4 _ rfl, hu 5 _ rfl⟩, l4, g4⟩
    obtain ⟨A0, c0, ⟨h0, _⟩, _⟩ := hg 0 hl
    rw [Nat.zero_mul] at h0
    have h0 : w.cell? ad = some _ := h0
    have hsp := spot_none h0
    obtain ⟨b, o, s⟩ := ad
    have hs : s = none := congrArg Addr.spot hsp
    subst hs
    refine ⟨b, o, e, World.block_lt_of_cell? _ _ h0, fun i j hi hj => ?_⟩
    obtain ⟨A4, c4, ⟨h0, h1, h2, h3, h4, h5⟩, l4, g4⟩ := hg i hi
    rw [encNs_get l i j hi]
    have hlt := kid_wt hi hn
    rw [add_n] at h0 h1 h2 h3 h4 h5
    exact six (p := fun j => ∃ u, w.cell? ⟨b, o + (i * 6 + j), none⟩ = some u ∧ u.oneCell' = true ∧ (rowC encN z44 l i j).rep w (fun b => b < w.heap.size) u) ⟨_, h0, rfl, rfl⟩ ⟨_, h1, rfl, rfl⟩ ⟨_, h2, rfl, rfl⟩ ⟨_, h3, rfl, rfl⟩ ⟨_, h4, rfl, D_of_C w _ _ A4 c4 (Nat.le_refl _) g4 l4⟩ ⟨_, h5, rfl, rfl⟩ j hj
termination_by n l => n
/-- A node's kids lie in a world. -/
def KR (w : World) (A : Option Addr) (c : Nat) (x : S44) : Prop := D.rep w (fun b => b < w.heap.size) (.vs false x.f4.length 6 (encNs x.f4)) (.slice A x.f4.length c)
theorem KR.below {w w' : World} {A : Option Addr} {c : Nat} {x : S44} (h : KR w A c x) (hB : Below w.heap.size w w') : KR w' A c x := D.rep_mono (fun b hb => hB.block b hb) (fun _ hb => Nat.lt_of_lt_of_le hb hB.size) _ _ h
theorem KR.of {w : World} {I : Nat → Prop} {d : D} {x : S44} {v : Value} (hI : ∀ b, I b → b < w.heap.size) (hd : DR d (.vs false x.f4.length 6 (encNs x.f4))) (h : d.rep w I v) : ∃ A c, v = .slice A x.f4.length c ∧ KR w A c x := by
  have h1 := hd.rep h
  have h2 : D.rep w (fun b => b < w.heap.size) (.vs false x.f4.length 6 (encNs x.f4)) v := D.rep_mono (fun _ _ => rfl) hI _ _ h1
  obtain ⟨A, c, rfl, _⟩ := id h1
  exact ⟨A, c, rfl, h2⟩
/-- A function without objects: as the kit says it. -/
theorem calls_of {P : Program} {f : Nat} {args : List AV} {Post : AV → Heap → Prop} {vals : List Value} (w : World) (h : LSpec P f args [] Post) (hr : AV.reps (fun _ => none) w (fun b => b < w.heap.size) [] args vals) : Calls P f vals.toArray w fun e w' => ∃ u v hp I' μ', e = .returned u ∧ Post v hp ∧ v.rep μ' w' I' hp u ∧ (∀ b, I' b → b < w'.heap.size) ∧ Below w.heap.size w w' := by
  refine (h w _ (fun _ => none) vals (HIn.nil (fun _ h => h) _) hr).mono ?_
  rintro e w' ⟨u, v, hp', μ', I', rfl, hP, hS, hv⟩
  exact ⟨u, v, hp', I', μ', rfl, hP, hv, fun b hb => (hS.imm b hb).1, hS.base.os, hS.base.tape, hS.base.output, hS.base.size, fun b hb => hS.base.block b hb (fun ⟨r, z, ⟨o, e, _⟩, _⟩ => by cases e)⟩
/-- A node's value, and its cells. -/
abbrev nodeV (x : S44) (A : Option Addr) (c : Nat) : Value := .agg #[.int .i64 x.f0, .string x.f1, .int .i64 x.f2, .int .u64 x.f3, .slice A x.f4.length c, .int .i64 x.f5]
theorem nodeV_rep {w : World} {A : Option Addr} {c : Nat} {x : S44} (h : KR w A c x) {hp : Heap} : (AV.agg (cellsN x)).rep (fun _ => none) w (fun b => b < w.heap.size) hp (nodeV x A c) := by
  rw [AV.rep]
  exact ⟨_, rfl, by rw [AV.rep]; rfl, by rw [AV.rep]; rfl, by rw [AV.rep]; rfl, by rw [AV.rep]; rfl, by rw [AV.rep]; exact h, by rw [AV.rep]; rfl, trivial⟩
theorem nodeV_of {μ : Mu} {w : World} {I : Nat → Prop} {hp : Heap} {x : S44} {d : D} {v : Value} (hI : ∀ b, I b → b < w.heap.size) (hd : DR d (.vs false x.f4.length 6 (encNs x.f4))) (h : (AV.agg [av (.int .i64 x.f0), av (.string x.f1), av (.int .i64 x.f2), av (.int .u64 x.f3), .d d, av (.int .i64 x.f5)]).rep μ w I hp v) : ∃ A c, v = nodeV x A c ∧ KR w A c x := by
  rw [AV.rep] at h
  obtain ⟨br, rfl, h1⟩ := h
  obtain ⟨br⟩ := br
  match br, h1 with
  | [c0, c1, c2, c3, c4, c5], h1 =>
    obtain ⟨k0, k1, k2, k3, k4, k5, _⟩ := h1
    rw [AV.rep] at k0 k1 k2 k3 k4 k5
    obtain ⟨A, c, e4, hk⟩ := KR.of hI hd k4
    refine ⟨A, c, ?_, hk⟩
    rw [show c0 = _ from k0, show c1 = _ from k1, show c2 = _ from k2, show c3 = _ from k3, e4, show c5 = _ from k5]
end Go.Proofs.YtfgfoofojofnmaaDoor.V
