/- The document's Parse, called. -/
import Derived.Test.YtfgfoofojofnmaaDoorGVR10
import Derived.Test.YtfgfoofojofnmaaDoorG15
import Derived.Test.YtfgfoofojofnmaaDoorGA1
import Derived.Test.YtfgfoofojofnmaaDoorGQF16
set_option linter.unusedVariables false
set_option linter.unusedSimpArgs false
namespace Go.Proofs.YtfgfoofojofnmaaDoor.V
open Go.VM
open Go.RowKit Go.Proofs.YtfgfoofojofnmaaDoorW.PrintWords
open Go.Proofs.YtfgfoofojofnmaaDoor.Q Go.Proofs.YtfgfoofojofnmaaDoor.Hand
theorem scan_v (a : ByteArray) : VSpec Tryd.prog 16 [av (.string a)] (.tup [.d (.vs false (scanS a).1.length 5 (rowC encK zK (scanS a).1)), av (.int .i64 (scanS a).2.1), av (.int .i64 (scanS a).2.2)]) := by
  intro w I μ vals H hr
  obtain rfl : vals = [.string a] := by
    match vals, hr with
    | [v], hr =>
      have h := hr.1
      rw [AV.rep] at h
      rw [show v = .string a from h]
    | _ :: _ :: _, hr => exact hr.2.elim
  have hf : forebearref22_Scan.f a = some ((scanS a).1.map cv, (scanS a).2.1, (scanS a).2.2) := by
    unfold forebearref22_Scan.f scanS
    by_cases h : a.size ≤ 1024
    · rw [if_pos h, if_pos h]
    · rw [if_neg h, if_neg h]; rfl
  refine (forebearref22_Scan.calls a _ _ _ w hf).mono ?_
  rintro e w' ⟨v0, rfl, hR, hB⟩
  refine ⟨_, _, [], fun _ => none, fun b => I b ∨ v0.ownBlock = some b, rfl, rfl, ⟨fun r o e => (by cases e), fun r r' b z z' h => (by obtain ⟨o, e, _⟩ := h; cases e), fun r b z h => (by obtain ⟨o, e, _⟩ := h; cases e), fun b hb => ?_, ⟨hB.os, hB.tape, hB.output, hB.size, fun b hb _ => hB.block b hb⟩, fun r m e => (by simp [ctx0, pinOf, VM.get] at e), fun b hb => .inl hb⟩, ?_⟩
  · rcases hb with hb | hb
    · exact ⟨Nat.lt_of_lt_of_le (H.imm b hb) hB.size, .inl hb⟩
    · obtain ⟨_, h1, h2, _⟩ := (Kd.R_bound hR).1 b hb
      exact ⟨h2, .inr (.inr h1)⟩
  · rw [AV.rep]
    refine ⟨_, rfl, ?_, by rw [AV.rep]; rfl, by rw [AV.rep]; rfl, trivial⟩
    rw [AV.rep]
    obtain ⟨A, c, rfl, hc, hC⟩ := Kd.R_reads hR
    rw [List.length_map] at hc hC ⊢
    refine ⟨A, c, rfl, hc, (fun e => by cases e), fun hn => ?_⟩
    obtain ⟨ad, rfl, hcell⟩ := hC.2.2 hn
    have hg : ∀ i, i < (scanS a).1.length → ∃ t, t = (scanS a).1.getD i zK ∧ w'.cell? (ad.add (i * 5)) = some (.int .i64 t.f0) ∧ w'.cell? (ad.add (i * 5 + 1)) = some (.string t.f1) ∧ w'.cell? (ad.add (i * 5 + 2)) = some (.int .i64 t.f2) ∧ w'.cell? (ad.add (i * 5 + 3)) = some (.int .u64 t.f3) ∧ w'.cell? (ad.add (i * 5 + 4)) = some (.int .i64 t.f4) := fun i hi => by
      have hm : ((scanS a).1.map cv)[i]? = some (cv ((scanS a).1.getD i zK)) := by rw [List.getElem?_map, List.getElem?_eq_getElem hi, List.getD_eq_getElem?_getD, List.getElem?_eq_getElem hi]; rfl
      obtain ⟨cs, hs, hK, hu⟩ := hcell i _ hm
      obtain rfl := k78_open hK
      exact ⟨_, rfl, hu 0 _ rfl, hu 1 _ rfl, hu 2 _ rfl, hu 3 _ rfl, hu 4 _ rfl⟩
    obtain ⟨t0, _, h0, _⟩ := hg 0 hn
    rw [Nat.zero_mul] at h0
    have h0 : w'.cell? ad = some _ := h0
    have hsp := spot_none h0
    obtain ⟨b, o, s⟩ := ad
    have hs : s = none := congrArg Addr.spot hsp
    subst hs
    refine ⟨b, o, rfl, .inr rfl, fun i j hi hj => ?_⟩
    obtain ⟨t, ht, h0, h1, h2, h3, h4⟩ := hg i hi
    rw [add_n] at h0 h1 h2 h3 h4
    show ∃ u, w'.cell? ⟨b, o + (i * 5 + j), none⟩ = some u ∧ u.oneCell' = true ∧ (encK ((scanS a).1.getD i zK) j).rep w' _ u
    rw [← ht]
    exact five (p := fun j => ∃ u, w'.cell? ⟨b, o + (i * 5 + j), none⟩ = some u ∧ u.oneCell' = true ∧ (encK t j).rep w' (fun b_1 => I b_1 ∨ (Value.slice (some ⟨b, o, none⟩) (scanS a).1.length c).ownBlock = some b_1) u) ⟨_, h0, rfl, rfl⟩ ⟨_, h1, rfl, rfl⟩ ⟨_, h2, rfl, rfl⟩ ⟨_, h3, rfl, rfl⟩ ⟨_, h4, rfl, rfl⟩ j hj
theorem sScan_ok : SummOk Tryd.prog 16 sScan := SummOk.pure ⟨_, Tryd.func16, rfl, rfl⟩ fun args fr sl hp Φ h => by
  unfold sScan at h
  split at h
  · obtain ⟨R, rfl, h⟩ := h
    exact ⟨_, h, rfl, rfl, scan_v _⟩
  · exact h.elim
theorem parse27 (a : ByteArray) (ha : a.size ≤ 140737488355328) : LSpec Tryd.prog 27 [av (.string a)] [] (PaPost (parseT a)) := by
  obtain ⟨⟨L, p, c⟩, hS⟩ : ∃ R, scanS a = R := ⟨_, rfl⟩
  have hT := scanS_ok a
  have hF := scanS_few a
  have hM := Mc.mach_parse a
  have hE : parseT a = if (scanS a).2.2 = 0 then parseT a else (z44, (scanS a).2.1, (scanS a).2.2) := by
    by_cases h : (scanS a).2.2 = 0
    · rw [if_pos h]
    · rw [if_neg h]; unfold parseT; rw [if_neg h]
  rw [hS] at hT hF hM hE
  refine parse_v a L p c hS ha hF hT _ (fun h => (hM h hT).symm) (fun h => ?_) ?_
  · dsimp only at hE; rw [if_neg h] at hE; exact hE
  · exact fnsOk_cons sScan_ok (fnsOk_cons (sDepth_ok 1000000 (Nat.le_refl _)) (fnsOk_cons sClose_ok (fnsOk_cons sLeaf_ok (fnsOk_cons sOp_ok (fnsOk_cons sLevel_ok (fnsOk_cons sRanged_ok (fnsOk_cons sReduce_ok (fnsOk_cons sInCall_ok fnsOk_nil))))))))
theorem parse27_any (a : ByteArray) (ha : a.size ≤ 140737488355328) (w : World) : Calls Tryd.prog 27 #[.string a] w fun e w' => ∃ A c, e = .returned (.tuple #[nodeV (parseT a).1 A c, .int .i64 (parseT a).2.1, .int .i64 (parseT a).2.2]) ∧ KR w' A c (parseT a).1 ∧ Below w.heap.size w w' := by
  refine (calls_of w (parse27 a ha) (vals := [.string a]) ⟨by rw [AV.rep]; rfl, trivial⟩).mono ?_
  rintro e w' ⟨u, v, hp, I', μ', rfl, ⟨kd, hk, rfl⟩, hv, hI, hB⟩
  rw [AV.rep] at hv
  obtain ⟨ar, rfl, hv⟩ := hv
  obtain ⟨ar⟩ := ar
  match ar, hv with
  | [v1, v2, v3], hv =>
    obtain ⟨h1, h2, h3, _⟩ := hv
    obtain ⟨A, c, rfl, hK⟩ := nodeV_of hI hk h1
    rw [AV.rep] at h2 h3
    refine ⟨A, c, ?_, hK, hB⟩
    rw [show v2 = _ from h2, show v3 = _ from h3]
end Go.Proofs.YtfgfoofojofnmaaDoor.V
