import Derived.Outline
import Derived.Deep.DeepCutAuto
import Derived.Deep.CutBlock
import Derived.Test.YtfgfoofojofnmaaDoorGQ0
import Derived.Test.YtfgfoofojofnmaaDoorGQF15
import Derived.Test.YtfgfoofojofnmaaDoorG16
import Derived.Test.YtfgfoofojofnmaaDoorGL3
set_option linter.unusedVariables false
set_option linter.unusedSimpArgs false
-- Written by a program of this session's (wip/tools/hprint.py, over the kit's print.py). Not trusted: Lean checks it.
namespace Go.Proofs.YtfgfoofojofnmaaDoor.Q
open Go.RowKit Go.Proofs.YtfgfoofojofnmaaDoorW.PrintWords Go.Proofs.YtfgfoofojofnmaaDoorW.PrintLast Go.Proofs.YtfgfoofojofnmaaDoorW.PrintMore
attribute [local go_sem] Go.Proofs.YtfgfoofojofnmaaDoor.Hand.w64_mod256 Go.Proofs.YtfgfoofojofnmaaDoor.Hand.w64_mod32 max2_int min2_int max_two min_two max_three min_three max_four min_four   -- for this text's walks alone
set_option linter.unusedVariables false
set_option linter.unusedSimpArgs false

/-! ### forebearref22_Scan: function 16 -/
open Go.Proofs.YtfgfoofojofnmaaDoor.Hand
theorem small22_any (c : UInt8) (w : World) : Calls Tryd.prog 39 #[.int .u8 (c.toNat : Int)] w fun e w' => e = .returned (.bool (smallB c)) ∧ ∃ n, w' = w.drewN n := by
  have e1 : smallB c = (decide (97 ≤ c.toNat) && decide (c.toNat ≤ 122)) := rfl
  by_cases h1 : (97 : Int) ≤ (c.toNat : Int)
  · by_cases h2 : (c.toNat : Int) ≤ 122
    · have e : smallB c = true := by rw [e1, decide_eq_true (by omega), decide_eq_true (by omega)]; rfl
      rw [e]; clear e e1
      go_enter Tryd.func39, Tryd.ntmps39
      go_wp2
      go_ret
      exact ⟨rfl, 0, rfl⟩
    · have e : smallB c = false := by rw [e1, decide_eq_true (show 97 ≤ c.toNat by omega), decide_eq_false (show ¬ c.toNat ≤ 122 by omega)]; rfl
      rw [e]; clear e e1
      go_enter Tryd.func39, Tryd.ntmps39
      go_wp2
      go_ret
      exact ⟨rfl, 0, rfl⟩
  · have e : smallB c = false := by rw [e1, decide_eq_false (show ¬ 97 ≤ c.toNat by omega)]; rfl
    rw [e]; clear e e1
    go_enter Tryd.func39, Tryd.ntmps39
    go_wp2
    go_ret
    exact ⟨rfl, 0, rfl⟩
theorem digit22_any (c : UInt8) (w : World) : Calls Tryd.prog 40 #[.int .u8 (c.toNat : Int)] w fun e w' => e = .returned (.bool (digitB c)) ∧ ∃ n, w' = w.drewN n := by
  have e1 : digitB c = (decide (48 ≤ c.toNat) && decide (c.toNat ≤ 57)) := rfl
  by_cases h1 : (48 : Int) ≤ (c.toNat : Int)
  · by_cases h2 : (c.toNat : Int) ≤ 57
    · have e : digitB c = true := by rw [e1, decide_eq_true (by omega), decide_eq_true (by omega)]; rfl
      rw [e]; clear e e1
      go_enter Tryd.func40, Tryd.ntmps40
      go_wp2
      go_ret
      exact ⟨rfl, 0, rfl⟩
    · have e : digitB c = false := by rw [e1, decide_eq_true (show 48 ≤ c.toNat by omega), decide_eq_false (show ¬ c.toNat ≤ 57 by omega)]; rfl
      rw [e]; clear e e1
      go_enter Tryd.func40, Tryd.ntmps40
      go_wp2
      go_ret
      exact ⟨rfl, 0, rfl⟩
  · have e : digitB c = false := by rw [e1, decide_eq_false (show ¬ 48 ≤ c.toNat by omega)]; rfl
    rw [e]; clear e e1
    go_enter Tryd.func40, Tryd.ntmps40
    go_wp2
    go_ret
    exact ⟨rfl, 0, rfl⟩

/-- The signs as texts. -/
def sgs : List ByteArray := signL.map bs
theorem blk_lt22 {w : World} {g : Nat} {o : Obj} (h : w.heap[g]? = some o) : g < w.heap.size := by
  rcases Nat.lt_or_ge g w.heap.size with hl | hl
  · exact hl
  · rw [Array.getElem?_eq_none hl] at h; exact absurd h (by simp)
theorem blk_below22 {W w' : World} {g : Nat} {o : Obj} (h : Below W.heap.size W w') (hb : W.heap[g]? = some o) : w'.heap[g]? = some o := (h.block g (blk_lt22 hb)).trans hb
theorem sgs_at (j : Nat) (h : j < 10) : sgs.getD j ByteArray.empty = bs (signL.getD j []) := by
  match j, h with
  | 0, _ => rfl
  | 1, _ => rfl
  | 2, _ => rfl
  | 3, _ => rfl
  | 4, _ => rfl
  | 5, _ => rfl
  | 6, _ => rfl
  | 7, _ => rfl
  | 8, _ => rfl
  | 9, _ => rfl
theorem sgs_size (j : Nat) (h : j < 10) : (sgs.getD j ByteArray.empty).size ≤ 2 := by
  rw [sgs_at j h, bs_size]
  match j, h with
  | 0, _ | 1, _ | 2, _ | 3, _ | 4, _ | 5, _ | 6, _ | 7, _ | 8, _ | 9, _ => decide
/-- What the signs up to number j leave: kind, text, end. -/
def SgR (l : List UInt8) (i j : Nat) (k : Int) (txt : ByteArray) (e : Nat) : Prop := match sgAt l j with
  | none => k = 0 ∧ txt = ⟨#[]⟩ ∧ e = i
  | some x => k = 5 ∧ txt = bs x ∧ e = i + x.length
theorem sgR_yes {l : List UInt8} {i j : Nat} {Z : ByteArray} (hj : j < 10) (hz : Z = bs (signL.getD j [])) (hp : (signL.getD j []).isPrefixOf l = true) : SgR l i (j + 1) 5 Z (i + Z.size) := by
  unfold SgR
  rw [sgAt_succ l j hj, if_pos hp]
  exact ⟨rfl, hz, by rw [hz, bs_size]⟩
theorem sgR_no {l : List UInt8} {i j : Nat} {k : Int} {txt : ByteArray} {e : Nat} (hj : j < 10) (hp : ¬ (signL.getD j []).isPrefixOf l = true) (h : SgR l i j k txt e) : SgR l i (j + 1) k txt e := by
  unfold SgR at h ⊢
  rw [sgAt_succ l j hj, if_neg hp]
  exact h
theorem sg_fit (l : List UInt8) (Z : ByteArray) {x : List UInt8} (hz : Z = bs x) (hp : x.isPrefixOf l = true) : Z.size ≤ l.length := by
  rw [hz, bs_size]
  exact (List.isPrefixOf_iff_prefix.1 hp).length_le
theorem sg_eq (s : ByteArray) (i : Nat) (l : List UInt8) (h : s.data.toList.drop i = l) (Z : ByteArray) {x : List UInt8} (hz : Z = bs x) (hp : x.isPrefixOf l = true) : (s.extract i (i + Z.size)).toList = Z.toList := by
  rw [extract_take s i Z.size l h, hz, bs_size, bs_toList, bs_toList]
  exact (List.prefix_iff_eq_take.1 (List.isPrefixOf_iff_prefix.1 hp)).symm
theorem sg_eq' (s : ByteArray) (i : Nat) (l : List UInt8) (h : s.data.toList.drop i = l) (Z : ByteArray) {x : List UInt8} (hz : Z = bs x) (hp : (s.extract i (i + Z.size)).toList = Z.toList) : x.isPrefixOf l = true := by
  rw [extract_take s i Z.size l h, hz, bs_size, bs_toList, bs_toList] at hp
  rw [List.isPrefixOf_iff_prefix, List.prefix_iff_eq_take]
  exact hp.symm
theorem sg_row {w : World} {base gb : Nat} {v : Value} (hR : Kd.R Kd.string 9 w base (fun _ => True) v sgs) (hg : gb < base) :
    ∃ ad c, v = .slice (some ad) 10 c ∧ ad.block ≠ gb ∧ ∀ q, q < 10 → w.cell? (ad.add q) = some (.string (sgs.getD q ByteArray.empty)) := by
  obtain ⟨A, c, rfl, hl, hC⟩ := Kd.R_reads hR
  obtain ⟨ad, rfl, h0⟩ := Kd.at_string hC 0 (by omega) (by decide)
  refine ⟨ad, c, rfl, ?_, fun q hq => ?_⟩
  · have := (Kd.R_bound hR).1 ad.block (by simp [Value.ownBlock])
    omega
  · obtain ⟨ad', e, h1⟩ := Kd.at_string hC (q : Int) (by omega) (by show (q : Int) < ((10 : Nat) : Int); omega)
    cases e
    simpa [rdOf] using h1
theorem sg_far2 {w : World} {ad : Addr} {gb q a b : Nat} {u v x : Value} (hne : ad.block ≠ gb) (h : w.cell? (ad.add q) = some x) : ((w.setCell ⟨gb, a, none⟩ u).setCell ⟨gb, b, none⟩ v).cell? (ad.add q) = some x := by
  have hb : (ad.add q).block = ad.block := add_block _ _
  rw [World.cell?_of_block (w := w.setCell ⟨gb, a, none⟩ u) (Below.heap_setCell _ _ _ _ (by rw [hb]; exact hne)), World.cell?_of_block (w := w) (Below.heap_setCell _ _ _ _ (by rw [hb]; exact hne))]
  exact h
theorem sg_far1 {w : World} {ad : Addr} {gb q a : Nat} {u x : Value} (hne : ad.block ≠ gb) (h : w.cell? (ad.add q) = some x) : (w.setCell ⟨gb, a, none⟩ u).cell? (ad.add q) = some x := by
  have hb : (ad.add q).block = ad.block := add_block _ _
  rw [World.cell?_of_block (w := w) (Below.heap_setCell _ _ _ _ (by rw [hb]; exact hne))]
  exact h
theorem sg_far2d {w : World} {ad : Addr} {gb q a b n : Nat} {u v x : Value} (hne : ad.block ≠ gb) (h : w.cell? (ad.add q) = some x) : (((w.drewN n).setCell ⟨gb, a, none⟩ u).setCell ⟨gb, b, none⟩ v).cell? (ad.add q) = some x := sg_far2 hne h

/-- Behind the choice: what the token's box holds. -/
def SwR (w : World) (gb i : Nat) (T : Tk) (u5 : Value) (out : List S78) (v8 : Value) (wc : World) : Prop :=
  ∃ (k : Int) (txt : ByteArray) (n id : Int) (e : Nat), v8 = .int .i64 (e : Int) ∧ wc.heap[gb]? = some (.cells #[.int .i64 k, .string txt, .int .i64 n, .int .u64 id, .int .i64 (i : Int)] 78 (0, 0)) ∧
    ((k = 0 ∧ nOf T = 0) ∨ (k ≠ 0 ∧ nOf T ≠ 0 ∧ e = i + nOf T ∧ k = T.1 ∧ txt = T.2.1 ∧ n = T.2.2.1 ∧ id = T.2.2.2.1)) ∧
    Kd.R k78 78 wc w.heap.size (fun k_ => k_ ≠ gb) u5 out ∧ Below w.heap.size w wc
theorem SwR_zero {w wc : World} {gb i e : Nat} {T : Tk} {u5 : Value} {out : List S78} {txt : ByteArray} {n id : Int} (hT : T = zeroT) (hb : wc.heap[gb]? = some (.cells #[.int .i64 0, .string txt, .int .i64 n, .int .u64 id, .int .i64 (i : Int)] 78 (0, 0)))
    (hR : Kd.R k78 78 wc w.heap.size (fun k_ => k_ ≠ gb) u5 out) (hB : Below w.heap.size w wc) : SwR w gb i T u5 out (.int .i64 (e : Int)) wc :=
  ⟨0, txt, n, id, e, rfl, hb, .inl ⟨rfl, by rw [hT]; rfl⟩, hR, hB⟩
def forebearref22_Scan.f (a0 : ByteArray) : Option ((List (S78)) × Int × Int) := if a0.size ≤ 1024 then some ((scanT a0.data.toList 0 []).1.map cv, (scanT a0.data.toList 0 []).2.1, (scanT a0.data.toList 0 []).2.2) else some ([], 0, 4)
attribute [local irreducible] oneT nOf
set_option maxHeartbeats 60000000 in
set_option maxRecDepth 100000 in
theorem forebearref22_Scan.calls (a0 : ByteArray) (r1 : List (S78)) (r2 : Int) (r3 : Int) (w : World) (h : forebearref22_Scan.f a0 = some (r1, r2, r3)) :
    Calls Tryd.prog 16 #[.string a0] w fun e w' => ∃ v0_ : Value, e = .returned (.tuple #[v0_, .int .i64 r2, .int .i64 r3]) ∧ Kd.R k78 78 w' w.heap.size (fun _ => True) v0_ r1 ∧ Below w.heap.size w w' := by
  unfold forebearref22_Scan.f at h
  by_cases hs : a0.size ≤ 1024
  · rw [if_pos hs] at h
    have HF := Lib.hid (Option.some.inj h)
    clear h
    go_enter Tryd.func16, Tryd.ntmps16
    go_wp2
    go_loopw [5, 6] (fun v5 v6 wr => ∃ (i : Nat) (out : List S39), i ≤ a0.size ∧ out.length ≤ i ∧ v6 = .int .i64 (i : Int) ∧ Aside0 (((scanT (a0.data.toList.drop i) i out).1.map cv, (scanT (a0.data.toList.drop i) i out).2.1, (scanT (a0.data.toList.drop i) i out).2.2) = (r1, r2, r3)) ∧ Aside0 (Kd.R k78 78 wr w.heap.size (fun _ => True) v5 (out.map cv)) ∧ Aside0 (Below w.heap.size w wr)) (fun _ v6 _ => a0.size - (intOf v6).toNat)
    case atStart => exact ⟨0, [], by omega, by simp, rfl, ⟨HF.out⟩, ⟨Kd.R_nil _ _ _ _ _⟩, ⟨Below.refl _ _⟩⟩
    case round =>
      obtain ⟨i, out, hi, ho, rfl, HT, HR, HB⟩ := hrel
      by_cases hlt : i < a0.size
      · obtain ⟨c, r, hd, hd1, hc, hl, hx⟩ := scan_cons a0 i hlt
        have HC : Hid (a0[i] = c) := Lib.hid hc
        have HX := Lib.hid hx
        have HD := Lib.hid hd
        have HD1 := Lib.hid hd1
        clear hc hx hd hd1
        by_cases hb : c = 32 ∨ c = 9
        · as_aux_lemma =>
          have HT2 := Lib.hid HT.out
          rw [HD.out, scanT_blank hb, ← HD1.out] at HT2
          by_cases h32 : c = 32
          · have t32 : ((a0[i].toNat : Int) == 32) = true := by rw [HC.out, h32]; rfl
            clear hb h32
            go_wp2
            go_roundw
            case rel => exact ⟨i + 1, out, by omega, by omega, by go_num, ⟨HT2.out⟩, HR, HB⟩
            case measure => simp [intOf]; omega
          · have h9 : c = 9 := hb.resolve_left h32
            have t32 : ((a0[i].toNat : Int) == 32) = false := by rw [HC.out, h9]; rfl
            have t9 : ((a0[i].toNat : Int) == 9) = true := by rw [HC.out, h9]; rfl
            clear hb h32 h9
            go_wp2
            go_roundw
            case rel => exact ⟨i + 1, out, by omega, by omega, by go_num, ⟨HT2.out⟩, HR, HB⟩
            case measure => simp [intOf]; omega
        · have t32 : ((a0[i].toNat : Int) == 32) = false := by
            rw [HC.out, beq_eq_false_iff_ne]; intro e; exact hb (.inl ((byte_is c 32 (by decide)).1 e))
          have t9 : ((a0[i].toNat : Int) == 9) = false := by
            rw [HC.out, beq_eq_false_iff_ne]; intro e; exact hb (.inr ((byte_is c 9 (by decide)).1 e))
          have HNB := Lib.hid hb
          clear hb
          go_upto_block 2 with (fail)
          have HBX := Lib.hid (blk_new wr (Obj.cells #[.int .i64 0, .string (⟨#[]⟩ : ByteArray), .int .i64 0, .int .u64 0, .int .i64 (i : Int)] 78))
          have HG := Lib.hid HB.out.size
          have HB1 := Lib.hid (below_alloc HB.out (Obj.cells #[.int .i64 0, .string (⟨#[]⟩ : ByteArray), .int .i64 0, .int .u64 0, .int .i64 (i : Int)] 78))
          have HR1 := Lib.hid (Kd.R_mono (Kd.R_alloc (Kd.R_elderB HR.out wr.heap.size (Nat.le_refl _)) (Obj.cells #[.int .i64 0, .string (⟨#[]⟩ : ByteArray), .int .i64 0, .int .u64 0, .int .i64 (i : Int)] 78)) (fun k_ hk => hk.2))
          clear HR
          generalize wr.alloc (Obj.cells #[.int .i64 0, .string (⟨#[]⟩ : ByteArray), .int .i64 0, .int .u64 0, .int .i64 (i : Int)] 78) = w1 at *
          clear HB
          generalize wr.heap.size = gb at *
          go_cut [8] (fun v8 wc => SwR w gb i (oneT c r) u5 (out.map cv) v8 wc)
          case first =>
            have hc0 : w1.cell? ⟨gb, 0, none⟩ = some (.int .i64 0) := (blk_cell HBX.out 0).trans rfl
            have hc1 : w1.cell? ⟨gb, 1, none⟩ = some (.string (⟨#[]⟩ : ByteArray)) := (blk_cell HBX.out 1).trans rfl
            have hc2 : w1.cell? ⟨gb, 2, none⟩ = some (.int .i64 0) := (blk_cell HBX.out 2).trans rfl
            have hc3 : w1.cell? ⟨gb, 3, none⟩ = some (.int .u64 0) := (blk_cell HBX.out 3).trans rfl
            have hf0 := blk_frozen HBX.out 0
            have hf1 := blk_frozen HBX.out 1
            have hf2 := blk_frozen HBX.out 2
            have hf3 := blk_frozen HBX.out 3
            have C1 := fun W => small22_any a0[i] W
            cases hsm : smallB a0[i] with
            | true => as_aux_lemma =>
              simp only [hsm] at C1
              have HSM : Hid (smallB c = true) := Lib.hid (by rw [← HC.out]; exact hsm)
              clear hsm
              have hn := headN_le nameB (c :: r)
              simp only [List.length_cons] at hn
              have hn1 := head_pos nameB c r (by simp [nameB, HSM.out])
              go_wp2_with (go_at_call 39; (with_reducible refine (C1 _).mono ?_); rintro e w' ⟨rfl, ⟨nd, rfl⟩⟩)
              go_loopw [8] (fun v8 wx => ∃ (k m : Nat), k ≤ headN nameB (c :: r) ∧ v8 = .int .i64 ((i + k : Nat) : Int) ∧ wx = w1.drewN m) (fun v8 _ => a0.size - (intOf v8).toNat)
              case atStart => exact ⟨0, _, Nat.zero_le _, rfl, rfl⟩
              case round =>
                obtain ⟨k, m, hk, rfl, rfl⟩ := hrel
                clear C1
                by_cases hkn : k < headN nameB (c :: r)
                · have hlt2 : i + k < a0.size := by omega
                  have HP : Hid (nameB a0[i + k] = true) := Lib.hid (by rw [drop_get a0 i (c :: r) HD.out k (by simp; omega) hlt2]; exact head_lt hkn)
                  have D1 := fun W => small22_any a0[i + k] W
                  cases ha : smallB a0[i + k] with
                  | true =>
                    simp only [ha] at D1
                    clear ha
                    go_wp2_with (go_at_call 39; (with_reducible refine (D1 _).mono ?_); rintro e w' ⟨rfl, ⟨ne, rfl⟩⟩)
                    go_roundw
                    case rel => exact ⟨k + 1, _, by omega, by first | rfl | (congr 1; omega), by first | rfl⟩
                    case measure => simp [intOf]; omega
                  | false =>
                    simp only [ha] at D1
                    have D2 := fun W => digit22_any a0[i + k] W
                    cases hb : digitB a0[i + k] with
                    | true =>
                      simp only [hb] at D2
                      clear ha hb
                      go_wp2_with (first | (go_at_call 39; (with_reducible refine (D1 _).mono ?_); rintro e w' ⟨rfl, ⟨ne, rfl⟩⟩) | (go_at_call 40; (with_reducible refine (D2 _).mono ?_); rintro e w' ⟨rfl, ⟨nf, rfl⟩⟩))
                      go_roundw
                      case rel => exact ⟨k + 1, _, by omega, by first | rfl | (congr 1; omega), by first | rfl⟩
                      case measure => simp [intOf]; omega
                    | false =>
                      simp only [hb] at D2
                      have h95 : ((a0[i + k].toNat : Int) == 95) = true := by have := HP.out; simpa [nameB, ha, hb] using this
                      clear ha hb
                      go_wp2_with (first | (go_at_call 39; (with_reducible refine (D1 _).mono ?_); rintro e w' ⟨rfl, ⟨ne, rfl⟩⟩) | (go_at_call 40; (with_reducible refine (D2 _).mono ?_); rintro e w' ⟨rfl, ⟨nf, rfl⟩⟩))
                      go_roundw
                      case rel => exact ⟨k + 1, _, by omega, by first | rfl | (congr 1; omega), by first | rfl⟩
                      case measure => simp [intOf]; omega
                · obtain rfl : k = headN nameB (c :: r) := by omega
                  clear hkn hk
                  by_cases hend : i + headN nameB (c :: r) < a0.size
                  · have HP : Hid (nameB a0[i + headN nameB (c :: r)] = false) := Lib.hid (by rw [drop_get a0 i (c :: r) HD.out _ (by simp; omega) hend]; exact head_at (by simp; omega))
                    have ha : smallB a0[i + headN nameB (c :: r)] = false := by have := HP.out; simp only [nameB, Bool.or_eq_false_iff] at this; exact this.1.1
                    have hb : digitB a0[i + headN nameB (c :: r)] = false := by have := HP.out; simp only [nameB, Bool.or_eq_false_iff] at this; exact this.1.2
                    have h95 : ((a0[i + headN nameB (c :: r)].toNat : Int) == 95) = false := by have := HP.out; simp only [nameB, Bool.or_eq_false_iff] at this; exact this.2
                    have D1 := fun W => small22_any a0[i + headN nameB (c :: r)] W
                    have D2 := fun W => digit22_any a0[i + headN nameB (c :: r)] W
                    simp only [ha] at D1
                    simp only [hb] at D2
                    clear ha hb
                    by_cases hn16 : headN nameB (c :: r) ≤ 16
                    · have HT1 := Lib.hid (one_name c r HSM.out hn16)
                      have HEX := Lib.hid (extract_take a0 i (headN nameB (c :: r)) (c :: r) HD.out)
                      have HQ : Hid (nOf (oneT c r) = headN nameB (c :: r)) := Lib.hid (by rw [HT1.out]; unfold nOf; rfl)
                      go_wp2_with (first | (go_at_call 39; (with_reducible refine (D1 _).mono ?_); rintro e w' ⟨rfl, ⟨ne, rfl⟩⟩) | (go_at_call 40; (with_reducible refine (D2 _).mono ?_); rintro e w' ⟨rfl, ⟨nf, rfl⟩⟩))
                      go_meet
                      case rel =>
                        refine ⟨1, a0.extract i (i + headN nameB (c :: r)), 0, 0, i + headN nameB (c :: r), by first | rfl | (congr 1; omega), ?_, .inr ⟨by decide, by rw [HQ.out]; omega, by rw [HQ.out], by rw [HT1.out], by rw [HT1.out]; exact HEX.out, by rw [HT1.out], by rw [HT1.out]⟩, (by repeat (first | exact HR1.out | refine Kd.R_far ?_ (fun k_ hk => hk) _ | apply Kd.R_drewN | apply Kd.R_drew)), (by repeat (first | exact HB1.out | refine below_set ?_ HG.out | apply pw_below_drewN | apply below_drew1))⟩
                        exact blk_put (cs := #[.int .i64 1, .string (⟨#[]⟩ : ByteArray), .int .i64 0, .int .u64 0, .int .i64 (i : Int)]) (blk_put (cs := #[.int .i64 0, .string (⟨#[]⟩ : ByteArray), .int .i64 0, .int .u64 0, .int .i64 (i : Int)]) (by repeat (first | exact HBX.out | refine blk_drewN ?_ _)) 0 _ rfl) 1 _ rfl
                    · have HT1 := Lib.hid (one_name_no c r HSM.out hn16)
                      go_wp2_with (first | (go_at_call 39; (with_reducible refine (D1 _).mono ?_); rintro e w' ⟨rfl, ⟨ne, rfl⟩⟩) | (go_at_call 40; (with_reducible refine (D2 _).mono ?_); rintro e w' ⟨rfl, ⟨nf, rfl⟩⟩))
                      go_meet
                      case rel => exact SwR_zero (e := i + headN nameB (c :: r)) HT1.out (by repeat (first | exact HBX.out | refine blk_drewN ?_ _)) (by repeat (first | exact HR1.out | refine Kd.R_far ?_ (fun k_ hk => hk) _ | apply Kd.R_drewN | apply Kd.R_drew)) (by repeat (first | exact HB1.out | refine below_set ?_ HG.out | apply pw_below_drewN | apply below_drew1))
                  · by_cases hn16 : headN nameB (c :: r) ≤ 16
                    · have HT1 := Lib.hid (one_name c r HSM.out hn16)
                      have HEX := Lib.hid (extract_take a0 i (headN nameB (c :: r)) (c :: r) HD.out)
                      have HQ : Hid (nOf (oneT c r) = headN nameB (c :: r)) := Lib.hid (by rw [HT1.out]; unfold nOf; rfl)
                      go_wp2_with (fail)
                      go_meet
                      case rel =>
                        refine ⟨1, a0.extract i (i + headN nameB (c :: r)), 0, 0, i + headN nameB (c :: r), by first | rfl | (congr 1; omega), ?_, .inr ⟨by decide, by rw [HQ.out]; omega, by rw [HQ.out], by rw [HT1.out], by rw [HT1.out]; exact HEX.out, by rw [HT1.out], by rw [HT1.out]⟩, (by repeat (first | exact HR1.out | refine Kd.R_far ?_ (fun k_ hk => hk) _ | apply Kd.R_drewN | apply Kd.R_drew)), (by repeat (first | exact HB1.out | refine below_set ?_ HG.out | apply pw_below_drewN | apply below_drew1))⟩
                        exact blk_put (cs := #[.int .i64 1, .string (⟨#[]⟩ : ByteArray), .int .i64 0, .int .u64 0, .int .i64 (i : Int)]) (blk_put (cs := #[.int .i64 0, .string (⟨#[]⟩ : ByteArray), .int .i64 0, .int .u64 0, .int .i64 (i : Int)]) (by repeat (first | exact HBX.out | refine blk_drewN ?_ _)) 0 _ rfl) 1 _ rfl
                    · have HT1 := Lib.hid (one_name_no c r HSM.out hn16)
                      go_wp2_with (fail)
                      go_meet
                      case rel => exact SwR_zero (e := i + headN nameB (c :: r)) HT1.out (by repeat (first | exact HBX.out | refine blk_drewN ?_ _)) (by repeat (first | exact HR1.out | refine Kd.R_far ?_ (fun k_ hk => hk) _ | apply Kd.R_drewN | apply Kd.R_drew)) (by repeat (first | exact HB1.out | refine below_set ?_ HG.out | apply pw_below_drewN | apply below_drew1))
            | false =>
              have C2 := fun W => digit22_any a0[i] W
              cases hdg : digitB a0[i] with
              | true => as_aux_lemma =>
                simp only [hsm] at C1
                simp only [hdg] at C2
                have HSM : Hid (smallB c = false) := Lib.hid (by rw [← HC.out]; exact hsm)
                have HDG : Hid (digitB c = true) := Lib.hid (by rw [← HC.out]; exact hdg)
                clear hsm hdg
                have hn := headN_le digitB (c :: r)
                simp only [List.length_cons] at hn
                have hn1 := head_pos digitB c r HDG.out
                go_wp2_with (first | (go_at_call 39; (with_reducible refine (C1 _).mono ?_); rintro e w' ⟨rfl, ⟨nd, rfl⟩⟩) | (go_at_call 40; (with_reducible refine (C2 _).mono ?_); rintro e w' ⟨rfl, ⟨nf, rfl⟩⟩))
                clear hc0 hc1 hc2 hc3 hf0 hf1 hf2 hf3
                go_loopw [8] (fun v8 wx => ∃ (k : Nat), k ≤ headN digitB (c :: r) ∧ v8 = .int .i64 ((i + k : Nat) : Int) ∧ Aside0 (wx.heap[gb]? = some (.cells #[.int .i64 0, .string (⟨#[]⟩ : ByteArray), .int .i64 (dg ((c :: r).take (min k 9)) : Nat), .int .u64 0, .int .i64 (i : Int)] 78 (0, 0))) ∧ Aside0 (Kd.R k78 78 wx w.heap.size (fun k_ => k_ ≠ gb) u5 (out.map cv)) ∧ Aside0 (Below w.heap.size w wx)) (fun v8 _ => a0.size - (intOf v8).toNat)
                case atStart => exact ⟨0, Nat.zero_le _, rfl, ⟨by repeat (first | exact HBX.out | refine blk_drewN ?_ _)⟩, ⟨(by repeat (first | exact HR1.out | refine Kd.R_far ?_ (fun k_ hk => hk) _ | apply Kd.R_drewN | apply Kd.R_drew))⟩, ⟨(by repeat (first | exact HB1.out | refine below_set ?_ HG.out | apply pw_below_drewN | apply below_drew1))⟩⟩
                case round =>
                  obtain ⟨k, hk, rfl, HBK, HRW, HBW⟩ := hrel
                  clear C1 C2
                  have hc0 : wr.cell? ⟨gb, 0, none⟩ = some (.int .i64 0) := (blk_cell HBK.out 0).trans rfl
                  have hc2 : wr.cell? ⟨gb, 2, none⟩ = some (.int .i64 (dg ((c :: r).take (min k 9)) : Nat)) := (blk_cell HBK.out 2).trans rfl
                  have hf0 := blk_frozen HBK.out 0
                  have hf2 := blk_frozen HBK.out 2
                  by_cases hkn : k < headN digitB (c :: r)
                  · have hlt2 : i + k < a0.size := by omega
                    have HGET := Lib.hid (drop_get a0 i (c :: r) HD.out k (by simp; omega) hlt2)
                    have HP : Hid (digitB a0[i + k] = true) := Lib.hid (by rw [HGET.out]; exact head_lt hkn)
                    have D2 := fun W => digit22_any a0[i + k] W
                    simp only [HP.out] at D2
                    have hbd : 48 ≤ a0[i + k].toNat ∧ a0[i + k].toNat ≤ 57 := by have := HP.out; simpa [digitB] using this
                    by_cases h9 : k < 9
                    · have hdg9 : dg ((c :: r).take (min k 9)) < 1000000000 := by
                        have := dg_lt 9 ((c :: r).take (min k 9)) (by simp; omega) (fun x hx => head_all digitB (c :: r) x (by
                          rw [Nat.min_eq_left (by omega)] at hx
                          exact List.take_subset_take_left (c :: r) (by omega) hx))
                        simpa using this
                      have HST : Hid (dg ((c :: r).take (min (k + 1) 9)) = dg ((c :: r).take (min k 9)) * 10 + (a0[i + k].toNat - 48)) := Lib.hid (by
                        rw [Nat.min_eq_left (by omega), Nat.min_eq_left (by omega), List.take_succ_eq_append_getElem (by simp; omega), dg_snoc, HGET.out])
                      generalize dg ((c :: r).take (min k 9)) = z at *
                      obtain ⟨hb1, hb2⟩ := hbd
                      go_upto_region 28 with ((go_at_call 40; (with_reducible refine (D2 _).mono ?_); rintro e w' ⟨rfl, ⟨nf, rfl⟩⟩))
                      go_region
                      go_wp2
                      go_roundw
                      case rel => exact ⟨k + 1, by omega, by first | rfl | (congr 1; omega), ⟨by rw [HST.out]; exact blk_put (cs := #[.int .i64 0, .string (⟨#[]⟩ : ByteArray), .int .i64 z, .int .u64 0, .int .i64 (i : Int)]) (by repeat (first | exact HBK.out | refine blk_drewN ?_ _ | refine blk_drew ?_)) 2 _ (by simp; omega)⟩, ⟨(by repeat (first | exact HRW.out | refine Kd.R_far ?_ (fun k_ hk => hk) _ | apply Kd.R_drewN | apply Kd.R_drew))⟩, ⟨(by repeat (first | exact HBW.out | refine below_set ?_ HG.out | apply pw_below_drewN | apply below_drew1))⟩⟩
                      case measure => simp [intOf]; omega
                    · have HST : Hid (dg ((c :: r).take (min (k + 1) 9)) = dg ((c :: r).take (min k 9))) := Lib.hid (by rw [Nat.min_eq_right (by omega), Nat.min_eq_right (by omega)])
                      clear hbd
                      go_wp2_with (go_at_call 40; (with_reducible refine (D2 _).mono ?_); rintro e w' ⟨rfl, ⟨nf, rfl⟩⟩)
                      go_roundw
                      case rel => exact ⟨k + 1, by omega, by first | rfl | (congr 1; omega), ⟨by rw [HST.out]; repeat (first | exact HBK.out | refine blk_drewN ?_ _)⟩, ⟨(by repeat (first | exact HRW.out | refine Kd.R_far ?_ (fun k_ hk => hk) _ | apply Kd.R_drewN | apply Kd.R_drew))⟩, ⟨(by repeat (first | exact HBW.out | refine below_set ?_ HG.out | apply pw_below_drewN | apply below_drew1))⟩⟩
                      case measure => simp [intOf]; omega
                  · obtain rfl : k = headN digitB (c :: r) := by omega
                    clear hkn hk
                    by_cases hend : i + headN digitB (c :: r) < a0.size
                    · have hb : digitB a0[i + headN digitB (c :: r)] = false := by rw [drop_get a0 i (c :: r) HD.out _ (by simp; omega) hend]; exact head_at (by simp; omega)
                      have D2 := fun W => digit22_any a0[i + headN digitB (c :: r)] W
                      simp only [hb] at D2
                      clear hb
                      by_cases hn16 : headN digitB (c :: r) = 1 ∨ (headN digitB (c :: r) ≤ 9 ∧ c ≠ 48)
                      · have HT1 := Lib.hid (one_num c r HSM.out HDG.out hn16)
                        have HQ : Hid (nOf (oneT c r) = headN digitB (c :: r)) := Lib.hid (by rw [HT1.out]; unfold nOf; rfl)
                        have hn9 : headN digitB (c :: r) ≤ 9 := by omega
                        have HV : Hid (dg ((c :: r).take (min (headN digitB (c :: r)) 9)) = dg ((c :: r).take (headN digitB (c :: r)))) := Lib.hid (by rw [Nat.min_eq_left hn9])
                        by_cases h48 : c = 48
                        · have h1 : headN digitB (c :: r) ≤ 1 := Nat.le_of_eq (hn16.resolve_right (fun e => e.2 h48))
                          have t48 : ((a0[i].toNat : Int) != 48) = false := by rw [HC.out, h48]; rfl
                          clear hn16 h48
                          go_wp2_with ((go_at_call 40; (with_reducible refine (D2 _).mono ?_); rintro e w' ⟨rfl, ⟨nf, rfl⟩⟩))
                          go_meet
                          case rel => exact ⟨2, ⟨#[]⟩, _, 0, i + headN digitB (c :: r), rfl, blk_put (cs := #[.int .i64 0, .string (⟨#[]⟩ : ByteArray), .int .i64 (dg ((c :: r).take (min (headN digitB (c :: r)) 9)) : Nat), .int .u64 0, .int .i64 (i : Int)]) (by repeat (first | exact HBK.out | refine blk_drewN ?_ _)) 0 _ rfl, .inr ⟨by decide, by rw [HQ.out]; omega, by rw [HQ.out], by rw [HT1.out], by rw [HT1.out], by rw [HT1.out, HV.out], by rw [HT1.out]⟩, (by repeat (first | exact HRW.out | refine Kd.R_far ?_ (fun k_ hk => hk) _ | apply Kd.R_drewN | apply Kd.R_drew)), (by repeat (first | exact HBW.out | refine below_set ?_ HG.out | apply pw_below_drewN | apply below_drew1))⟩
                        · have t48 : ((a0[i].toNat : Int) != 48) = true := by
                            rw [HC.out, bne_iff_ne]; intro e; exact h48 ((byte_is c 48 (by decide)).1 e)
                          clear hn16 h48
                          go_wp2_with ((go_at_call 40; (with_reducible refine (D2 _).mono ?_); rintro e w' ⟨rfl, ⟨nf, rfl⟩⟩))
                          go_meet
                          case rel => exact ⟨2, ⟨#[]⟩, _, 0, i + headN digitB (c :: r), rfl, blk_put (cs := #[.int .i64 0, .string (⟨#[]⟩ : ByteArray), .int .i64 (dg ((c :: r).take (min (headN digitB (c :: r)) 9)) : Nat), .int .u64 0, .int .i64 (i : Int)]) (by repeat (first | exact HBK.out | refine blk_drewN ?_ _)) 0 _ rfl, .inr ⟨by decide, by rw [HQ.out]; omega, by rw [HQ.out], by rw [HT1.out], by rw [HT1.out], by rw [HT1.out, HV.out], by rw [HT1.out]⟩, (by repeat (first | exact HRW.out | refine Kd.R_far ?_ (fun k_ hk => hk) _ | apply Kd.R_drewN | apply Kd.R_drew)), (by repeat (first | exact HBW.out | refine below_set ?_ HG.out | apply pw_below_drewN | apply below_drew1))⟩
                      · have HT1 := Lib.hid (one_num_no c r HSM.out HDG.out hn16)
                        by_cases hn9 : headN digitB (c :: r) ≤ 9
                        · have h48 : c = 48 := by
                            by_cases e : c = 48
                            · exact e
                            · exact absurd (Or.inr ⟨hn9, e⟩) hn16
                          have hn1' : 2 ≤ headN digitB (c :: r) := by have : headN digitB (c :: r) ≠ 1 := fun e => hn16 (.inl e); omega
                          have t48 : ((a0[i].toNat : Int) != 48) = false := by rw [HC.out, h48]; rfl
                          clear hn16 h48
                          go_wp2_with ((go_at_call 40; (with_reducible refine (D2 _).mono ?_); rintro e w' ⟨rfl, ⟨nf, rfl⟩⟩))
                          go_meet
                          case rel => exact SwR_zero (e := i + headN digitB (c :: r)) HT1.out (by repeat (first | exact HBK.out | refine blk_drewN ?_ _)) (by repeat (first | exact HRW.out | refine Kd.R_far ?_ (fun k_ hk => hk) _ | apply Kd.R_drewN | apply Kd.R_drew)) (by repeat (first | exact HBW.out | refine below_set ?_ HG.out | apply pw_below_drewN | apply below_drew1))
                        · clear hn16
                          go_wp2_with ((go_at_call 40; (with_reducible refine (D2 _).mono ?_); rintro e w' ⟨rfl, ⟨nf, rfl⟩⟩))
                          go_meet
                          case rel => exact SwR_zero (e := i + headN digitB (c :: r)) HT1.out (by repeat (first | exact HBK.out | refine blk_drewN ?_ _)) (by repeat (first | exact HRW.out | refine Kd.R_far ?_ (fun k_ hk => hk) _ | apply Kd.R_drewN | apply Kd.R_drew)) (by repeat (first | exact HBW.out | refine below_set ?_ HG.out | apply pw_below_drewN | apply below_drew1))
                    · by_cases hn16 : headN digitB (c :: r) = 1 ∨ (headN digitB (c :: r) ≤ 9 ∧ c ≠ 48)
                      · have HT1 := Lib.hid (one_num c r HSM.out HDG.out hn16)
                        have HQ : Hid (nOf (oneT c r) = headN digitB (c :: r)) := Lib.hid (by rw [HT1.out]; unfold nOf; rfl)
                        have hn9 : headN digitB (c :: r) ≤ 9 := by omega
                        have HV : Hid (dg ((c :: r).take (min (headN digitB (c :: r)) 9)) = dg ((c :: r).take (headN digitB (c :: r)))) := Lib.hid (by rw [Nat.min_eq_left hn9])
                        by_cases h48 : c = 48
                        · have h1 : headN digitB (c :: r) ≤ 1 := Nat.le_of_eq (hn16.resolve_right (fun e => e.2 h48))
                          have t48 : ((a0[i].toNat : Int) != 48) = false := by rw [HC.out, h48]; rfl
                          clear hn16 h48
                          go_wp2_with (fail)
                          go_meet
                          case rel => exact ⟨2, ⟨#[]⟩, _, 0, i + headN digitB (c :: r), rfl, blk_put (cs := #[.int .i64 0, .string (⟨#[]⟩ : ByteArray), .int .i64 (dg ((c :: r).take (min (headN digitB (c :: r)) 9)) : Nat), .int .u64 0, .int .i64 (i : Int)]) (by repeat (first | exact HBK.out | refine blk_drewN ?_ _)) 0 _ rfl, .inr ⟨by decide, by rw [HQ.out]; omega, by rw [HQ.out], by rw [HT1.out], by rw [HT1.out], by rw [HT1.out, HV.out], by rw [HT1.out]⟩, (by repeat (first | exact HRW.out | refine Kd.R_far ?_ (fun k_ hk => hk) _ | apply Kd.R_drewN | apply Kd.R_drew)), (by repeat (first | exact HBW.out | refine below_set ?_ HG.out | apply pw_below_drewN | apply below_drew1))⟩
                        · have t48 : ((a0[i].toNat : Int) != 48) = true := by
                            rw [HC.out, bne_iff_ne]; intro e; exact h48 ((byte_is c 48 (by decide)).1 e)
                          clear hn16 h48
                          go_wp2_with (fail)
                          go_meet
                          case rel => exact ⟨2, ⟨#[]⟩, _, 0, i + headN digitB (c :: r), rfl, blk_put (cs := #[.int .i64 0, .string (⟨#[]⟩ : ByteArray), .int .i64 (dg ((c :: r).take (min (headN digitB (c :: r)) 9)) : Nat), .int .u64 0, .int .i64 (i : Int)]) (by repeat (first | exact HBK.out | refine blk_drewN ?_ _)) 0 _ rfl, .inr ⟨by decide, by rw [HQ.out]; omega, by rw [HQ.out], by rw [HT1.out], by rw [HT1.out], by rw [HT1.out, HV.out], by rw [HT1.out]⟩, (by repeat (first | exact HRW.out | refine Kd.R_far ?_ (fun k_ hk => hk) _ | apply Kd.R_drewN | apply Kd.R_drew)), (by repeat (first | exact HBW.out | refine below_set ?_ HG.out | apply pw_below_drewN | apply below_drew1))⟩
                      · have HT1 := Lib.hid (one_num_no c r HSM.out HDG.out hn16)
                        by_cases hn9 : headN digitB (c :: r) ≤ 9
                        · have h48 : c = 48 := by
                            by_cases e : c = 48
                            · exact e
                            · exact absurd (Or.inr ⟨hn9, e⟩) hn16
                          have hn1' : 2 ≤ headN digitB (c :: r) := by have : headN digitB (c :: r) ≠ 1 := fun e => hn16 (.inl e); omega
                          have t48 : ((a0[i].toNat : Int) != 48) = false := by rw [HC.out, h48]; rfl
                          clear hn16 h48
                          go_wp2_with (fail)
                          go_meet
                          case rel => exact SwR_zero (e := i + headN digitB (c :: r)) HT1.out (by repeat (first | exact HBK.out | refine blk_drewN ?_ _)) (by repeat (first | exact HRW.out | refine Kd.R_far ?_ (fun k_ hk => hk) _ | apply Kd.R_drewN | apply Kd.R_drew)) (by repeat (first | exact HBW.out | refine below_set ?_ HG.out | apply pw_below_drewN | apply below_drew1))
                        · clear hn16
                          go_wp2_with (fail)
                          go_meet
                          case rel => exact SwR_zero (e := i + headN digitB (c :: r)) HT1.out (by repeat (first | exact HBK.out | refine blk_drewN ?_ _)) (by repeat (first | exact HRW.out | refine Kd.R_far ?_ (fun k_ hk => hk) _ | apply Kd.R_drewN | apply Kd.R_drew)) (by repeat (first | exact HBW.out | refine below_set ?_ HG.out | apply pw_below_drewN | apply below_drew1))
              | false =>
                simp only [hsm] at C1
                simp only [hdg] at C2
                by_cases h39 : c = 39
                · as_aux_lemma =>
                  have HCQ := Lib.hid h39
                  have q39 : ((a0[i].toNat : Int) == 39) = true := by rw [HC.out, h39]; rfl
                  clear hsm hdg h39
                  have hn := headN_le quoB r
                  have HD1' := Lib.hid HD1.out
                  go_wp2_with (first | (go_at_call 39; (with_reducible refine (C1 _).mono ?_); rintro e w' ⟨rfl, ⟨nd, rfl⟩⟩) | (go_at_call 40; (with_reducible refine (C2 _).mono ?_); rintro e w' ⟨rfl, ⟨nf, rfl⟩⟩))
                  go_loopw [8] (fun v8 wx => ∃ (k m : Nat), k ≤ headN quoB r ∧ v8 = .int .i64 ((i + 1 + k : Nat) : Int) ∧ wx = w1.drewN m) (fun v8 _ => a0.size - (intOf v8).toNat)
                  case atStart => exact ⟨0, _, Nat.zero_le _, by first | rfl | (congr 1; omega), rfl⟩
                  case round =>
                    obtain ⟨k, m, hk, rfl, rfl⟩ := hrel
                    clear C1 C2
                    by_cases hkn : k < headN quoB r
                    · have hlt2 : i + 1 + k < a0.size := by omega
                      have HP : Hid (quoB a0[i + 1 + k] = true) := Lib.hid (by rw [drop_get a0 (i + 1) r HD1.out k (by omega) hlt2]; exact head_lt hkn)
                      have g39 : ((a0[i + 1 + k].toNat : Int) != 39) = true := by
                        rw [bne_iff_ne]; intro e; have := HP.out; rw [(byte_is _ 39 (by decide)).1 e] at this; exact absurd this (by decide)
                      have g10 : ((a0[i + 1 + k].toNat : Int) != 10) = true := by
                        rw [bne_iff_ne]; intro e; have := HP.out; rw [(byte_is _ 10 (by decide)).1 e] at this; exact absurd this (by decide)
                      go_wp2
                      go_roundw
                      case rel => exact ⟨k + 1, _, by omega, by first | rfl | (congr 1; omega), by first | rfl⟩
                      case measure => simp [intOf]; omega
                    · obtain rfl : k = headN quoB r := by omega
                      clear hkn hk
                      by_cases hend : i + 1 + headN quoB r < a0.size
                      · have HGET := Lib.hid (drop_get a0 (i + 1) r HD1.out (headN quoB r) (by omega) hend)
                        have HAT := Lib.hid (head_at (p := quoB) (l := r) (by omega))
                        by_cases hy : r[headN quoB r]'(by omega) = 39
                        · have g39 : ((a0[i + 1 + headN quoB r].toNat : Int) != 39) = false := by rw [HGET.out, hy]; rfl
                          have f39 : ((a0[i + 1 + headN quoB r].toNat : Int) == 39) = true := by rw [HGET.out, hy]; rfl
                          have HT1 : Hid (oneT c r = (3, bs (r.take (headN quoB r)), 0, 0, 0, (headN quoB r : Int) + 2)) := Lib.hid (by rw [HCQ.out]; exact quote_yes r (by omega) hy)
                          have HEX := Lib.hid (extract_take a0 (i + 1) (headN quoB r) r HD1.out)
                          have HQ : Hid (nOf (oneT c r) = headN quoB r + 2) := Lib.hid (by rw [HT1.out]; unfold nOf; rfl)
                          clear hy
                          go_wp2
                          go_meet
                          case rel =>
                            refine ⟨3, a0.extract (i + 1) (i + 1 + headN quoB r), 0, 0, i + (headN quoB r + 2), by first | rfl | (congr 1; omega), ?_, .inr ⟨by decide, by rw [HQ.out]; omega, by rw [HQ.out], by rw [HT1.out], by rw [HT1.out]; exact HEX.out, by rw [HT1.out], by rw [HT1.out]⟩, (by repeat (first | exact HR1.out | refine Kd.R_far ?_ (fun k_ hk => hk) _ | apply Kd.R_drewN | apply Kd.R_drew)), (by repeat (first | exact HB1.out | refine below_set ?_ HG.out | apply pw_below_drewN | apply below_drew1))⟩
                            exact blk_put (cs := #[.int .i64 3, .string (⟨#[]⟩ : ByteArray), .int .i64 0, .int .u64 0, .int .i64 (i : Int)]) (blk_put (cs := #[.int .i64 0, .string (⟨#[]⟩ : ByteArray), .int .i64 0, .int .u64 0, .int .i64 (i : Int)]) (by repeat (first | exact HBX.out | refine blk_drewN ?_ _)) 0 _ rfl) 1 _ rfl
                        · have HT1 : Hid (oneT c r = zeroT) := Lib.hid (by rw [HCQ.out]; exact quote_no r (fun _ => hy))
                          have h10 : r[headN quoB r]'(by omega) = 10 := by
                            have := HAT.out
                            simpa [quoB, hy] using this
                          have g39 : ((a0[i + 1 + headN quoB r].toNat : Int) != 39) = true := by rw [HGET.out, h10]; rfl
                          have f39 : ((a0[i + 1 + headN quoB r].toNat : Int) == 39) = false := by rw [HGET.out, h10]; rfl
                          have g10 : ((a0[i + 1 + headN quoB r].toNat : Int) != 10) = false := by rw [HGET.out, h10]; rfl
                          clear hy h10
                          go_wp2
                          go_meet
                          case rel => exact SwR_zero (e := i + 1 + headN quoB r) HT1.out (by repeat (first | exact HBX.out | refine blk_drewN ?_ _)) (by repeat (first | exact HR1.out | refine Kd.R_far ?_ (fun k_ hk => hk) _ | apply Kd.R_drewN | apply Kd.R_drew)) (by repeat (first | exact HB1.out | refine below_set ?_ HG.out | apply pw_below_drewN | apply below_drew1))
                      · have HT1 : Hid (oneT c r = zeroT) := Lib.hid (by rw [HCQ.out]; exact quote_no r (fun hq => absurd hq (by omega)))
                        go_wp2
                        go_meet
                        case rel => exact SwR_zero (e := i + 1 + headN quoB r) HT1.out (by repeat (first | exact HBX.out | refine blk_drewN ?_ _)) (by repeat (first | exact HR1.out | refine Kd.R_far ?_ (fun k_ hk => hk) _ | apply Kd.R_drewN | apply Kd.R_drew)) (by repeat (first | exact HB1.out | refine below_set ?_ HG.out | apply pw_below_drewN | apply below_drew1))
                · by_cases h35 : c = 35
                  · as_aux_lemma =>
                    have HCH := Lib.hid h35
                    have q39 : ((a0[i].toNat : Int) == 39) = false := by rw [HC.out, h35]; rfl
                    have q35 : ((a0[i].toNat : Int) == 35) = true := by rw [HC.out, h35]; rfl
                    clear hsm hdg h39 h35
                    by_cases hl16 : 16 < r.length + 1
                    · have HE : Hid (a0.extract (i + 1) (i + 17) = bs (r.take 16)) := Lib.hid (extract_take a0 (i + 1) 16 r HD1.out)
                      obtain ⟨⟨v, e⟩, hv⟩ : ∃ p : Int × Int, hexR (r.take 16) = p := ⟨_, rfl⟩
                      have HP : Hid (forebearref01_Parse.f 300 (a0.extract (i + 1) (i + 17)) = some (v, e)) := Lib.hid (by rw [HE.out, ref_parse_eq _ (by simp; omega), hv])
                      have P41 := fun W => forebearref01_Parse.calls 300 _ v e W HP.out
                      by_cases he : e = 0
                      · have HT1 : Hid (oneT c r = (4, ⟨#[]⟩, 0, v, 0, 17)) := Lib.hid (by rw [HCH.out]; exact one_hash_yes r v hl16 (by rw [hv, he]))
                        have HQ : Hid (nOf (oneT c r) = 17) := Lib.hid (by rw [HT1.out]; unfold nOf; rfl)
                        subst he
                        clear hv
                        go_wp2_with (first | (go_at_call 39; (with_reducible refine (C1 _).mono ?_); rintro e w' ⟨rfl, ⟨nd, rfl⟩⟩) | (go_at_call 40; (with_reducible refine (C2 _).mono ?_); rintro e w' ⟨rfl, ⟨nf, rfl⟩⟩) | (go_at_call 41; (with_reducible refine (P41 _).mono ?_); rintro e w' ⟨rfl, ⟨np, rfl⟩⟩))
                        go_meet
                        case rel =>
                          refine ⟨4, ⟨#[]⟩, 0, v, i + 17, by first | rfl | (congr 1; omega), ?_, .inr ⟨by decide, by rw [HQ.out]; decide, by rw [HQ.out], by rw [HT1.out], by rw [HT1.out], by rw [HT1.out], by rw [HT1.out]⟩, (by repeat (first | exact HR1.out | refine Kd.R_far ?_ (fun k_ hk => hk) _ | apply Kd.R_drewN | apply Kd.R_drew)), (by repeat (first | exact HB1.out | refine below_set ?_ HG.out | apply pw_below_drewN | apply below_drew1))⟩
                          exact blk_put (cs := #[.int .i64 4, .string (⟨#[]⟩ : ByteArray), .int .i64 0, .int .u64 0, .int .i64 (i : Int)]) (blk_put (cs := #[.int .i64 0, .string (⟨#[]⟩ : ByteArray), .int .i64 0, .int .u64 0, .int .i64 (i : Int)]) (by repeat (first | exact HBX.out | refine blk_drewN ?_ _)) 0 _ rfl) 3 _ rfl
                      · have HT1 : Hid (oneT c r = zeroT) := Lib.hid (by rw [HCH.out]; exact one_hash_bad r v e hl16 hv he)
                        have te : (e == 0) = false := beq_eq_false_iff_ne.2 he
                        clear hv he
                        go_wp2_with (first | (go_at_call 39; (with_reducible refine (C1 _).mono ?_); rintro e w' ⟨rfl, ⟨nd, rfl⟩⟩) | (go_at_call 40; (with_reducible refine (C2 _).mono ?_); rintro e w' ⟨rfl, ⟨nf, rfl⟩⟩) | (go_at_call 41; (with_reducible refine (P41 _).mono ?_); rintro e w' ⟨rfl, ⟨np, rfl⟩⟩))
                        go_meet
                        case rel => exact SwR_zero (e := i) HT1.out (by repeat (first | exact HBX.out | refine blk_drewN ?_ _)) (by repeat (first | exact HR1.out | refine Kd.R_far ?_ (fun k_ hk => hk) _ | apply Kd.R_drewN | apply Kd.R_drew)) (by repeat (first | exact HB1.out | refine below_set ?_ HG.out | apply pw_below_drewN | apply below_drew1))
                    · have HT1 : Hid (oneT c r = zeroT) := Lib.hid (by rw [HCH.out]; exact one_hash_short r hl16)
                      go_wp2_with (first | (go_at_call 39; (with_reducible refine (C1 _).mono ?_); rintro e w' ⟨rfl, ⟨nd, rfl⟩⟩) | (go_at_call 40; (with_reducible refine (C2 _).mono ?_); rintro e w' ⟨rfl, ⟨nf, rfl⟩⟩))
                      go_meet
                      case rel => exact SwR_zero (e := i) HT1.out (by repeat (first | exact HBX.out | refine blk_drewN ?_ _)) (by repeat (first | exact HR1.out | refine Kd.R_far ?_ (fun k_ hk => hk) _ | apply Kd.R_drewN | apply Kd.R_drew)) (by repeat (first | exact HB1.out | refine below_set ?_ HG.out | apply pw_below_drewN | apply below_drew1))
                  · as_aux_lemma =>
                    have q39 : ((a0[i].toNat : Int) == 39) = false := by rw [HC.out, beq_eq_false_iff_ne]; intro e; exact h39 ((byte_is c 39 (by decide)).1 e)
                    have q35 : ((a0[i].toNat : Int) == 35) = false := by rw [HC.out, beq_eq_false_iff_ne]; intro e; exact h35 ((byte_is c 35 (by decide)).1 e)
                    have HSG := Lib.hid (sg_all c r (by rw [← HC.out, hsm]; decide) (by rw [← HC.out, hdg]; decide) h39 h35)
                    clear hsm hdg h39 h35
                    have CS := fun W => forebearref22_signs.calls sgs W rfl
                    clear hc0 hc1 hc2 hc3 hf0 hf1 hf2 hf3
                    have HGL := Lib.hid (blk_lt22 HBX.out)
                    go_wp2_with (first | (go_at_call 39; (with_reducible refine (C1 _).mono ?_); rintro e w' ⟨rfl, ⟨nd, rfl⟩⟩) | (go_at_call 40; (with_reducible refine (C2 _).mono ?_); rintro e w' ⟨rfl, ⟨nf, rfl⟩⟩) | (go_at_call 42; (with_reducible refine (CS _).mono ?_); rintro e w' ⟨v0_, rfl, hRS, hBS⟩; have HBX2 := Lib.hid (blk_below22 hBS (by repeat (first | exact HBX.out | refine blk_drewN ?_ _ | refine blk_drew ?_))); have HR2 := Lib.hid (Kd.R_below (by repeat (first | exact HR1.out | refine Kd.R_far ?_ (fun k_ hk => hk) _ | apply Kd.R_drewN | apply Kd.R_drew)) hBS); have HB2 := Lib.hid (below_step (by repeat (first | exact HB1.out | refine below_set ?_ HG.out | apply pw_below_drewN | apply below_drew1)) hBS); obtain ⟨ad, cS, rfl, hne, hce⟩ := sg_row hRS (by first | exact HGL.out | exact blk_lt22 (by repeat (first | exact HBX.out | refine blk_drewN ?_ _ | refine blk_drew ?_))); have HNE := Lib.hid hne; have HCE0 := Lib.hid hce; clear hRS hBS hne hce))
                    clear HBX HR1 HB1 CS
                    go_loopw [8, 12] (fun v8 v12 wx => ∃ (j e : Nat) (k : Int) (txt : ByteArray), j ≤ 10 ∧ v12 = .int .i64 (j : Int) ∧ v8 = .int .i64 (e : Int) ∧ Aside0 (SgR (c :: r) i j k txt e) ∧ Aside0 (wx.heap[gb]? = some (.cells #[.int .i64 k, .string txt, .int .i64 0, .int .u64 0, .int .i64 (i : Int)] 78 (0, 0))) ∧ Aside0 (∀ q, q < 10 → wx.cell? (ad.add q) = some (.string (sgs.getD q ByteArray.empty))) ∧ Aside0 (Kd.R k78 78 wx w.heap.size (fun k_ => k_ ≠ gb) u5 (out.map cv)) ∧ Aside0 (Below w.heap.size w wx)) (fun _ v12 _ => 10 - (intOf v12).toNat)
                    case atStart => exact ⟨0, i, 0, ⟨#[]⟩, by omega, rfl, rfl, ⟨rfl, rfl, rfl⟩, ⟨HBX2.out⟩, ⟨HCE0.out⟩, ⟨HR2.out⟩, ⟨HB2.out⟩⟩
                    case round =>
                      obtain ⟨j, e, k, txt, hj, rfl, rfl, HS, HBK, HCE, HRW, HBW⟩ := hrel
                      clear C1 C2 HBX2 HCE0 HR2 HB2
                      by_cases hjn : j < 10
                      · have hce := HCE.out j hjn
                        have HZ := Lib.hid (sgs_at j hjn)
                        have hz2 : (sgs.getD j ByteArray.empty).size ≤ 2 := sgs_size j hjn
                        generalize sgs.getD j ByteArray.empty = Z at *
                        have hc0 : wr.cell? ⟨gb, 0, none⟩ = some (.int .i64 k) := (blk_cell HBK.out 0).trans rfl
                        have hc1 : wr.cell? ⟨gb, 1, none⟩ = some (.string txt) := (blk_cell HBK.out 1).trans rfl
                        have hf0 := blk_frozen HBK.out 0
                        have hf1 := blk_frozen HBK.out 1
                        have s1 : ((i : Int) + (Z.size : Int)).toNat = i + Z.size := by omega
                        have s2 : (0 : Int) ≤ (i : Int) + (Z.size : Int) := by omega
                        by_cases hp : (signL.getD j []).isPrefixOf (c :: r) = true
                        · have hfit : i + Z.size ≤ a0.size := by have := sg_fit (c :: r) Z HZ.out hp; simp only [List.length_cons] at this; omega
                          have T1 : decide ((i : Int) + (Z.size : Int) ≤ (a0.size : Int)) = true := decide_eq_true (by omega)
                          have s0 : IntKind.i64.wrap ((i : Int) + (Z.size : Int)) = (i : Int) + (Z.size : Int) := IntWalk.i64_in _ (by omega)
                          have hce2 : ∀ u, (wr.setCell ⟨gb, 0, none⟩ u).cell? (ad.add j) = some (.string Z) := fun u => sg_far1 HNE.out hce
                          have hce3 : ∀ u n, ((wr.drewN n).setCell ⟨gb, 0, none⟩ u).cell? (ad.add j) = some (.string Z) := fun u n => sg_far1 (w := wr.drewN n) HNE.out hce
                          have T2 : ((a0.extract i (i + Z.size)).toList == Z.toList) = true := by
                            rw [beq_iff_eq]; exact sg_eq a0 i (c :: r) HD.out Z HZ.out hp
                          have HS2 : Hid (SgR (c :: r) i (j + 1) 5 Z (i + Z.size)) := Lib.hid (sgR_yes (by omega) HZ.out hp)
                          clear hp
                          go_upto_region 15 with (fail)
                          go_quiet (fail)
                          go_wp2
                          go_roundw
                          case rel => exact ⟨j + 1, i + Z.size, 5, Z, by omega, by first | rfl | (congr 1; omega), by first | rfl | (congr 1; omega), ⟨HS2.out⟩, ⟨blk_put (cs := #[.int .i64 5, .string txt, .int .i64 0, .int .u64 0, .int .i64 (i : Int)]) (blk_put (cs := #[.int .i64 k, .string txt, .int .i64 0, .int .u64 0, .int .i64 (i : Int)]) (by repeat (first | exact HBK.out | refine blk_drewN ?_ _ | refine blk_drew ?_)) 0 _ rfl) 1 _ rfl⟩, ⟨fun q hq => by first | exact sg_far2 HNE.out (HCE.out q hq) | exact sg_far2d HNE.out (HCE.out q hq)⟩, ⟨(by repeat (first | exact HRW.out | refine Kd.R_far ?_ (fun k_ hk => hk) _ | apply Kd.R_drewN | apply Kd.R_drew))⟩, ⟨(by repeat (first | exact HBW.out | refine below_set ?_ HG.out | apply pw_below_drewN | apply below_drew1))⟩⟩
                          case measure => simp [intOf]; omega
                        · have HS2 : Hid (SgR (c :: r) i (j + 1) k txt e) := Lib.hid (sgR_no (by omega) hp HS.out)
                          by_cases hfit : i + Z.size ≤ a0.size
                          · have T1 : decide ((i : Int) + (Z.size : Int) ≤ (a0.size : Int)) = true := decide_eq_true (by omega)
                            have T2 : ((a0.extract i (i + Z.size)).toList == Z.toList) = false := by
                              rw [beq_eq_false_iff_ne]; intro e; exact hp (sg_eq' a0 i (c :: r) HD.out Z HZ.out e)
                            clear hp
                            have s0 : IntKind.i64.wrap ((i : Int) + (Z.size : Int)) = (i : Int) + (Z.size : Int) := IntWalk.i64_in _ (by omega)
                            go_upto_region 15 with (fail)
                            go_quiet (fail)
                            go_wp2
                            go_roundw
                            case rel => exact ⟨j + 1, e, k, txt, by omega, by first | rfl | (congr 1; omega), rfl, ⟨HS2.out⟩, ⟨by repeat (first | exact HBK.out | refine blk_drewN ?_ _ | refine blk_drew ?_)⟩, ⟨HCE.out⟩, ⟨(by repeat (first | exact HRW.out | refine Kd.R_far ?_ (fun k_ hk => hk) _ | apply Kd.R_drewN | apply Kd.R_drew))⟩, ⟨(by repeat (first | exact HBW.out | refine below_set ?_ HG.out | apply pw_below_drewN | apply below_drew1))⟩⟩
                            case measure => simp [intOf]; omega
                          · have T1 : decide ((i : Int) + (Z.size : Int) ≤ (a0.size : Int)) = false := decide_eq_false (by omega)
                            clear hp
                            have s0 : IntKind.i64.wrap ((i : Int) + (Z.size : Int)) = (i : Int) + (Z.size : Int) := IntWalk.i64_in _ (by omega)
                            go_upto_region 15 with (fail)
                            go_quiet (fail)
                            go_wp2
                            go_roundw
                            case rel => exact ⟨j + 1, e, k, txt, by omega, by first | rfl | (congr 1; omega), rfl, ⟨HS2.out⟩, ⟨by repeat (first | exact HBK.out | refine blk_drewN ?_ _ | refine blk_drew ?_)⟩, ⟨HCE.out⟩, ⟨(by repeat (first | exact HRW.out | refine Kd.R_far ?_ (fun k_ hk => hk) _ | apply Kd.R_drewN | apply Kd.R_drew))⟩, ⟨(by repeat (first | exact HBW.out | refine below_set ?_ HG.out | apply pw_below_drewN | apply below_drew1))⟩⟩
                            case measure => simp [intOf]; omega
                      · obtain rfl : j = 10 := by omega
                        clear hjn hj
                        go_wp2
                        go_meet
                        case rel =>
                          have hs := HS.out
                          unfold SgR at hs
                          rcases HSG.out with ⟨x, hx, hx0, ht⟩ | ⟨hx, ht⟩
                          · rw [hx] at hs
                            obtain ⟨rfl, rfl, rfl⟩ := hs
                            exact ⟨5, bs x, 0, 0, _, rfl, (by repeat (first | exact HBK.out | refine blk_drewN ?_ _ | refine blk_drew ?_)), .inr ⟨by decide, by rw [ht]; unfold nOf; simp; exact hx0, by rw [ht]; unfold nOf; simp, by rw [ht], by rw [ht], by rw [ht], by rw [ht]⟩, (by repeat (first | exact HRW.out | refine Kd.R_far ?_ (fun k_ hk => hk) _ | apply Kd.R_drewN | apply Kd.R_drew)), (by repeat (first | exact HBW.out | refine below_set ?_ HG.out | apply pw_below_drewN | apply below_drew1))⟩
                          · rw [hx] at hs
                            obtain ⟨rfl, rfl, rfl⟩ := hs
                            exact SwR_zero ht (by repeat (first | exact HBK.out | refine blk_drewN ?_ _ | refine blk_drew ?_)) (by repeat (first | exact HRW.out | refine Kd.R_far ?_ (fun k_ hk => hk) _ | apply Kd.R_drewN | apply Kd.R_drew)) (by repeat (first | exact HBW.out | refine below_set ?_ HG.out | apply pw_below_drewN | apply below_drew1))
          case rest =>
            as_aux_lemma =>
              unfold SwR at hcut
              obtain ⟨k, txt, n, id, e, rfl, hbk, hcase, hR2, hB2⟩ := hcut
              have HBK := Lib.hid hbk
              have HR2 := Lib.hid hR2
              have HB2 := Lib.hid hB2
              clear hbk hR2 hB2
              have hc0 : wc.cell? ⟨gb, 0, none⟩ = some (.int .i64 k) := (blk_cell HBK.out 0).trans rfl
              have hc1 : wc.cell? ⟨gb, 1, none⟩ = some (.string txt) := (blk_cell HBK.out 1).trans rfl
              have hc2 : wc.cell? ⟨gb, 2, none⟩ = some (.int .i64 n) := (blk_cell HBK.out 2).trans rfl
              have hc3 : wc.cell? ⟨gb, 3, none⟩ = some (.int .u64 id) := (blk_cell HBK.out 3).trans rfl
              have hc4 : wc.cell? ⟨gb, 4, none⟩ = some (.int .i64 (i : Int)) := (blk_cell HBK.out 4).trans rfl
              rcases hcase with ⟨hk0, hn0⟩ | ⟨hk0, hn0, he, hk, htx, hnn, hid⟩
              · have HT2 : Hid ((([] : List S78), (i : Int), (30 : Int)) = (r1, r2, r3)) := Lib.hid (by
                  have := HT.out
                  rw [HD.out, scanT_bad HNB.out hn0] at this
                  exact this)
                have tk : (k == 0) = true := beq_iff_eq.2 hk0
                clear HT hk0 hn0
                go_wp2
                go_ret3
                have e1 := HT2.out
                simp only [Prod.mk.injEq] at e1
                obtain ⟨rfl, rfl, rfl⟩ := e1
                exact ⟨_, rfl, Kd.R_nil _ _ _ _ _, HB2.out⟩
              · have HT2 := Lib.hid HT.out
                have htk : tokOf (oneT c r) i = ⟨k, txt, n, id, (i : Int)⟩ := by rw [hk, htx, hnn, hid]; rfl
                rw [HD.out, scanT_tok HNB.out hn0, ← HD.out, List.drop_drop, htk] at HT2
                have hq := nOf_le c r
                have tk : (k == 0) = false := beq_eq_false_iff_ne.2 hk0
                have hel : e ≤ a0.size := by omega
                have hei : i < e := by omega
                rw [← he] at HT2
                clear HT hk0 hn0 he hk htx hnn hid htk hq
                have HOUT : Hid ((out ++ [(⟨k, txt, n, id, (i : Int)⟩ : S39)]).map cv = out.map cv ++ [(⟨k, txt, n, id, (i : Int)⟩ : S78)]) := Lib.hid (by simp [cv])
                have hol : (out.map cv).length ≤ i := by simpa using ho
                go_wp2_with (at_builtin; refine Kd.R_append k78 (w0 := w) w.heap.size rfl (.tmp 238) (.tmp 240) 27 78 (.agg #[(.int .i64 0), (.string ⟨#[]⟩), (.int .i64 0), (.int .u64 0), (.int .i64 0)]) 48 rfl Tryd.underlying27 info78 rfl (by decide) (by omega) u5 (out.map cv) (⟨k, txt, n, id, (i : Int)⟩ : S78) [.int .i64 k, .string txt, .int .i64 n, .int .u64 id, .int .i64 i] (fun k_ => k_ ≠ gb) (fun _ => False) rfl (by first | (go_simp; done) | (go_simp; rfl)) (k78_mkM _ _ _ (⟨k, txt, n, id, (i : Int)⟩ : S78)) (fun _ hk => hk.elim) (Kd.freshB HBK.out) HR2.out HB2.out (below_size HB2.out) (by omega) ?_; intro v1 w2 ho2 hb2 hg2 hat2; clear hg2 hat2; have HO2 := Lib.hid ho2; have HB3 := Lib.hid hb2; clear ho2 hb2)
                go_roundw
                case rel => exact ⟨e, out ++ [⟨k, txt, n, id, (i : Int)⟩], by omega, by simp; omega, rfl, ⟨HT2.out⟩, ⟨by rw [HOUT.out]; exact Kd.R_mono HO2.out (fun _ _ => trivial)⟩, ⟨HB3.out⟩⟩
                case measure => simp [intOf]; omega
      · have HT2 : Hid ((out.map cv, (0 : Int), (0 : Int)) = (r1, r2, r3)) := Lib.hid (by
          have := HT.out
          rw [List.drop_eq_nil_of_le (by simp; omega), scanT_nil] at this
          exact this)
        clear HT
        go_wp2
        go_ret3
        have e1 := HT2.out
        simp only [Prod.mk.injEq] at e1
        obtain ⟨rfl, rfl, rfl⟩ := e1
        exact ⟨_, rfl, HR.out, HB.out⟩
  · rw [if_neg hs] at h
    have e1 := Option.some.inj h
    simp only [Prod.mk.injEq] at e1
    obtain ⟨rfl, rfl, rfl⟩ := e1
    clear h
    go_enter Tryd.func16, Tryd.ntmps16
    go_wp2
    go_ret3
    exact ⟨_, rfl, Kd.R_nil _ _ _ _ _, Below.refl _ _⟩

end Go.Proofs.YtfgfoofojofnmaaDoor.Q
