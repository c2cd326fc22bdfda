/- What two sets come to by a sign is a set; a number or a text there is refused at its place, the left one first: the law, walked. -/
import Derived.Test.YtfgfoofojofnmaaDoorT3
import Derived.Test.YtfgfoofojofnmaaDoorP7
import Derived.Test.YtfgfoofojofnmaaDoorQF22
import Derived.Test.YtfgfoofojofnmaaDoorQF21
import Derived.Outline
import Derived.Deep.DeepCutAuto
import Derived.Deep.CutBlock
namespace Go.Proofs.YtfgfoofojofnmaaDoor.Q
open Go.RowKit Go.Proofs.YtfgfoofojofnmaaDoorW.PrintWords Go.Proofs.YtfgfoofojofnmaaDoorW.PrintLast Go.Proofs.YtfgfoofojofnmaaDoorW.PrintMore
set_option linter.unusedVariables false
set_option linter.unusedSimpArgs false
open Go.Proofs.YtfgfoofojofnmaaDoor.Hand
/-- At other places a tree comes to the same. -/
theorem check_mp (g : Int → Int) (n : Nat) : (∀ x, wt x ≤ n → (checkT (mp g x)).1 = (checkT x).1 ∧ (checkT (mp g x)).2.2 = (checkT x).2.2) := by
  induction n with
  | zero => exact fun x h => absurd (wt_pos x) (by omega)
  | succ n ih =>
    intro x hx
    have e := wt_is x
    have loop : ∀ (tk : List Int) (is : Int) (ks : List S44) (i : Nat), wtM ks ≤ n → (checkM tk is i (mpM g ks)).1 = (checkM tk is i ks).1 ∧ (checkM tk is i (mpM g ks)).2.2 = (checkM tk is i ks).2.2 := by
      intro tk is ks
      induction ks with
      | nil => intro i h; rw [mpM_nil]; exact ⟨rfl, rfl⟩
      | cons k ks ihk =>
        intro i h
        rw [wtM_cons] at h
        have hk := ih k (by omega)
        have hp := wt_pos k
        rw [mpM_cons, checkM_cons, checkM_cons, hk.1, hk.2]
        by_cases hc : (checkT k).2.2 = 0
        · rw [if_pos hc, if_pos hc]
          by_cases ht : (checkT k).1 = atT tk i
          · rw [if_pos ht, if_pos ht]; exact ihk _ (by omega)
          · rw [if_neg ht, if_neg ht]; exact ⟨rfl, rfl⟩
        · rw [if_neg hc, if_neg hc]; exact ⟨rfl, rfl⟩
    obtain ⟨a, b, c, d, ks, p⟩ := x
    have hl : (mpM g ks).length = ks.length := by
      clear hx e
      induction ks with
      | nil => rw [mpM_nil]
      | cons k ks ihk => rw [mpM_cons, List.length_cons, List.length_cons, ihk]
    have hw : wtM ks ≤ n := by rw [wt_mk] at hx; omega
    rw [mp_mk, checkT_is, checkT_is]
    simp only [hl]
    by_cases h12 : a = 1 ∨ a = 2
    · rw [if_pos h12, if_pos h12]; exact ⟨rfl, rfl⟩
    · rw [if_neg h12, if_neg h12]
      by_cases h3 : a = 3
      · rw [if_pos h3, if_pos h3]; exact ⟨rfl, rfl⟩
      · rw [if_neg h3, if_neg h3]
        by_cases h4 : a = 4
        · rw [if_pos h4, if_pos h4]; exact ⟨rfl, rfl⟩
        · rw [if_neg h4, if_neg h4]
          by_cases h5 : a = 5
          · rw [if_pos h5, if_pos h5]
            by_cases hf : (faceC (nameC b.toList)).2.2.2.2 = true
            · rw [if_pos hf, if_pos hf]
              by_cases hlo : (ks.length : Int) < (faceC (nameC b.toList)).1
              · rw [if_pos hlo, if_pos hlo]; exact ⟨rfl, rfl⟩
              · rw [if_neg hlo, if_neg hlo]
                by_cases hhi : (faceC (nameC b.toList)).2.1 < (ks.length : Int)
                · rw [if_pos hhi, if_pos hhi]; exact ⟨rfl, rfl⟩
                · rw [if_neg hhi, if_neg hhi]; exact loop _ _ _ _ hw
            · rw [if_neg hf, if_neg hf]; exact ⟨rfl, rfl⟩
          · rw [if_neg h5, if_neg h5]; exact loop _ _ _ _ hw
/-- The text that the law puts together. -/
def twoB (a b : ByteArray) (s : ByteArray) : ByteArray := ((((((⟨#[40]⟩ : ByteArray) ++ a) ++ (⟨#[41]⟩ : ByteArray)) ++ s) ++ (⟨#[40]⟩ : ByteArray)) ++ b) ++ (⟨#[41]⟩ : ByteArray)
theorem twoB_list (a b s : ByteArray) : (twoB a b s).data.toList = 40 :: (a.data.toList ++ 41 :: (s.data.toList ++ 40 :: (b.data.toList ++ 41 :: []))) := by
  simp [twoB]
def signB5 : List (ByteArray × Int) := [(⟨#[124]⟩, 6), (⟨#[45]⟩, 7), (⟨#[38]⟩, 8), (⟨#[46, 46]⟩, 9), (⟨#[58, 58]⟩, 10)]
theorem two_parse {a b s : ByteArray} {op : Int} (ha : (parseT a).2.2 = 0) (hb : (parseT b).2.2 = 0) (hs : (s.data.toList = [124] ∧ op = 6) ∨ (s.data.toList = [45] ∧ op = 7) ∨ (s.data.toList = [38] ∧ op = 8) ∨ (s.data.toList = [46, 46] ∧ op = 9) ∨ (s.data.toList = [58, 58] ∧ op = 10)) :
    ∃ g1 g2 : Int → Int, ∃ (A : List S39) (k : Nat), scanT (twoB a b s).data.toList 0 [] = (A, 0, 0) ∧ k + 7 = 6 * A.length + 6 ∧ ∀ ev q, exprF ev (k + 7) ⟨A, false, q⟩ = (nd op [mp g1 (parseT a).1, mp g2 (parseT b).1] ((a.size + 2 : Nat) : Int), ⟨[], false, q⟩) := by
  obtain ⟨_, A, hA, rA, _, _⟩ := parse_ok a ha
  obtain ⟨_, B, hB, rB, _, _⟩ := parse_ok b hb
  have hs1 : s.data.toList = [124] ∨ s.data.toList = [45] ∨ s.data.toList = [38] ∨ s.data.toList = [46, 46] ∨ s.data.toList = [58, 58] := by
    rcases hs with h | h | h | h | h
    · exact .inl h.1
    · exact .inr (.inl h.1)
    · exact .inr (.inr (.inl h.1))
    · exact .inr (.inr (.inr (.inl h.1)))
    · exact .inr (.inr (.inr (.inr h.1)))
  have h2 := scan_two hA hB _ hs1
  rw [← twoB_list] at h2
  have hsz0 : a.data.toList.length = a.size := by simp
  have hsz : 0 + 1 + a.data.toList.length + 1 = a.size + 2 := by omega
  refine ⟨(fun x => x + ((0 + 1 : Nat) : Int)), (fun x => x + ((0 + 1 + a.data.toList.length + 1 + s.data.toList.length + 1 : Nat) : Int)), _, 6 * (A.length + B.length) + 29, h2, by simp; omega, fun ev q => ?_⟩
  have h3 := two_read rA rB ev (fun x => x + ((0 + 1 : Nat) : Int)) (fun x => x + ((0 + 1 + a.data.toList.length + 1 + s.data.toList.length + 1 : Nat) : Int)) q 0 (0 + 1 + a.data.toList.length) (0 + 1 + a.data.toList.length + 1) (0 + 1 + a.data.toList.length + 1 + s.data.toList.length) (0 + 1 + a.data.toList.length + 1 + s.data.toList.length + 1 + b.data.toList.length) s.data.toList op (6 * (A.length + B.length) + 29) (by omega) (by omega) hs
  exact h3.trans (by rw [hsz])
set_option maxRecDepth 100000 in
theorem awake24_true : forebearlaw24_awake.f = some true := by decide +kernel
theorem two_is {a b s : ByteArray} {op : Int} (ha : (parseT a).2.2 = 0) (hb : (parseT b).2.2 = 0) (hx : (parseT (twoB a b s)).2.2 = 0) (hs : (s.data.toList = [124] ∧ op = 6) ∨ (s.data.toList = [45] ∧ op = 7) ∨ (s.data.toList = [38] ∧ op = 8) ∨ (s.data.toList = [46, 46] ∧ op = 9) ∨ (s.data.toList = [58, 58] ∧ op = 10)) :
    ∃ g1 g2 : Int → Int, (parseT (twoB a b s)).1 = nd op [mp g1 (parseT a).1, mp g2 (parseT b).1] ((a.size + 2 : Nat) : Int) := by
  obtain ⟨g1, g2, A, k, h1, h2, h3⟩ := two_parse ha hb hs
  obtain ⟨_, A', hA, ⟨ev, b', hr⟩, _, _⟩ := parse_ok _ hx
  have e : A' = A := congrArg Prod.fst (hA.symm.trans h1)
  subst e
  rw [← h2, h3 ev 0] at hr
  exact ⟨g1, g2, (congrArg Prod.fst hr).symm⟩
theorem parse_any (a : ByteArray) (w : World) : Calls Tryd.prog 22 #[.string a] w fun e w' => ∃ A c, e = .returned (.tuple #[.agg #[.int .i64 (parseT a).1.f0, .string (parseT a).1.f1, .int .i64 (parseT a).1.f2, .int .u64 (parseT a).1.f3, .slice A (parseT a).1.f4.length c, .int .i64 (parseT a).1.f5], .int .i64 (parseT a).2.1, .int .i64 (parseT a).2.2]) ∧ (parseT a).1.f4.length ≤ c ∧ Kd.C k44 w' A (parseT a).1.f4.length (parseT a).1.f4 ∧ Below w.heap.size w w' := by
  refine (parse_Parse.calls a _ _ _ _ _ _ _ _ w rfl).mono ?_
  rintro e w' ⟨v, rfl, hR, hB⟩
  obtain ⟨A, c, rfl, hl, hC⟩ := Kd.R_reads hR
  exact ⟨A, c, rfl, hl, hC, hB⟩
theorem kid_places {w : World} {A : Option Addr} {n m : S44} (h : Kd.C k44 w A 2 [n, m]) : ∃ ad, A = some ad ∧ w.cell? ⟨ad.block, ad.off + 5, none⟩ = some (.int .i64 n.f5) ∧ w.cell? ⟨ad.block, ad.off + 11, none⟩ = some (.int .i64 m.f5) := by
  obtain ⟨ad, A4, c4, rfl, x0, x1, x2, x3, x4, x5, hl4, hC4⟩ := at_T44 h (0 : Int) (by omega) (by decide)
  obtain ⟨ad', A4', c4', e, y0, y1, y2, y3, y4, y5, hl4', hC4'⟩ := at_T44 h (1 : Int) (by omega) (by decide)
  cases e
  refine ⟨ad, rfl, ?_, ?_⟩
  · simpa [Addr.add, rd_T44] using x5
  · simpa [Addr.add, rd_T44] using y5
theorem parse_few (a : ByteArray) : wt (parseT a).1 ≤ 2049 := by
  have hz : wt z44 ≤ 2049 := by rw [wt_z]; decide
  unfold parseT
  split
  · split
    · exact hz
    · split
      · exact hz
      · exact readS_wt a
  · exact hz
theorem sign_mod (a : Int) : ∃ j : Nat, j < 5 ∧ wrap64 ((IntKind.u64.wrap a).tmod 5) = (j : Int) := by
  have h0 : 0 ≤ IntKind.u64.wrap a := by rw [show IntKind.u64.wrap a = a % 18446744073709551616 by simp [IntKind.wrap, IntKind.bits, IntKind.signed]]; omega
  refine ⟨((IntKind.u64.wrap a).tmod 5).toNat, ?_, ?_⟩
  · have := Int.tmod_lt_of_pos (IntKind.u64.wrap a) (show (0 : Int) < 5 by decide); omega
  · have h1 := Int.tmod_lt_of_pos (IntKind.u64.wrap a) (show (0 : Int) < 5 by decide)
    have h2 := Int.tmod_nonneg 5 h0
    generalize (IntKind.u64.wrap a).tmod 5 = z at *
    unfold wrap64
    omega
def sgB (j : Nat) : ByteArray := if j = 0 then ⟨#[124]⟩ else if j = 1 then ⟨#[45]⟩ else if j = 2 then ⟨#[38]⟩ else if j = 3 then ⟨#[46, 46]⟩ else ⟨#[58, 58]⟩
theorem sgB_op (j : Nat) (hj : j < 5) : ∃ op : Int, ((sgB j).data.toList = [124] ∧ op = 6) ∨ ((sgB j).data.toList = [45] ∧ op = 7) ∨ ((sgB j).data.toList = [38] ∧ op = 8) ∨ ((sgB j).data.toList = [46, 46] ∧ op = 9) ∨ ((sgB j).data.toList = [58, 58] ∧ op = 10) := by
  have hh : j = 0 ∨ j = 1 ∨ j = 2 ∨ j = 3 ∨ j = 4 := by omega
  rcases hh with rfl | rfl | rfl | rfl | rfl
  · exact ⟨6, .inl ⟨rfl, rfl⟩⟩
  · exact ⟨7, .inr (.inl ⟨rfl, rfl⟩)⟩
  · exact ⟨8, .inr (.inr (.inl ⟨rfl, rfl⟩))⟩
  · exact ⟨9, .inr (.inr (.inr (.inl ⟨rfl, rfl⟩)))⟩
  · exact ⟨10, .inr (.inr (.inr (.inr ⟨rfl, rfl⟩)))⟩
theorem sgB_cell {w : World} {b j : Nat} (h : w.heap[b]? = some (.cells #[.string (⟨#[124]⟩ : ByteArray), .string (⟨#[45]⟩ : ByteArray), .string (⟨#[38]⟩ : ByteArray), .string (⟨#[46, 46]⟩ : ByteArray), .string (⟨#[58, 58]⟩ : ByteArray)] 56 (0, 0))) (hj : j < 5) : w.cell? ⟨b, j, none⟩ = some (.string (sgB j)) := by
  have hh : j = 0 ∨ j = 1 ∨ j = 2 ∨ j = 3 ∨ j = 4 := by omega
  rcases hh with rfl | rfl | rfl | rfl | rfl
  · exact (blk_cell h 0).trans rfl
  · exact (blk_cell h 1).trans rfl
  · exact (blk_cell h 2).trans rfl
  · exact (blk_cell h 3).trans rfl
  · exact (blk_cell h 4).trans rfl
set_option maxHeartbeats 4000000 in
set_option maxRecDepth 100000 in
theorem checkParts_walk (a0 a1 : ByteArray) (a2 : Int) (w : World) (w0 : a0.size ≤ 140737488351232) (w1 : a1.size ≤ 140737488351232) :
    Calls Tryd.prog 7 #[.string a0, .string a1, .int .i64 a2] w fun e w' => e = .returned (.bool true) ∧ Below w.heap.size w w' := by
  have CAW := fun W => forebearlaw24_awake.calls true W awake24_true
  obtain ⟨j, hj, hjv⟩ : ∃ j : Nat, j < 5 ∧ wrap64 ((IntKind.u64.wrap a2).tmod 5) = (j : Int) := sign_mod a2
  have HJ := Lib.hid hjv
  clear hjv
  obtain ⟨op, hop⟩ := sgB_op j hj
  have HSJ := fun (W : World) b h => sgB_cell (w := W) (b := b) h hj
  have hS2 : (sgB j).size ≤ 2 := by unfold sgB; repeat (first | (split; decide) | split | decide)
  generalize sgB j = S at *
  obtain ⟨⟨n, pn, en⟩, hn⟩ : ∃ N, parseT a0 = N := ⟨_, rfl⟩
  obtain ⟨⟨m, pm, em⟩, hm⟩ : ∃ N, parseT a1 = N := ⟨_, rfl⟩
  obtain ⟨⟨x, px, ex⟩, hx⟩ : ∃ N, parseT (twoB a0 a1 S) = N := ⟨_, rfl⟩
  have P0 : ∀ W, Calls Tryd.prog 22 #[.string a0] W (fun e_ w_ => ∃ A c, e_ = .returned (.tuple #[.agg #[.int .i64 n.f0, .string n.f1, .int .i64 n.f2, .int .u64 n.f3, .slice A n.f4.length c, .int .i64 n.f5], .int .i64 pn, .int .i64 en]) ∧ n.f4.length ≤ c ∧ Kd.C k44 w_ A n.f4.length n.f4 ∧ Below W.heap.size W w_) := fun W => by have := parse_any a0 W; rw [hn] at this; exact this
  have P1 : ∀ W, Calls Tryd.prog 22 #[.string a1] W (fun e_ w_ => ∃ A c, e_ = .returned (.tuple #[.agg #[.int .i64 m.f0, .string m.f1, .int .i64 m.f2, .int .u64 m.f3, .slice A m.f4.length c, .int .i64 m.f5], .int .i64 pm, .int .i64 em]) ∧ m.f4.length ≤ c ∧ Kd.C k44 w_ A m.f4.length m.f4 ∧ Below W.heap.size W w_) := fun W => by have := parse_any a1 W; rw [hm] at this; exact this
  have P2 : ∀ W, Calls Tryd.prog 22 #[.string (((((((⟨#[40]⟩ : ByteArray) ++ a0) ++ (⟨#[41]⟩ : ByteArray)) ++ S) ++ (⟨#[40]⟩ : ByteArray)) ++ a1) ++ (⟨#[41]⟩ : ByteArray))] W (fun e_ w_ => ∃ A c, e_ = .returned (.tuple #[.agg #[.int .i64 x.f0, .string x.f1, .int .i64 x.f2, .int .u64 x.f3, .slice A x.f4.length c, .int .i64 x.f5], .int .i64 px, .int .i64 ex]) ∧ x.f4.length ≤ c ∧ Kd.C k44 w_ A x.f4.length x.f4 ∧ Below W.heap.size W w_) := fun W => by have := parse_any (twoB a0 a1 S) W; rw [hx] at this; exact this
  have W1 : Hid (wt n ≤ 1000000) := Lib.hid (by have := parse_few a0; rw [hn] at this; exact Nat.le_trans this (by decide))
  have W2 : Hid (wt m ≤ 1000000) := Lib.hid (by have := parse_few a1; rw [hm] at this; exact Nat.le_trans this (by decide))
  have W3 : Hid (wt x ≤ 1000000) := Lib.hid (by have := parse_few (twoB a0 a1 S); rw [hx] at this; exact Nat.le_trans this (by decide))
  have HT : Hid (en = 0 → em = 0 → ex = 0 → ∃ (g1 g2 : Int → Int) (p : Int), x = nd op [mp g1 n, mp g2 m] p) := Lib.hid (fun e1 e2 e3 => by
    obtain ⟨g1, g2, h⟩ := two_is (a := a0) (b := a1) (s := S) (op := op) (by rw [hn]; exact e1) (by rw [hm]; exact e2) (by rw [hx]; exact e3) hop
    rw [hn, hm, hx] at h
    exact ⟨g1, g2, _, h⟩)
  have ho6 : 6 ≤ op := by rcases hop with h | h | h | h | h <;> omega
  clear hn hm hx hop
  go_enter Tryd.func7, Tryd.ntmps7
  go_upto_region 3 with (go_at_call 21; (with_reducible refine (CAW _).mono ?_); rintro e v0 ⟨rfl, hB⟩; have HV0 := Lib.hid hB; clear hB)
  clear CAW
  go_upto_region 5 with (fail)
  rw [HJ.out]
  have HB7 := Lib.hid (blk_new v0 (Obj.cells #[.string (⟨#[124]⟩ : ByteArray), .string (⟨#[45]⟩ : ByteArray), .string (⟨#[38]⟩ : ByteArray), .string (⟨#[46, 46]⟩ : ByteArray), .string (⟨#[58, 58]⟩ : ByteArray)] 56))
  have HB0 := Lib.hid (below_alloc HV0.out (Obj.cells #[.string (⟨#[124]⟩ : ByteArray), .string (⟨#[45]⟩ : ByteArray), .string (⟨#[38]⟩ : ByteArray), .string (⟨#[46, 46]⟩ : ByteArray), .string (⟨#[58, 58]⟩ : ByteArray)] 56))
  clear HV0 HJ
  generalize (v0.alloc (Obj.cells #[.string (⟨#[124]⟩ : ByteArray), .string (⟨#[45]⟩ : ByteArray), .string (⟨#[38]⟩ : ByteArray), .string (⟨#[46, 46]⟩ : ByteArray), .string (⟨#[58, 58]⟩ : ByteArray)] 56)) = w3 at *
  generalize v0.heap.size = b7 at *
  go_upto_region 6 with (go_at_call 22; (with_reducible refine (P0 _).mono ?_); rintro e v1 ⟨A1, c1, rfl, hl, hC, hB⟩; have HC1 := Lib.hid hC; have HL1 := Lib.hid hl; have HV1 := Lib.hid hB; clear hl hC hB)
  have HN1 := Lib.hid (blk_new v1 (Obj.cells #[.int .i64 n.f0, .string n.f1, .int .i64 n.f2, .int .u64 n.f3, .slice A1 n.f4.length c1, .int .i64 n.f5] 44))
  have HD1 := Lib.hid (Kd.C_below HC1.out (below_allocW v1 (Obj.cells #[.int .i64 n.f0, .string n.f1, .int .i64 n.f2, .int .u64 n.f3, .slice A1 n.f4.length c1, .int .i64 n.f5] 44)))
  have HZ1 : Hid (Below w3.heap.size w3 (v1.alloc (Obj.cells #[.int .i64 n.f0, .string n.f1, .int .i64 n.f2, .int .u64 n.f3, .slice A1 n.f4.length c1, .int .i64 n.f5] 44))) := Lib.hid (below_alloc HV1.out _)
  have HB1 := Lib.hid (below_step HB0.out HZ1.out)
  have HB7 := Lib.hid (blk_belowV HZ1.out HB7.out)
  clear HC1 HV1 HZ1
  generalize v1.alloc (Obj.cells #[.int .i64 n.f0, .string n.f1, .int .i64 n.f2, .int .u64 n.f3, .slice A1 n.f4.length c1, .int .i64 n.f5] 44) = w4 at *
  generalize v1.heap.size = b8 at *
  go_upto_region 7 with (go_at_call 22; (with_reducible refine (P1 _).mono ?_); rintro e v2 ⟨A2, c2, rfl, hl, hC, hB⟩; have HC2 := Lib.hid hC; have HL2 := Lib.hid hl; have HV2 := Lib.hid hB; clear hl hC hB)
  have HN2 := Lib.hid (blk_new v2 (Obj.cells #[.int .i64 m.f0, .string m.f1, .int .i64 m.f2, .int .u64 m.f3, .slice A2 m.f4.length c2, .int .i64 m.f5] 44))
  have HD2 := Lib.hid (Kd.C_below HC2.out (below_allocW v2 (Obj.cells #[.int .i64 m.f0, .string m.f1, .int .i64 m.f2, .int .u64 m.f3, .slice A2 m.f4.length c2, .int .i64 m.f5] 44)))
  have HZ2 : Hid (Below w4.heap.size w4 (v2.alloc (Obj.cells #[.int .i64 m.f0, .string m.f1, .int .i64 m.f2, .int .u64 m.f3, .slice A2 m.f4.length c2, .int .i64 m.f5] 44))) := Lib.hid (below_alloc HV2.out _)
  have HB2 := Lib.hid (below_step HB1.out HZ2.out)
  have HB7 := Lib.hid (blk_belowV HZ2.out HB7.out)
  have HN1 := Lib.hid (blk_belowV HZ2.out HN1.out)
  have HD1 := Lib.hid (Kd.C_below HD1.out HZ2.out)
  clear HC2 HV2 HZ2
  generalize v2.alloc (Obj.cells #[.int .i64 m.f0, .string m.f1, .int .i64 m.f2, .int .u64 m.f3, .slice A2 m.f4.length c2, .int .i64 m.f5] 44) = w5 at *
  generalize v2.heap.size = b11 at *
  have hcs := HSJ w5 b7 HB7.out
  go_upto_region 8 with (go_at_call 22; (with_reducible refine (P2 _).mono ?_); rintro e v3 ⟨A3, c3, rfl, hl, hC, hB⟩; have HC3 := Lib.hid hC; have HL3 := Lib.hid hl; have HV3 := Lib.hid hB; clear hl hC hB)
  clear hcs HSJ P0 P1 P2
  have HN3 := Lib.hid (blk_new v3 (Obj.cells #[.int .i64 x.f0, .string x.f1, .int .i64 x.f2, .int .u64 x.f3, .slice A3 x.f4.length c3, .int .i64 x.f5] 44))
  have HD3 := Lib.hid (Kd.C_below HC3.out (below_allocW v3 (Obj.cells #[.int .i64 x.f0, .string x.f1, .int .i64 x.f2, .int .u64 x.f3, .slice A3 x.f4.length c3, .int .i64 x.f5] 44)))
  have HZ3 : Hid (Below w5.heap.size w5 (v3.alloc (Obj.cells #[.int .i64 x.f0, .string x.f1, .int .i64 x.f2, .int .u64 x.f3, .slice A3 x.f4.length c3, .int .i64 x.f5] 44))) := Lib.hid (below_alloc HV3.out _)
  have HB3 := Lib.hid (below_step HB2.out HZ3.out)
  have HN1 := Lib.hid (blk_belowV HZ3.out HN1.out)
  have HN2 := Lib.hid (blk_belowV HZ3.out HN2.out)
  have HD1 := Lib.hid (Kd.C_below HD1.out HZ3.out)
  have HD2 := Lib.hid (Kd.C_below HD2.out HZ3.out)
  clear HC3 HV3 HZ3
  generalize v3.alloc (Obj.cells #[.int .i64 x.f0, .string x.f1, .int .i64 x.f2, .int .u64 x.f3, .slice A3 x.f4.length c3, .int .i64 x.f5] 44) = w6 at *
  generalize v3.heap.size = b14 at *
  have HM0 := HN2
  have HX0 := HN3
  have KB0 : Hid (Below w6.heap.size w6 w6) := Lib.hid (Below.refl _ _)
  have HX0c := Lib.hid HX0.out
  have v0c0 : w6.cell? ⟨b14, 0, none⟩ = some (.int .i64 x.f0) := (blk_cell HX0.out 0).trans rfl
  have v0c1 : w6.cell? ⟨b14, 1, none⟩ = some (.string x.f1) := (blk_cell HX0.out 1).trans rfl
  have v0c2 : w6.cell? ⟨b14, 2, none⟩ = some (.int .i64 x.f2) := (blk_cell HX0.out 2).trans rfl
  have v0c3 : w6.cell? ⟨b14, 3, none⟩ = some (.int .u64 x.f3) := (blk_cell HX0.out 3).trans rfl
  have v0c4 : w6.cell? ⟨b14, 4, none⟩ = some (.slice A3 x.f4.length c3) := (blk_cell HX0.out 4).trans rfl
  have v0c5 : w6.cell? ⟨b14, 5, none⟩ = some (.int .i64 x.f5) := (blk_cell HX0.out 5).trans rfl
  have t0c0 : w6.cell? ⟨b8, 0, none⟩ = some (.int .i64 n.f0) := (blk_cell HN1.out 0).trans rfl
  have t0c1 : w6.cell? ⟨b8, 1, none⟩ = some (.string n.f1) := (blk_cell HN1.out 1).trans rfl
  have t0c2 : w6.cell? ⟨b8, 2, none⟩ = some (.int .i64 n.f2) := (blk_cell HN1.out 2).trans rfl
  have t0c3 : w6.cell? ⟨b8, 3, none⟩ = some (.int .u64 n.f3) := (blk_cell HN1.out 3).trans rfl
  have t0c4 : w6.cell? ⟨b8, 4, none⟩ = some (.slice A1 n.f4.length c1) := (blk_cell HN1.out 4).trans rfl
  have t0c5 : w6.cell? ⟨b8, 5, none⟩ = some (.int .i64 n.f5) := (blk_cell HN1.out 5).trans rfl
  have u0c0 : w6.cell? ⟨b11, 0, none⟩ = some (.int .i64 m.f0) := (blk_cell HM0.out 0).trans rfl
  have u0c1 : w6.cell? ⟨b11, 1, none⟩ = some (.string m.f1) := (blk_cell HM0.out 1).trans rfl
  have u0c2 : w6.cell? ⟨b11, 2, none⟩ = some (.int .i64 m.f2) := (blk_cell HM0.out 2).trans rfl
  have u0c3 : w6.cell? ⟨b11, 3, none⟩ = some (.int .u64 m.f3) := (blk_cell HM0.out 3).trans rfl
  have u0c4 : w6.cell? ⟨b11, 4, none⟩ = some (.slice A2 m.f4.length c2) := (blk_cell HM0.out 4).trans rfl
  have u0c5 : w6.cell? ⟨b11, 5, none⟩ = some (.int .i64 m.f5) := (blk_cell HM0.out 5).trans rfl
  by_cases h1 : en = 0
  · by_cases h2 : em = 0
    · by_cases h3 : ex = 0
      · obtain ⟨g1, g2, p, hx⟩ := HT.out h1 h2 h3
        have q1 : (en != 0) = false := by rw [h1]; rfl
        have q2 : (em != 0) = false := by rw [h2]; rfl
        have q3 : (ex != 0) = false := by rw [h3]; rfl
        have hk : x.f4 = [mp g1 n, mp g2 m] := by rw [hx]; rfl
        have HK := Lib.hid hk
        have hkl : x.f4.length = 2 := by rw [hk]; rfl
        have hxo : ¬ (x.f0 = 1 ∨ x.f0 = 2) ∧ ¬ x.f0 = 3 ∧ ¬ x.f0 = 4 ∧ ¬ x.f0 = 5 := by rw [hx]; show ¬ (op = 1 ∨ op = 2) ∧ ¬ op = 3 ∧ ¬ op = 4 ∧ ¬ op = 5; omega
        have HCX : Hid (checkT x = checkM [1] 1 0 [mp g1 n, mp g2 m]) := Lib.hid (by rw [checkT_is, if_neg hxo.1, if_neg hxo.2.1, if_neg hxo.2.2.1, if_neg hxo.2.2.2, hk])
        have HG1 := Lib.hid (check_mp g1 (wt n) n (Nat.le_refl _))
        have HG2 := Lib.hid (check_mp g2 (wt m) m (Nat.le_refl _))
        obtain ⟨ad, hA3, hp0, hp1⟩ := kid_places (n := mp g1 n) (m := mp g2 m) (by have := HD3.out; rw [hkl, hk] at this; exact this)
        have HP0 := Lib.hid hp0
        have HP1 := Lib.hid hp1
        clear hp0 hp1 hx hk hxo h1 h2 h3 HT
        subst hA3
        obtain ⟨⟨t, pt, hc⟩, hcn⟩ : ∃ N, checkT n = N := ⟨_, rfl⟩
        obtain ⟨⟨u, pu, ic⟩, hcm⟩ : ∃ N, checkT m = N := ⟨_, rfl⟩
        have CK1 : ∀ W, Kd.C k44 W A1 n.f4.length n.f4 → Calls Tryd.prog 23 #[.agg #[.int .i64 n.f0, .string n.f1, .int .i64 n.f2, .int .u64 n.f3, .slice A1 n.f4.length c1, .int .i64 n.f5]] W fun e_ w_ => e_ = .returned (.tuple #[.int .i64 t, .int .i64 pt, .int .i64 hc]) ∧ Below W.heap.size W w_ := fun W hC => by have := check_walk _ n A1 c1 W (Nat.le_refl _) W1.out hC HL1.out; rw [hcn] at this; exact this
        have CK2 : ∀ W, Kd.C k44 W A2 m.f4.length m.f4 → Calls Tryd.prog 23 #[.agg #[.int .i64 m.f0, .string m.f1, .int .i64 m.f2, .int .u64 m.f3, .slice A2 m.f4.length c2, .int .i64 m.f5]] W fun e_ w_ => e_ = .returned (.tuple #[.int .i64 u, .int .i64 pu, .int .i64 ic]) ∧ Below W.heap.size W w_ := fun W hC => by have := check_walk _ m A2 c2 W (Nat.le_refl _) W2.out hC HL2.out; rw [hcm] at this; exact this
        have CX : ∀ q1 q2 q3, checkT x = (q1, q2, q3) → ∀ W, Kd.C k44 W (some ad) x.f4.length x.f4 → Calls Tryd.prog 23 #[.agg #[.int .i64 x.f0, .string x.f1, .int .i64 x.f2, .int .u64 x.f3, .slice (some ad) x.f4.length c3, .int .i64 x.f5]] W fun e_ w_ => e_ = .returned (.tuple #[.int .i64 q1, .int .i64 q2, .int .i64 q3]) ∧ Below W.heap.size W w_ := fun q1 q2 q3 hq W hC => by have := check_walk _ x (some ad) c3 W (Nat.le_refl _) W3.out hC HL3.out; rw [hq] at this; exact this
        have hg1 := HG1.out
        have hg2 := HG2.out
        rw [hcn] at hg1
        rw [hcm] at hg2
        have HCX2 : Hid (checkT x = if hc = 0 then (if t = 1 then (if ic = 0 then (if u = 1 then (1, 0, 0) else (0, (mp g2 m).f5, 35)) else (0, (checkT (mp g2 m)).2.1, ic)) else (0, (mp g1 n).f5, 35)) else (0, (checkT (mp g1 n)).2.1, hc)) := Lib.hid (by rw [HCX.out, checkM_cons, checkM_cons, checkM_nil, hg1.1, hg1.2, hg2.1, hg2.2]; rfl)
        clear hg1 hg2 HG1 HG2 HCX hcn hcm
        generalize (checkT (mp g2 m)).2.1 = z2 at *
        generalize (checkT (mp g1 n)).2.1 = z1 at *
        have hkl2 : ((x.f4.length : Int) != 2) = false := by rw [hkl]; rfl
        rw [hkl] at *
        by_cases b1 : hc = 0
        · by_cases b2 : t = 1
          · by_cases b3 : ic = 0
            · by_cases b4 : u = 1
              · have CK3 := CX 1 0 0 (HCX2.out.trans (by rw [if_pos b1, if_pos b2, if_pos b3, if_pos b4]))
                have s1 : (hc != 0) = false := by rw [b1]; rfl
                have s2 : (t != 1) = false := by rw [b2]; rfl
                have s3 : (ic != 0) = false := by rw [b3]; rfl
                have s4 : (u != 1) = false := by rw [b4]; rfl
                clear b1 b2 b3 b4 CX
                go_wp2_with (first | (go_at_call 23; (with_reducible refine (CK1 _ ?_).mono ?_); exact Kd.C_below HD1.out KB0.out; rintro e_ k1 ⟨rfl, hB⟩; have KB1 := Lib.hid (below_step KB0.out hB); have HM1 := Lib.hid (blk_belowV hB HM0.out); have HX1 := Lib.hid (blk_belowV hB HX0.out); have u1c0 : k1.cell? ⟨b11, 0, none⟩ = some (.int .i64 m.f0) := (blk_cell HM1.out 0).trans rfl; have u1c1 : k1.cell? ⟨b11, 1, none⟩ = some (.string m.f1) := (blk_cell HM1.out 1).trans rfl; have u1c2 : k1.cell? ⟨b11, 2, none⟩ = some (.int .i64 m.f2) := (blk_cell HM1.out 2).trans rfl; have u1c3 : k1.cell? ⟨b11, 3, none⟩ = some (.int .u64 m.f3) := (blk_cell HM1.out 3).trans rfl; have u1c4 : k1.cell? ⟨b11, 4, none⟩ = some (.slice A2 m.f4.length c2) := (blk_cell HM1.out 4).trans rfl; have u1c5 : k1.cell? ⟨b11, 5, none⟩ = some (.int .i64 m.f5) := (blk_cell HM1.out 5).trans rfl; have v1c0 : k1.cell? ⟨b14, 0, none⟩ = some (.int .i64 x.f0) := (blk_cell HX1.out 0).trans rfl; have v1c1 : k1.cell? ⟨b14, 1, none⟩ = some (.string x.f1) := (blk_cell HX1.out 1).trans rfl; have v1c2 : k1.cell? ⟨b14, 2, none⟩ = some (.int .i64 x.f2) := (blk_cell HX1.out 2).trans rfl; have v1c3 : k1.cell? ⟨b14, 3, none⟩ = some (.int .u64 x.f3) := (blk_cell HX1.out 3).trans rfl; have v1c4 : k1.cell? ⟨b14, 4, none⟩ = some (.slice (some ad) 2 c3) := (blk_cell HX1.out 4).trans rfl; have v1c5 : k1.cell? ⟨b14, 5, none⟩ = some (.int .i64 x.f5) := (blk_cell HX1.out 5).trans rfl; clear hB) | (go_at_call 23; (with_reducible refine (CK2 _ ?_).mono ?_); exact Kd.C_below HD2.out KB1.out; rintro e_ k2 ⟨rfl, hB⟩; have KB2 := Lib.hid (below_step KB1.out hB); have HX2 := Lib.hid (blk_belowV hB HX1.out); have v2c0 : k2.cell? ⟨b14, 0, none⟩ = some (.int .i64 x.f0) := (blk_cell HX2.out 0).trans rfl; have v2c1 : k2.cell? ⟨b14, 1, none⟩ = some (.string x.f1) := (blk_cell HX2.out 1).trans rfl; have v2c2 : k2.cell? ⟨b14, 2, none⟩ = some (.int .i64 x.f2) := (blk_cell HX2.out 2).trans rfl; have v2c3 : k2.cell? ⟨b14, 3, none⟩ = some (.int .u64 x.f3) := (blk_cell HX2.out 3).trans rfl; have v2c4 : k2.cell? ⟨b14, 4, none⟩ = some (.slice (some ad) 2 c3) := (blk_cell HX2.out 4).trans rfl; have v2c5 : k2.cell? ⟨b14, 5, none⟩ = some (.int .i64 x.f5) := (blk_cell HX2.out 5).trans rfl; clear hB) | (go_at_call 23; (with_reducible refine (CK3 _ ?_).mono ?_); exact Kd.C_below HD3.out KB2.out; rintro e_ k3 ⟨rfl, hB⟩; have KB3 := Lib.hid (below_step KB2.out hB); have HX3 := Lib.hid (blk_belowV hB HX2.out); have v3c0 : k3.cell? ⟨b14, 0, none⟩ = some (.int .i64 x.f0) := (blk_cell HX3.out 0).trans rfl; have v3c1 : k3.cell? ⟨b14, 1, none⟩ = some (.string x.f1) := (blk_cell HX3.out 1).trans rfl; have v3c2 : k3.cell? ⟨b14, 2, none⟩ = some (.int .i64 x.f2) := (blk_cell HX3.out 2).trans rfl; have v3c3 : k3.cell? ⟨b14, 3, none⟩ = some (.int .u64 x.f3) := (blk_cell HX3.out 3).trans rfl; have v3c4 : k3.cell? ⟨b14, 4, none⟩ = some (.slice (some ad) 2 c3) := (blk_cell HX3.out 4).trans rfl; have v3c5 : k3.cell? ⟨b14, 5, none⟩ = some (.int .i64 x.f5) := (blk_cell HX3.out 5).trans rfl; clear hB; have hq0 := (KB3.out.cell (World.block_lt_of_cell? w6 _ HP0.out)).trans HP0.out; have hq1 := (KB3.out.cell (World.block_lt_of_cell? w6 _ HP1.out)).trans HP1.out))
                go_ret
                exact ⟨rfl, below_step HB3.out KB3.out⟩
              · have CK3 := CX 0 (mp g2 m).f5 35 (HCX2.out.trans (by rw [if_pos b1, if_pos b2, if_pos b3, if_neg b4]))
                have s1 : (hc != 0) = false := by rw [b1]; rfl
                have s2 : (t != 1) = false := by rw [b2]; rfl
                have s3 : (ic != 0) = false := by rw [b3]; rfl
                have s4 : (u != 1) = true := bne_iff_ne.2 b4
                clear b1 b2 b3 b4 CX
                go_wp2_with (first | (go_at_call 23; (with_reducible refine (CK1 _ ?_).mono ?_); exact Kd.C_below HD1.out KB0.out; rintro e_ k1 ⟨rfl, hB⟩; have KB1 := Lib.hid (below_step KB0.out hB); have HM1 := Lib.hid (blk_belowV hB HM0.out); have HX1 := Lib.hid (blk_belowV hB HX0.out); have u1c0 : k1.cell? ⟨b11, 0, none⟩ = some (.int .i64 m.f0) := (blk_cell HM1.out 0).trans rfl; have u1c1 : k1.cell? ⟨b11, 1, none⟩ = some (.string m.f1) := (blk_cell HM1.out 1).trans rfl; have u1c2 : k1.cell? ⟨b11, 2, none⟩ = some (.int .i64 m.f2) := (blk_cell HM1.out 2).trans rfl; have u1c3 : k1.cell? ⟨b11, 3, none⟩ = some (.int .u64 m.f3) := (blk_cell HM1.out 3).trans rfl; have u1c4 : k1.cell? ⟨b11, 4, none⟩ = some (.slice A2 m.f4.length c2) := (blk_cell HM1.out 4).trans rfl; have u1c5 : k1.cell? ⟨b11, 5, none⟩ = some (.int .i64 m.f5) := (blk_cell HM1.out 5).trans rfl; have v1c0 : k1.cell? ⟨b14, 0, none⟩ = some (.int .i64 x.f0) := (blk_cell HX1.out 0).trans rfl; have v1c1 : k1.cell? ⟨b14, 1, none⟩ = some (.string x.f1) := (blk_cell HX1.out 1).trans rfl; have v1c2 : k1.cell? ⟨b14, 2, none⟩ = some (.int .i64 x.f2) := (blk_cell HX1.out 2).trans rfl; have v1c3 : k1.cell? ⟨b14, 3, none⟩ = some (.int .u64 x.f3) := (blk_cell HX1.out 3).trans rfl; have v1c4 : k1.cell? ⟨b14, 4, none⟩ = some (.slice (some ad) 2 c3) := (blk_cell HX1.out 4).trans rfl; have v1c5 : k1.cell? ⟨b14, 5, none⟩ = some (.int .i64 x.f5) := (blk_cell HX1.out 5).trans rfl; clear hB) | (go_at_call 23; (with_reducible refine (CK2 _ ?_).mono ?_); exact Kd.C_below HD2.out KB1.out; rintro e_ k2 ⟨rfl, hB⟩; have KB2 := Lib.hid (below_step KB1.out hB); have HX2 := Lib.hid (blk_belowV hB HX1.out); have v2c0 : k2.cell? ⟨b14, 0, none⟩ = some (.int .i64 x.f0) := (blk_cell HX2.out 0).trans rfl; have v2c1 : k2.cell? ⟨b14, 1, none⟩ = some (.string x.f1) := (blk_cell HX2.out 1).trans rfl; have v2c2 : k2.cell? ⟨b14, 2, none⟩ = some (.int .i64 x.f2) := (blk_cell HX2.out 2).trans rfl; have v2c3 : k2.cell? ⟨b14, 3, none⟩ = some (.int .u64 x.f3) := (blk_cell HX2.out 3).trans rfl; have v2c4 : k2.cell? ⟨b14, 4, none⟩ = some (.slice (some ad) 2 c3) := (blk_cell HX2.out 4).trans rfl; have v2c5 : k2.cell? ⟨b14, 5, none⟩ = some (.int .i64 x.f5) := (blk_cell HX2.out 5).trans rfl; clear hB) | (go_at_call 23; (with_reducible refine (CK3 _ ?_).mono ?_); exact Kd.C_below HD3.out KB2.out; rintro e_ k3 ⟨rfl, hB⟩; have KB3 := Lib.hid (below_step KB2.out hB); have HX3 := Lib.hid (blk_belowV hB HX2.out); have v3c0 : k3.cell? ⟨b14, 0, none⟩ = some (.int .i64 x.f0) := (blk_cell HX3.out 0).trans rfl; have v3c1 : k3.cell? ⟨b14, 1, none⟩ = some (.string x.f1) := (blk_cell HX3.out 1).trans rfl; have v3c2 : k3.cell? ⟨b14, 2, none⟩ = some (.int .i64 x.f2) := (blk_cell HX3.out 2).trans rfl; have v3c3 : k3.cell? ⟨b14, 3, none⟩ = some (.int .u64 x.f3) := (blk_cell HX3.out 3).trans rfl; have v3c4 : k3.cell? ⟨b14, 4, none⟩ = some (.slice (some ad) 2 c3) := (blk_cell HX3.out 4).trans rfl; have v3c5 : k3.cell? ⟨b14, 5, none⟩ = some (.int .i64 x.f5) := (blk_cell HX3.out 5).trans rfl; clear hB; have hq0 := (KB3.out.cell (World.block_lt_of_cell? w6 _ HP0.out)).trans HP0.out; have hq1 := (KB3.out.cell (World.block_lt_of_cell? w6 _ HP1.out)).trans HP1.out))
                go_ret
                exact ⟨rfl, below_step HB3.out KB3.out⟩
            · have CK3 := CX 0 z2 ic (HCX2.out.trans (by rw [if_pos b1, if_pos b2, if_neg b3]))
              have s1 : (hc != 0) = false := by rw [b1]; rfl
              have s2 : (t != 1) = false := by rw [b2]; rfl
              have s3 : (ic != 0) = true := bne_iff_ne.2 b3
              clear b1 b2 b3 CX
              go_wp2_with (first | (go_at_call 23; (with_reducible refine (CK1 _ ?_).mono ?_); exact Kd.C_below HD1.out KB0.out; rintro e_ k1 ⟨rfl, hB⟩; have KB1 := Lib.hid (below_step KB0.out hB); have HM1 := Lib.hid (blk_belowV hB HM0.out); have HX1 := Lib.hid (blk_belowV hB HX0.out); have u1c0 : k1.cell? ⟨b11, 0, none⟩ = some (.int .i64 m.f0) := (blk_cell HM1.out 0).trans rfl; have u1c1 : k1.cell? ⟨b11, 1, none⟩ = some (.string m.f1) := (blk_cell HM1.out 1).trans rfl; have u1c2 : k1.cell? ⟨b11, 2, none⟩ = some (.int .i64 m.f2) := (blk_cell HM1.out 2).trans rfl; have u1c3 : k1.cell? ⟨b11, 3, none⟩ = some (.int .u64 m.f3) := (blk_cell HM1.out 3).trans rfl; have u1c4 : k1.cell? ⟨b11, 4, none⟩ = some (.slice A2 m.f4.length c2) := (blk_cell HM1.out 4).trans rfl; have u1c5 : k1.cell? ⟨b11, 5, none⟩ = some (.int .i64 m.f5) := (blk_cell HM1.out 5).trans rfl; have v1c0 : k1.cell? ⟨b14, 0, none⟩ = some (.int .i64 x.f0) := (blk_cell HX1.out 0).trans rfl; have v1c1 : k1.cell? ⟨b14, 1, none⟩ = some (.string x.f1) := (blk_cell HX1.out 1).trans rfl; have v1c2 : k1.cell? ⟨b14, 2, none⟩ = some (.int .i64 x.f2) := (blk_cell HX1.out 2).trans rfl; have v1c3 : k1.cell? ⟨b14, 3, none⟩ = some (.int .u64 x.f3) := (blk_cell HX1.out 3).trans rfl; have v1c4 : k1.cell? ⟨b14, 4, none⟩ = some (.slice (some ad) 2 c3) := (blk_cell HX1.out 4).trans rfl; have v1c5 : k1.cell? ⟨b14, 5, none⟩ = some (.int .i64 x.f5) := (blk_cell HX1.out 5).trans rfl; clear hB) | (go_at_call 23; (with_reducible refine (CK2 _ ?_).mono ?_); exact Kd.C_below HD2.out KB1.out; rintro e_ k2 ⟨rfl, hB⟩; have KB2 := Lib.hid (below_step KB1.out hB); have HX2 := Lib.hid (blk_belowV hB HX1.out); have v2c0 : k2.cell? ⟨b14, 0, none⟩ = some (.int .i64 x.f0) := (blk_cell HX2.out 0).trans rfl; have v2c1 : k2.cell? ⟨b14, 1, none⟩ = some (.string x.f1) := (blk_cell HX2.out 1).trans rfl; have v2c2 : k2.cell? ⟨b14, 2, none⟩ = some (.int .i64 x.f2) := (blk_cell HX2.out 2).trans rfl; have v2c3 : k2.cell? ⟨b14, 3, none⟩ = some (.int .u64 x.f3) := (blk_cell HX2.out 3).trans rfl; have v2c4 : k2.cell? ⟨b14, 4, none⟩ = some (.slice (some ad) 2 c3) := (blk_cell HX2.out 4).trans rfl; have v2c5 : k2.cell? ⟨b14, 5, none⟩ = some (.int .i64 x.f5) := (blk_cell HX2.out 5).trans rfl; clear hB) | (go_at_call 23; (with_reducible refine (CK3 _ ?_).mono ?_); exact Kd.C_below HD3.out KB2.out; rintro e_ k3 ⟨rfl, hB⟩; have KB3 := Lib.hid (below_step KB2.out hB); have HX3 := Lib.hid (blk_belowV hB HX2.out); have v3c0 : k3.cell? ⟨b14, 0, none⟩ = some (.int .i64 x.f0) := (blk_cell HX3.out 0).trans rfl; have v3c1 : k3.cell? ⟨b14, 1, none⟩ = some (.string x.f1) := (blk_cell HX3.out 1).trans rfl; have v3c2 : k3.cell? ⟨b14, 2, none⟩ = some (.int .i64 x.f2) := (blk_cell HX3.out 2).trans rfl; have v3c3 : k3.cell? ⟨b14, 3, none⟩ = some (.int .u64 x.f3) := (blk_cell HX3.out 3).trans rfl; have v3c4 : k3.cell? ⟨b14, 4, none⟩ = some (.slice (some ad) 2 c3) := (blk_cell HX3.out 4).trans rfl; have v3c5 : k3.cell? ⟨b14, 5, none⟩ = some (.int .i64 x.f5) := (blk_cell HX3.out 5).trans rfl; clear hB; have hq0 := (KB3.out.cell (World.block_lt_of_cell? w6 _ HP0.out)).trans HP0.out; have hq1 := (KB3.out.cell (World.block_lt_of_cell? w6 _ HP1.out)).trans HP1.out))
              go_ret
              exact ⟨rfl, below_step HB3.out KB3.out⟩
          · have CK3 := CX 0 (mp g1 n).f5 35 (HCX2.out.trans (by rw [if_pos b1, if_neg b2]))
            have s1 : (hc != 0) = false := by rw [b1]; rfl
            have s2 : (t != 1) = true := bne_iff_ne.2 b2
            clear b1 b2 CX
            go_wp2_with (first | (go_at_call 23; (with_reducible refine (CK1 _ ?_).mono ?_); exact Kd.C_below HD1.out KB0.out; rintro e_ k1 ⟨rfl, hB⟩; have KB1 := Lib.hid (below_step KB0.out hB); have HM1 := Lib.hid (blk_belowV hB HM0.out); have HX1 := Lib.hid (blk_belowV hB HX0.out); have u1c0 : k1.cell? ⟨b11, 0, none⟩ = some (.int .i64 m.f0) := (blk_cell HM1.out 0).trans rfl; have u1c1 : k1.cell? ⟨b11, 1, none⟩ = some (.string m.f1) := (blk_cell HM1.out 1).trans rfl; have u1c2 : k1.cell? ⟨b11, 2, none⟩ = some (.int .i64 m.f2) := (blk_cell HM1.out 2).trans rfl; have u1c3 : k1.cell? ⟨b11, 3, none⟩ = some (.int .u64 m.f3) := (blk_cell HM1.out 3).trans rfl; have u1c4 : k1.cell? ⟨b11, 4, none⟩ = some (.slice A2 m.f4.length c2) := (blk_cell HM1.out 4).trans rfl; have u1c5 : k1.cell? ⟨b11, 5, none⟩ = some (.int .i64 m.f5) := (blk_cell HM1.out 5).trans rfl; have v1c0 : k1.cell? ⟨b14, 0, none⟩ = some (.int .i64 x.f0) := (blk_cell HX1.out 0).trans rfl; have v1c1 : k1.cell? ⟨b14, 1, none⟩ = some (.string x.f1) := (blk_cell HX1.out 1).trans rfl; have v1c2 : k1.cell? ⟨b14, 2, none⟩ = some (.int .i64 x.f2) := (blk_cell HX1.out 2).trans rfl; have v1c3 : k1.cell? ⟨b14, 3, none⟩ = some (.int .u64 x.f3) := (blk_cell HX1.out 3).trans rfl; have v1c4 : k1.cell? ⟨b14, 4, none⟩ = some (.slice (some ad) 2 c3) := (blk_cell HX1.out 4).trans rfl; have v1c5 : k1.cell? ⟨b14, 5, none⟩ = some (.int .i64 x.f5) := (blk_cell HX1.out 5).trans rfl; clear hB) | (go_at_call 23; (with_reducible refine (CK2 _ ?_).mono ?_); exact Kd.C_below HD2.out KB1.out; rintro e_ k2 ⟨rfl, hB⟩; have KB2 := Lib.hid (below_step KB1.out hB); have HX2 := Lib.hid (blk_belowV hB HX1.out); have v2c0 : k2.cell? ⟨b14, 0, none⟩ = some (.int .i64 x.f0) := (blk_cell HX2.out 0).trans rfl; have v2c1 : k2.cell? ⟨b14, 1, none⟩ = some (.string x.f1) := (blk_cell HX2.out 1).trans rfl; have v2c2 : k2.cell? ⟨b14, 2, none⟩ = some (.int .i64 x.f2) := (blk_cell HX2.out 2).trans rfl; have v2c3 : k2.cell? ⟨b14, 3, none⟩ = some (.int .u64 x.f3) := (blk_cell HX2.out 3).trans rfl; have v2c4 : k2.cell? ⟨b14, 4, none⟩ = some (.slice (some ad) 2 c3) := (blk_cell HX2.out 4).trans rfl; have v2c5 : k2.cell? ⟨b14, 5, none⟩ = some (.int .i64 x.f5) := (blk_cell HX2.out 5).trans rfl; clear hB) | (go_at_call 23; (with_reducible refine (CK3 _ ?_).mono ?_); exact Kd.C_below HD3.out KB2.out; rintro e_ k3 ⟨rfl, hB⟩; have KB3 := Lib.hid (below_step KB2.out hB); have HX3 := Lib.hid (blk_belowV hB HX2.out); have v3c0 : k3.cell? ⟨b14, 0, none⟩ = some (.int .i64 x.f0) := (blk_cell HX3.out 0).trans rfl; have v3c1 : k3.cell? ⟨b14, 1, none⟩ = some (.string x.f1) := (blk_cell HX3.out 1).trans rfl; have v3c2 : k3.cell? ⟨b14, 2, none⟩ = some (.int .i64 x.f2) := (blk_cell HX3.out 2).trans rfl; have v3c3 : k3.cell? ⟨b14, 3, none⟩ = some (.int .u64 x.f3) := (blk_cell HX3.out 3).trans rfl; have v3c4 : k3.cell? ⟨b14, 4, none⟩ = some (.slice (some ad) 2 c3) := (blk_cell HX3.out 4).trans rfl; have v3c5 : k3.cell? ⟨b14, 5, none⟩ = some (.int .i64 x.f5) := (blk_cell HX3.out 5).trans rfl; clear hB; have hq0 := (KB3.out.cell (World.block_lt_of_cell? w6 _ HP0.out)).trans HP0.out; have hq1 := (KB3.out.cell (World.block_lt_of_cell? w6 _ HP1.out)).trans HP1.out))
            go_ret
            exact ⟨rfl, below_step HB3.out KB3.out⟩
        · have CK3 := CX 0 z1 hc (HCX2.out.trans (by rw [if_neg b1]))
          have s1 : (hc != 0) = true := bne_iff_ne.2 b1
          clear b1 CX
          go_wp2_with (first | (go_at_call 23; (with_reducible refine (CK1 _ ?_).mono ?_); exact Kd.C_below HD1.out KB0.out; rintro e_ k1 ⟨rfl, hB⟩; have KB1 := Lib.hid (below_step KB0.out hB); have HM1 := Lib.hid (blk_belowV hB HM0.out); have HX1 := Lib.hid (blk_belowV hB HX0.out); have u1c0 : k1.cell? ⟨b11, 0, none⟩ = some (.int .i64 m.f0) := (blk_cell HM1.out 0).trans rfl; have u1c1 : k1.cell? ⟨b11, 1, none⟩ = some (.string m.f1) := (blk_cell HM1.out 1).trans rfl; have u1c2 : k1.cell? ⟨b11, 2, none⟩ = some (.int .i64 m.f2) := (blk_cell HM1.out 2).trans rfl; have u1c3 : k1.cell? ⟨b11, 3, none⟩ = some (.int .u64 m.f3) := (blk_cell HM1.out 3).trans rfl; have u1c4 : k1.cell? ⟨b11, 4, none⟩ = some (.slice A2 m.f4.length c2) := (blk_cell HM1.out 4).trans rfl; have u1c5 : k1.cell? ⟨b11, 5, none⟩ = some (.int .i64 m.f5) := (blk_cell HM1.out 5).trans rfl; have v1c0 : k1.cell? ⟨b14, 0, none⟩ = some (.int .i64 x.f0) := (blk_cell HX1.out 0).trans rfl; have v1c1 : k1.cell? ⟨b14, 1, none⟩ = some (.string x.f1) := (blk_cell HX1.out 1).trans rfl; have v1c2 : k1.cell? ⟨b14, 2, none⟩ = some (.int .i64 x.f2) := (blk_cell HX1.out 2).trans rfl; have v1c3 : k1.cell? ⟨b14, 3, none⟩ = some (.int .u64 x.f3) := (blk_cell HX1.out 3).trans rfl; have v1c4 : k1.cell? ⟨b14, 4, none⟩ = some (.slice (some ad) 2 c3) := (blk_cell HX1.out 4).trans rfl; have v1c5 : k1.cell? ⟨b14, 5, none⟩ = some (.int .i64 x.f5) := (blk_cell HX1.out 5).trans rfl; clear hB) | (go_at_call 23; (with_reducible refine (CK2 _ ?_).mono ?_); exact Kd.C_below HD2.out KB1.out; rintro e_ k2 ⟨rfl, hB⟩; have KB2 := Lib.hid (below_step KB1.out hB); have HX2 := Lib.hid (blk_belowV hB HX1.out); have v2c0 : k2.cell? ⟨b14, 0, none⟩ = some (.int .i64 x.f0) := (blk_cell HX2.out 0).trans rfl; have v2c1 : k2.cell? ⟨b14, 1, none⟩ = some (.string x.f1) := (blk_cell HX2.out 1).trans rfl; have v2c2 : k2.cell? ⟨b14, 2, none⟩ = some (.int .i64 x.f2) := (blk_cell HX2.out 2).trans rfl; have v2c3 : k2.cell? ⟨b14, 3, none⟩ = some (.int .u64 x.f3) := (blk_cell HX2.out 3).trans rfl; have v2c4 : k2.cell? ⟨b14, 4, none⟩ = some (.slice (some ad) 2 c3) := (blk_cell HX2.out 4).trans rfl; have v2c5 : k2.cell? ⟨b14, 5, none⟩ = some (.int .i64 x.f5) := (blk_cell HX2.out 5).trans rfl; clear hB) | (go_at_call 23; (with_reducible refine (CK3 _ ?_).mono ?_); exact Kd.C_below HD3.out KB2.out; rintro e_ k3 ⟨rfl, hB⟩; have KB3 := Lib.hid (below_step KB2.out hB); have HX3 := Lib.hid (blk_belowV hB HX2.out); have v3c0 : k3.cell? ⟨b14, 0, none⟩ = some (.int .i64 x.f0) := (blk_cell HX3.out 0).trans rfl; have v3c1 : k3.cell? ⟨b14, 1, none⟩ = some (.string x.f1) := (blk_cell HX3.out 1).trans rfl; have v3c2 : k3.cell? ⟨b14, 2, none⟩ = some (.int .i64 x.f2) := (blk_cell HX3.out 2).trans rfl; have v3c3 : k3.cell? ⟨b14, 3, none⟩ = some (.int .u64 x.f3) := (blk_cell HX3.out 3).trans rfl; have v3c4 : k3.cell? ⟨b14, 4, none⟩ = some (.slice (some ad) 2 c3) := (blk_cell HX3.out 4).trans rfl; have v3c5 : k3.cell? ⟨b14, 5, none⟩ = some (.int .i64 x.f5) := (blk_cell HX3.out 5).trans rfl; clear hB; have hq0 := (KB3.out.cell (World.block_lt_of_cell? w6 _ HP0.out)).trans HP0.out; have hq1 := (KB3.out.cell (World.block_lt_of_cell? w6 _ HP1.out)).trans HP1.out))
          go_ret
          exact ⟨rfl, below_step HB3.out KB3.out⟩
      · have q1 : (en != 0) = false := by rw [h1]; rfl
        have q2 : (em != 0) = false := by rw [h2]; rfl
        have q3 : (ex != 0) = true := bne_iff_ne.2 h3
        clear h1 h2 h3
        go_wp2
        go_ret
        exact ⟨rfl, HB3.out⟩
    · have q1 : (en != 0) = false := by rw [h1]; rfl
      have q2 : (em != 0) = true := bne_iff_ne.2 h2
      clear h1 h2
      go_wp2
      go_ret
      exact ⟨rfl, HB3.out⟩
  · have q1 : (en != 0) = true := bne_iff_ne.2 h1
    clear h1
    go_wp2
    go_ret
    exact ⟨rfl, HB3.out⟩
end Go.Proofs.YtfgfoofojofnmaaDoor.Q
