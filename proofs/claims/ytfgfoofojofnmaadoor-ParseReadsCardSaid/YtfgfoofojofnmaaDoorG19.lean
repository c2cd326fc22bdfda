/- The document's digits and sixteen digits, in plain words. -/
import Derived.Deep.RegionHeld3
import Derived.Test.YtfgfoofojofnmaaDoorGX2
import Derived.Test.YtfgfoofojofnmaaDoorG18
import Derived.Test.YtfgfoofojofnmaaDoorG14
import Derived.Test.YtfgfoofojofnmaaDoorGX3
import Derived.Test.YtfgfoofojofnmaaDoorG15
import Derived.Test.YtfgfoofojofnmaaDoorGA1
import Derived.Test.YtfgfoofojofnmaaDoorGX4
import Derived.Test.YtfgfoofojofnmaaDoorG17
set_option linter.unusedVariables false
set_option linter.unusedSimpArgs false
namespace Go.Proofs.YtfgfoofojofnmaaDoor.Q
open Go.RowKit Go.Proofs.YtfgfoofojofnmaaDoorW.PrintWords Go.Proofs.YtfgfoofojofnmaaDoorW.PrintLast Go.Proofs.YtfgfoofojofnmaaDoorW.PrintMore
set_option linter.unusedVariables false
set_option linter.unusedSimpArgs false
open Go.Proofs.YtfgfoofojofnmaaDoor.Hand
theorem ba_list {a b : ByteArray} (h : a.data.toList = b.data.toList) : a = b := ByteArray.ext (Array.toList_inj.1 h)
theorem strOne (x : Int) : (strOfNums [x]).data.toList = [UInt8.ofNat x.toNat] := by simp [strOfNums]
/-! ### digits -/
def decS (u : Nat) : List UInt8 := if u = 0 then [] else Lib.decDigits u
theorem decS_step (u : Nat) (h : u ≠ 0) : decS u = decS (u / 10) ++ [UInt8.ofNat (48 + u % 10)] := by
  unfold decS
  rw [if_neg h]
  by_cases h1 : u < 10
  · rw [Lib.decDigits_one h1, if_pos (by omega), List.nil_append, Nat.mod_eq_of_lt h1]
  · rw [Lib.decDigits, dif_neg h1, if_neg (by omega)]
theorem dec_step (u : Nat) : Lib.decDigits u = decS (u / 10) ++ [UInt8.ofNat (48 + u % 10)] := by
  by_cases h : u = 0
  · subst h; rw [Lib.decDigits_one (by decide)]; rfl
  · rw [← decS_step u h]; unfold decS; rw [if_neg h]
theorem digit_num (u : Nat) (hu : u < 1000000000) : strOfNums (([(wrap64 (48 + (Int.tmod (u : Int) 10))) % 256] : List Int)) = bs [UInt8.ofNat (48 + u % 10)] := by
  apply ba_list
  rw [strOne, bs_list]
  have e : (Int.tmod (u : Int) 10) = ((u % 10 : Nat) : Int) := by
    rw [Int.tmod_eq_emod_of_nonneg (by omega)]; omega
  have e2 : (wrap64 (48 + ((u % 10 : Nat) : Int))) % 256 = ((48 + u % 10 : Nat) : Int) := by unfold wrap64; omega
  rw [e, e2]
  rfl
theorem div_num (u : Nat) (hu : u < 1000000000) : wrap64 (Int.tdiv (u : Int) 10) = ((u / 10 : Nat) : Int) := by
  rw [Int.tdiv_eq_ediv_of_nonneg (by omega)]
  unfold wrap64
  omega
theorem digits_loop : ∀ (k u : Nat) (acc : ByteArray), u < 1000000000 → u < 10 ^ k → acc.size + k ≤ 1000000 → forebearref21_Digits.l0 (k + 1) (u : Int) acc = some (bs (decS u ++ acc.data.toList))
  | k, 0, acc, _, _, _ => by
    rw [forebearref21_Digits.l0, if_neg (by decide)]
    show some acc = _
    unfold decS
    rw [if_pos rfl, List.nil_append, bs_of]
  | 0, u + 1, acc, _, h, _ => absurd h (by simp)
  | k + 1, u + 1, acc, hu, h, ha => by
    have hp : 10 ^ (k + 1) = 10 ^ k * 10 := Nat.pow_succ ..
    rw [forebearref21_Digits.l0, if_pos (by omega), Option.bind_some, digit_num (u + 1) hu, div_num (u + 1) hu, if_pos (by rw [bs_size]; simp; omega), digits_loop k ((u + 1) / 10) _ (by omega) (by rw [hp] at h; exact Nat.div_lt_of_lt_mul (by rw [Nat.mul_comm]; exact h)) (by rw [ByteArray.size_append, bs_size]; simp; omega), decS_step (u + 1) (by omega)]
    simp [bs_list]
theorem digits_eq (n : Int) (h0 : 0 ≤ n) (h9 : n < 1000000000) (k : Nat) (hk : 10 ≤ k) (hk2 : k ≤ 900000) : forebearref21_Digits.f k n = some (itoaT n) := by
  obtain ⟨u, rfl⟩ : ∃ u : Nat, n = u := ⟨n.toNat, by omega⟩
  obtain ⟨k, rfl⟩ : ∃ k1, k = k1 + 1 := ⟨k - 1, by omega⟩
  have hu : u < 1000000000 := by omega
  unfold forebearref21_Digits.f
  rw [digit_num u hu, div_num u hu, digits_loop k (u / 10) _ (by omega) (by
    have : (10 : Nat) ^ 9 ≤ 10 ^ k := Nat.pow_le_pow_right (by decide) (by omega)
    have e : (10 : Nat) ^ 9 = 1000000000 := by decide
    omega) (by rw [bs_size]; simp; omega), bs_list, ← dec_step]
  rfl
/-! ### sixteen digits -/
theorem digs_front (k v : Nat) : digs (k + 1) v = hexDig (v / 16 ^ k % 16) :: digs k v := by
  unfold digs
  rw [List.range_succ_eq_map, List.map_cons, List.map_map]
  congr 1
  refine List.map_congr_left fun i hi => ?_
  have hi := List.mem_range.1 hi
  show hexDig (v / 16 ^ (k + 1 - 1 - (i + 1)) % 16) = _
  rw [show k + 1 - 1 - (i + 1) = k - 1 - i by omega]
theorem hexT_digs (id : Int) : hexT id = bs (digs 16 id.toNat) := rfl
theorem rdigit (j : Nat) (hj : j < 16) : ∃ t, forebearref01_digit.f (j : Int) = some t ∧ strOfNums ([t] : List Int) = bs [hexDig j] := by
  unfold forebearref01_digit.f
  by_cases h : j < 10
  · refine ⟨_, by rw [if_pos (by omega)], ?_⟩
    apply ba_list
    rw [strOne, bs_list]
    have : (IntKind.u64.wrap (48 + (j : Int))) % 256 = ((48 + j : Nat) : Int) := by rw [wu64]; omega
    rw [this]
    unfold hexDig
    rw [if_pos h]
    rfl
  · refine ⟨_, by rw [if_neg (by omega)], ?_⟩
    apply ba_list
    rw [strOne, bs_list]
    have : (IntKind.u64.wrap (87 + (j : Int))) % 256 = ((87 + j : Nat) : Int) := by rw [wu64]; omega
    rw [this]
    unfold hexDig
    rw [if_neg h]
    rfl
theorem hex_loop (v : Nat) (hv : v < 18446744073709551616) (d : Nat) : ∀ (k i : Nat), 16 - i = d → i ≤ 16 → d < k → forebearref01_Hex.l0 k ((v / 16 ^ i : Nat) : Int) (bs (digs i v)) (i : Int) = some (bs (digs 16 v)) := by
  induction d with
  | zero =>
    intro k i hd hi hk
    obtain ⟨k, rfl⟩ : ∃ k1, k = k1 + 1 := ⟨k - 1, by omega⟩
    have : i = 16 := by omega
    subst this
    rw [forebearref01_Hex.l0, if_neg (by decide)]
  | succ d ih =>
    intro k i hd hi hk
    obtain ⟨k, rfl⟩ : ∃ k1, k = k1 + 1 := ⟨k - 1, by omega⟩
    have hle : v / 16 ^ i < 18446744073709551616 := Nat.lt_of_le_of_lt (Nat.div_le_self _ _) hv
    have e1 : Int.tmod ((v / 16 ^ i : Nat) : Int) 16 = ((v / 16 ^ i % 16 : Nat) : Int) := by
      rw [Int.tmod_eq_emod_of_nonneg (Int.natCast_nonneg _)]
      generalize v / 16 ^ i = x at *
      omega
    have e2 : IntKind.u64.wrap (Int.tdiv ((v / 16 ^ i : Nat) : Int) 16) = ((v / 16 ^ (i + 1) : Nat) : Int) := by
      rw [Int.tdiv_eq_ediv_of_nonneg (Int.natCast_nonneg _), wu64, Nat.pow_succ, ← Nat.div_div_eq_div_mul]
      generalize v / 16 ^ i = x at *
      omega
    obtain ⟨t, h1, h2⟩ := rdigit (v / 16 ^ i % 16) (Nat.mod_lt _ (by decide))
    have e3 : bs [hexDig (v / 16 ^ i % 16)] ++ bs (digs i v) = bs (digs (i + 1) v) := by
      apply ba_list
      rw [digs_front]; simp [bs_list]
    have hl := digs_len i v
    rw [forebearref01_Hex.l0, if_pos (by omega), e1, h1, Option.bind_some, Option.bind_some, h2, if_pos (by rw [bs_size, bs_size, hl]; simp; omega), e2, e3]
    have e4 : wrap64 ((i : Int) + 1) = ((i + 1 : Nat) : Int) := by rw [w64 (by omega) (by omega)]; omega
    rw [e4]
    clear e4 e1 e2 h1
    exact ih k (i + 1) (by omega) (by omega) (by omega)
theorem hexR_eq (id : Int) (h0 : 0 ≤ id) (h1 : id < 18446744073709551616) (k : Nat) (hk : 17 ≤ k) : forebearref01_Hex.f k id = some (hexT id) := by
  have h := hex_loop id.toNat (by omega) 16 k 0 rfl (by decide) (by omega)
  have e : ((id.toNat / 16 ^ 0 : Nat) : Int) = id := by rw [Nat.pow_zero, Nat.div_one]; exact Int.toNat_of_nonneg h0
  rw [e] at h
  exact h
end Go.Proofs.YtfgfoofojofnmaaDoor.Q
namespace Go.VM
open Go.RowKit
/-- A function on atoms, walked by the kit: an atom. -/
theorem VSpec.ofCalls {P : Program} {f : Nat} {vals : List Value} {u : Value} (h : ∀ w, Calls P f vals.toArray w fun e w' => e = .returned u ∧ Below w.heap.size w w') : VSpec P f (vals.map av) (av u) := by
  intro w I μ vs H hr
  have e : ∀ {l : List Value} {vs : List Value}, AV.reps μ w I [] (l.map av) vs → vs = l := by
    intro l
    induction l with
    | nil => intro vs h; cases vs with
      | nil => rfl
      | cons => exact h.elim
    | cons x l ih => intro vs h; cases vs with
      | nil => exact h.elim
      | cons v vs =>
        have h1 := h.1
        rw [AV.rep] at h1
        rw [show v = x from h1, ih h.2]
  rw [e hr]
  refine (h w).mono ?_
  rintro _ w' ⟨rfl, hB⟩
  exact ⟨_, _, [], fun _ => none, I, rfl, rfl, ⟨fun r o e => (by cases e), fun r r' b z z' h => (by obtain ⟨o, e, _⟩ := h; cases e), fun r b z h => (by obtain ⟨o, e, _⟩ := h; cases e), fun b hb => ⟨Nat.lt_of_lt_of_le (H.imm b hb) hB.size, .inl hb⟩, ⟨hB.os, hB.tape, hB.output, hB.size, fun b hb _ => hB.block b hb⟩, fun r m e => (by simp [ctx0, pinOf, VM.get] at e), fun b hb => hb⟩, by rw [AV.rep]; rfl⟩
theorem LSpec.weaken {P : Program} {f : Nat} {args args' : List AV} {Post : AV → Heap → Prop} (h : ∀ μ w I vals, AV.reps μ w I [] args vals → AV.reps μ w I [] args' vals) (hL : LSpec P f args' [] Post) : LSpec P f args [] Post := fun w I μ vals H hr => hL w I μ vals H (h μ w I vals hr)
end Go.VM
namespace Go.Proofs.YtfgfoofojofnmaaDoor.V
open Go.VM
open Go.RowKit
open Go.Proofs.YtfgfoofojofnmaaDoor.Q Go.Proofs.YtfgfoofojofnmaaDoor.Hand
def sHex : Summ := fun args _ => match args with
  | [.d (.a (.int .u64 n))] => .chk (0 ≤ n ∧ n < 18446744073709551616) (.pure ⟨av (.string (hexT n)), [], []⟩)
  | _ => .fail 1011
theorem sHex_ok : SummOk Tryd.prog 47 sHex := SummOk.pure ⟨_, Tryd.func47, rfl, rfl⟩ fun args fr sl hp Φ h => by
  unfold sHex at h
  split at h
  · rename_i n
    obtain ⟨⟨h0, h1⟩, h⟩ := h
    exact ⟨_, h, rfl, rfl, VSpec.ofCalls (vals := [.int .u64 n]) fun w => forebearref01_Hex.calls 17 n _ w (hexR_eq n h0 h1 17 (Nat.le_refl _))⟩
  · exact h.elim
def sDig : Summ := fun args _ => match args with
  | [.d (.a (.int .i64 n))] => .chk (0 ≤ n ∧ n < 1000000000) (.pure ⟨av (.string (itoaT n)), [], []⟩)
  | _ => .fail 1012
theorem sDig_ok : SummOk Tryd.prog 46 sDig := SummOk.pure ⟨_, Tryd.func46, rfl, rfl⟩ fun args fr sl hp Φ h => by
  unfold sDig at h
  split at h
  · rename_i n
    obtain ⟨⟨h0, h1⟩, h⟩ := h
    exact ⟨_, h, rfl, rfl, VSpec.ofCalls (vals := [.int .i64 n]) fun w => forebearref21_Digits.calls 10 n _ w (digits_eq n h0 h1 10 (Nat.le_refl _) (by decide))⟩
  · exact h.elim
/-- A kid's text, in brackets where it must. -/
def inT (x : S44) (k : Int) : ByteArray := if levelT x.f0 < k then ((⟨#[40]⟩ : ByteArray) ++ showT x) ++ (⟨#[41]⟩ : ByteArray) else showT x
def sShow (N : Nat) : Summ := fun args _ => match args with
  | [.agg cs] => .ex fun x : S44 => .chk (cs = cellsN x ∧ wt x ≤ N ∧ Wf x) (.pure ⟨av (.string (showT x)), [], []⟩)
  | _ => .fail 1013
def sIn (N : Nat) : Summ := fun args _ => match args with
  | [.agg cs, .d (.a (.int .i64 k))] => .ex fun x : S44 => .chk (cs = cellsN x ∧ wt x ≤ N ∧ Wf x) (.pure ⟨av (.string (inT x k)), [], []⟩)
  | _ => .fail 1014
def cellsR (x : S44) : List AV := [av (.int .i64 x.f0), av (.string x.f1), av (.int .i64 x.f2), av (.int .u64 x.f3), .d (.vs false x.f4.length 6 (rowC encN z44 x.f4)), av (.int .i64 x.f5)]
theorem cells_R (x : S44) : ∀ (μ : Mu) (w : World) (I : Nat → Prop) (vals : List Value), AV.reps μ w I [] [.agg (cellsN x)] vals → AV.reps μ w I [] [.agg (cellsR x)] vals := fun μ w I vals h => by
  match vals, h with
  | [v], h =>
    refine ⟨?_, trivial⟩
    have h := h.1
    rw [AV.rep] at h ⊢
    obtain ⟨a, e, h⟩ := h
    refine ⟨a, e, ?_⟩
    match a.toList, h with
    | [c0, c1, c2, c3, c4, c5], h =>
      refine ⟨h.1, h.2.1, h.2.2.1, h.2.2.2.1, ?_, h.2.2.2.2.2⟩
      have h4 := h.2.2.2.2.1
      rw [AV.rep] at h4 ⊢
      exact (DR.vs (fun e => e) rfl fun i j hi _ => row_N hi).rep h4
  | _ :: _ :: _, h => exact h.2.elim
theorem sz1 (a : UInt8) : (⟨#[a]⟩ : ByteArray).size = 1 := rfl
theorem sz2 (a b : UInt8) : (⟨#[a, b]⟩ : ByteArray).size = 2 := rfl
theorem sz3 (a b c : UInt8) : (⟨#[a, b, c]⟩ : ByteArray).size = 3 := rfl
set_option maxRecDepth 100000 in
theorem in_v (N : Nat) (hN : N ≤ 1000000) (hS : SummOk Tryd.prog 30 (sShow N)) (x : S44) (k : Int) (hx : wt x ≤ N) (hf : Wf x) : VSpec Tryd.prog 64 [.agg (cellsN x), av (.int .i64 k)] (av (.string (inT x k))) := by
  refine LSpec.intro (E := ⟨tt, [(59, sLevel), (30, sShow N)], [], Tryd.f64.ntmps⟩) tt_ok (fnsOk_cons sLevel_ok (fnsOk_cons hS fnsOk_nil)) mixed Tryd.func64 rfl rfl ?_
  have hz := wf_size hf
  (repeat' (first | refine Chk.mk ?_ ?_ | (refine Br.id ?_; first | refine Br.kt (by with_reducible first | rfl | assumption) ?_ | refine Br.kf (by with_reducible first | rfl | assumption) ?_ | refine Br.kf (show (!true) = false from rfl) ?_ | refine Br.kt (show (!false) = true from rfl) ?_ | refine Br.mk (fun h => ?_) (fun h => ?_)) | (refine (show (noInt _ _ _ && edgesOk _ _) = true from ?_); kernel_rfl)))
  · refine Exists.intro x (Chk.mk ⟨rfl, hx, hf⟩ ?_)
    (repeat' (first | refine Chk.mk ?_ ?_ | (refine Br.id ?_; first | refine Br.kt (by with_reducible first | rfl | assumption) ?_ | refine Br.kf (by with_reducible first | rfl | assumption) ?_ | refine Br.kf (show (!true) = false from rfl) ?_ | refine Br.kt (show (!false) = true from rfl) ?_ | refine Br.mk (fun h => ?_) (fun h => ?_)) | (refine (show (noInt _ _ _ && edgesOk _ _) = true from ?_); kernel_rfl)))
    · simp only [ByteArray.size_append, sz1]; omega
    · simp only [ByteArray.size_append, sz1]; omega
    · refine eqS ?_
      (try simp only [decide_eq_true_eq, decide_eq_false_iff_not, beq_iff_eq, beq_eq_false_iff_ne, bne_iff_ne, ne_eq, Nat.zero_add, Nat.add_zero, Int.not_lt, Int.not_le, Bool.not_eq_true', Bool.not_eq_false', ge_iff_le, gt_iff_lt] at *)
      rw [inT, if_pos h]
  · refine Exists.intro x (Chk.mk ⟨rfl, hx, hf⟩ ?_)
    (repeat' (first | refine Chk.mk ?_ ?_ | (refine Br.id ?_; first | refine Br.kt (by with_reducible first | rfl | assumption) ?_ | refine Br.kf (by with_reducible first | rfl | assumption) ?_ | refine Br.kf (show (!true) = false from rfl) ?_ | refine Br.kt (show (!false) = true from rfl) ?_ | refine Br.mk (fun h => ?_) (fun h => ?_)) | (refine (show (noInt _ _ _ && edgesOk _ _) = true from ?_); kernel_rfl)))
    refine eqS ?_
    (try simp only [decide_eq_true_eq, decide_eq_false_iff_not, beq_iff_eq, beq_eq_false_iff_ne, bne_iff_ne, ne_eq, Nat.zero_add, Nat.add_zero, Int.not_lt, Int.not_le, Bool.not_eq_true', Bool.not_eq_false', ge_iff_le, gt_iff_lt] at *)
    rw [inT, if_neg (by omega)]
theorem inT_size {x : S44} {k : Int} (h : Wf x) : (inT x k).size + 98 ≤ 2000 * wt x := by
  have := wf_size h
  unfold inT
  split
  · simp only [ByteArray.size_append, sz1]; omega
  · omega
theorem kid_in (ks : List S44) (i : Nat) (h : i < ks.length) (k : Int) : kidAt (showM ks) i k = inT (ks.getD i z44) k := by
  rw [kidAt_in ks i h, inT, List.getD_eq_getElem?_getD, List.getElem?_eq_getElem h]; rfl
end Go.Proofs.YtfgfoofojofnmaaDoor.V
namespace Go.Proofs.YtfgfoofojofnmaaDoor.V
open Go.VM
open Go.RowKit
open Go.Proofs.YtfgfoofojofnmaaDoor.Q Go.Proofs.YtfgfoofojofnmaaDoor.Hand
/-! ### a call's kids -/
def preT (s : ByteArray) (ks : List S44) : Nat → ByteArray
  | 0 => s ++ (⟨#[40]⟩ : ByteArray)
  | i + 1 => (if i = 0 then preT s ks i else preT s ks i ++ (⟨#[44, 32]⟩ : ByteArray)) ++ inT (ks.getD i z44) 1
theorem pre_up (s : ByteArray) (ks : List S44) {i : Nat} (h : 0 < i) : preT s ks (i + 1) = (preT s ks i ++ (⟨#[44, 32]⟩ : ByteArray)) ++ inT (ks.getD i z44) 1 := by
  rw [preT, if_neg (by omega)]
theorem pre_one (s : ByteArray) (ks : List S44) : preT s ks 1 = preT s ks 0 ++ inT (ks.getD 0 z44) 1 := by
  rw [preT]; exact congrArg (· ++ _) (if_pos rfl)
theorem wtM_up : ∀ (l : List S44) (i : Nat), i < l.length → wtM (l.take (i + 1)) = wtM (l.take i) + wt (l.getD i z44)
  | x :: l, 0, _ => by simp [wtM]
  | x :: l, i + 1, h => by
    rw [List.take_succ_cons, List.take_succ_cons, wtM, wtM, wtM_up l i (by simpa using h)]
    show _ + (_ + wt (l.getD i z44)) = _ + _ + wt (l.getD i z44)
    omega
theorem inter_snoc {α : Type} (sep : List α) : ∀ (l : List (List α)) (y x : List α), sep.intercalate (y :: (l ++ [x])) = sep.intercalate (y :: l) ++ sep ++ x := by
  intro l
  induction l with
  | nil => intro y x; simp [List.intercalate, List.intersperse]
  | cons z l ih =>
    intro y x
    have := ih z x
    simp only [List.intercalate] at this ⊢
    rw [List.cons_append]
    simp only [List.intersperse_cons_cons, List.flatten_cons]
    rw [this]
    simp
theorem pre_join (s : ByteArray) (ks : List S44) : ∀ i, i ≤ ks.length → preT s ks i = (s ++ (⟨#[40]⟩ : ByteArray)) ++ joinB ((List.range i).map fun i => kidAt (showM ks) i 1) (⟨#[44, 32]⟩ : ByteArray)
  | 0, _ => by
    have : joinB [] (⟨#[44, 32]⟩ : ByteArray) = ⟨#[]⟩ := by simp [joinB, Lib.join, List.intercalate]
    rw [preT, List.range_zero, List.map_nil, this]
    exact ByteArray.append_empty.symm
  | 1, h => by
    rw [show List.range 1 = [0] from rfl, List.map_cons, List.map_nil, kid_in ks 0 (by omega)]
    have : ∀ b : ByteArray, joinB [b] (⟨#[44, 32]⟩ : ByteArray) = b := fun b => by simp [joinB, Lib.join, List.intercalate]
    rw [this, pre_one, preT]
  | i + 2, h => by
    rw [pre_up s ks (by omega), pre_join s ks (i + 1) (by omega)]
    have e : (List.range (i + 2)).map (fun i => kidAt (showM ks) i 1) = kidAt (showM ks) 0 1 :: (((List.range i).map fun i => kidAt (showM ks) (i + 1) 1) ++ [kidAt (showM ks) (i + 1) 1]) := by
      rw [List.range_succ, List.map_append, List.range_succ_eq_map, List.map_cons, List.map_map]; rfl
    have e1 : (List.range (i + 1)).map (fun i => kidAt (showM ks) i 1) = kidAt (showM ks) 0 1 :: ((List.range i).map fun i => kidAt (showM ks) (i + 1) 1) := by
      rw [List.range_succ_eq_map, List.map_cons, List.map_map]; rfl
    rw [e, e1, ← kid_in ks (i + 1) (by omega)]
    generalize kidAt (showM ks) (i + 1) 1 = x
    generalize ((List.range i).map fun i => kidAt (showM ks) (i + 1) 1) = l
    generalize kidAt (showM ks) 0 1 = y
    have : joinB (y :: (l ++ [x])) (⟨#[44, 32]⟩ : ByteArray) = (joinB (y :: l) (⟨#[44, 32]⟩ : ByteArray) ++ (⟨#[44, 32]⟩ : ByteArray)) ++ x := by
      apply ba_list
      unfold joinB Lib.join
      rw [List.map_cons, List.map_append, List.map_cons, List.map_nil, inter_snoc]
      simp
    rw [this]
    simp only [ByteArray.append_assoc]
theorem pre_size {s : ByteArray} {ks : List S44} (hs : s.size ≤ 100) (hk : ∀ k ∈ ks, Wf k) : ∀ i, i ≤ ks.length → (preT s ks i).size ≤ 101 + 2000 * wtM (ks.take i)
  | 0, _ => by rw [preT, ByteArray.size_append, sz1]; omega
  | i + 1, h => by
    have hw := wtM_up ks i (by omega)
    have hm : Wf (ks.getD i z44) := by rw [List.getD_eq_getElem?_getD, List.getElem?_eq_getElem (by omega)]; exact hk _ (List.getElem_mem _)
    have h1 := inT_size (k := 1) hm
    have h2 := pre_size hs hk i (by omega)
    rw [hw]
    rcases Nat.eq_zero_or_pos i with h0 | h0
    · subst h0
      rw [pre_one, ByteArray.size_append]
      omega
    · rw [pre_up s ks h0]
      simp only [ByteArray.size_append, sz2]
      omega
theorem wtM_take (l : List S44) (i : Nat) : wtM (l.take i) ≤ wtM l := by have := wtM_td l i; omega
set_option maxRecDepth 100000 in
theorem show_v (N : Nat) (hN : N + 1 ≤ 1000000) (hS : SummOk Tryd.prog 64 (sIn N)) (x : S44) (hx : wt x ≤ N + 1) (hf : Wf x) : VSpec Tryd.prog 30 [.agg (cellsN x)] (av (.string (showT x))) := by
  refine LSpec.weaken (cells_R x) (LSpec.intro (E := ⟨tt, [(46, sDig), (47, sHex), (64, sIn N)], [], Tryd.f30.ntmps⟩) tt_ok (fnsOk_cons sDig_ok (fnsOk_cons sHex_ok (fnsOk_cons hS fnsOk_nil))) mixed Tryd.func30 rfl rfl ?_)
  have hz := wf_size hf
  cases hf with
  | name s p h =>
    (repeat' (first | refine Chk.mk ?_ ?_ | (refine Br.id ?_; first | refine Br.kt (by with_reducible first | rfl | assumption) ?_ | refine Br.kf (by with_reducible first | rfl | assumption) ?_ | refine Br.kf (show (!true) = false from rfl) ?_ | refine Br.kt (show (!false) = true from rfl) ?_ | refine Br.mk (fun h => ?_) (fun h => ?_)) | (refine (show (noInt _ _ _ && edgesOk _ _) = true from ?_); kernel_rfl)))
    exact eqS (by rw [showT]; rfl)
  | hash id p h0 h1 =>
    have hh : (hexT id).size = 16 := by rw [hexT_digs, bs_size, digs_len]
    (repeat' (first | refine Chk.mk ?_ ?_ | (refine Br.id ?_; first | refine Br.kt (by with_reducible first | rfl | assumption) ?_ | refine Br.kf (by with_reducible first | rfl | assumption) ?_ | refine Br.kf (show (!true) = false from rfl) ?_ | refine Br.kt (show (!false) = true from rfl) ?_ | refine Br.mk (fun h => ?_) (fun h => ?_)) | (refine (show (noInt _ _ _ && edgesOk _ _) = true from ?_); kernel_rfl)))
    · exact ⟨h0, h1⟩
    · dsimp only
      rw [sz1, hh]; decide
    · exact eqS (by rw [showT]; exact (hash_is id).symm)
  | num n p h0 h1 =>
    (repeat' (first | refine Chk.mk ?_ ?_ | (refine Br.id ?_; first | refine Br.kt (by with_reducible first | rfl | assumption) ?_ | refine Br.kf (by with_reducible first | rfl | assumption) ?_ | refine Br.kf (show (!true) = false from rfl) ?_ | refine Br.kt (show (!false) = true from rfl) ?_ | refine Br.mk (fun h => ?_) (fun h => ?_)) | (refine (show (noInt _ _ _ && edgesOk _ _) = true from ?_); kernel_rfl)))
    · exact ⟨h0, h1⟩
    · exact eqS (by rw [showT]; rfl)
  | text s p h =>
    have hh := h.2.2
    (repeat' (first | refine Chk.mk ?_ ?_ | (refine Br.id ?_; first | refine Br.kt (by with_reducible first | rfl | assumption) ?_ | refine Br.kf (by with_reducible first | rfl | assumption) ?_ | refine Br.kf (show (!true) = false from rfl) ?_ | refine Br.kt (show (!false) = true from rfl) ?_ | refine Br.mk (fun h => ?_) (fun h => ?_)) | (refine (show (noInt _ _ _ && edgesOk _ _) = true from ?_); kernel_rfl)))
    · dsimp only
      rw [sz1]; omega
    · dsimp only
      rw [ByteArray.size_append, sz1]; omega
    · exact eqS (by rw [showT]; rfl)
  | two op a b p ho ha hb =>
    have hwa : wt a + wt b ≤ N := by rw [wt_nd, wtM, wtM, wtM] at hx; omega
    have sa := fun k => inT_size (k := k) ha
    have sb := fun k => inT_size (k := k) hb
    have ka := fun k => kid_in [a, b] 0 (by simp) k
    have kb := fun k => kid_in [a, b] 1 (by simp) k
    rcases ho with rfl | rfl | rfl | rfl | rfl
    all_goals (repeat' (first | refine Chk.mk ?_ ?_ | (refine Br.id ?_; first | refine Br.kt (by with_reducible first | rfl | assumption) ?_ | refine Br.kf (by with_reducible first | rfl | assumption) ?_ | refine Br.kf (show (!true) = false from rfl) ?_ | refine Br.kt (show (!false) = true from rfl) ?_ | refine Br.mk (fun h => ?_) (fun h => ?_)) | (refine (show (noInt _ _ _ && edgesOk _ _) = true from ?_); kernel_rfl)))
    all_goals first | exact ⟨Int.le_refl 0, show (0 : Int) < 2 by decide⟩ | refine Exists.intro a (Chk.mk ⟨rfl, by omega, ha⟩ ?_)
    all_goals (repeat' (first | refine Chk.mk ?_ ?_ | (refine Br.id ?_; first | refine Br.kt (by with_reducible first | rfl | assumption) ?_ | refine Br.kf (by with_reducible first | rfl | assumption) ?_ | refine Br.kf (show (!true) = false from rfl) ?_ | refine Br.kt (show (!false) = true from rfl) ?_ | refine Br.mk (fun h => ?_) (fun h => ?_)) | (refine (show (noInt _ _ _ && edgesOk _ _) = true from ?_); kernel_rfl)))
    all_goals first | exact ⟨show (0 : Int) ≤ 1 by decide, show (1 : Int) < 2 by decide⟩ | ((try dsimp only); simp only [ByteArray.size_append, sz2, sz3]; have := sa 1; have := sa 2; have := sa 4; omega) | refine Exists.intro b (Chk.mk ⟨rfl, by omega, hb⟩ ?_)
    all_goals (repeat' (first | refine Chk.mk ?_ ?_ | (refine Br.id ?_; first | refine Br.kt (by with_reducible first | rfl | assumption) ?_ | refine Br.kf (by with_reducible first | rfl | assumption) ?_ | refine Br.kf (show (!true) = false from rfl) ?_ | refine Br.kt (show (!false) = true from rfl) ?_ | refine Br.mk (fun h => ?_) (fun h => ?_)) | (refine (show (noInt _ _ _ && edgesOk _ _) = true from ?_); kernel_rfl)))
    all_goals first | ((try dsimp only); simp only [ByteArray.size_append, sz2, sz3]; have := sa 1; have := sa 2; have := sa 4; have := sb 2; have := sb 3; have := sb 4; omega) | (refine eqS ?_; rw [nd, showT]; exact (show _ = (kidAt (showM [a, b]) 0 _ ++ _) ++ kidAt (showM [a, b]) 1 _ from by rw [ka, kb]; rfl))
  | not a p ha =>
    have hwa : wt a ≤ N := by rw [wt_nd, wtM, wtM] at hx; omega
    have sa := fun k => inT_size (k := k) ha
    have ka := fun k => kid_in [a] 0 (by simp) k
    (repeat' (first | refine Chk.mk ?_ ?_ | (refine Br.id ?_; first | refine Br.kt (by with_reducible first | rfl | assumption) ?_ | refine Br.kf (by with_reducible first | rfl | assumption) ?_ | refine Br.kf (show (!true) = false from rfl) ?_ | refine Br.kt (show (!false) = true from rfl) ?_ | refine Br.mk (fun h => ?_) (fun h => ?_)) | (refine (show (noInt _ _ _ && edgesOk _ _) = true from ?_); kernel_rfl)))
    · exact ⟨Int.le_refl 0, show (0 : Int) < 1 by decide⟩
    · refine Exists.intro a (Chk.mk ⟨rfl, by omega, ha⟩ ?_)
      (repeat' (first | refine Chk.mk ?_ ?_ | (refine Br.id ?_; first | refine Br.kt (by with_reducible first | rfl | assumption) ?_ | refine Br.kf (by with_reducible first | rfl | assumption) ?_ | refine Br.kf (show (!true) = false from rfl) ?_ | refine Br.kt (show (!false) = true from rfl) ?_ | refine Br.mk (fun h => ?_) (fun h => ?_)) | (refine (show (noInt _ _ _ && edgesOk _ _) = true from ?_); kernel_rfl)))
      · rw [sz1]; have := sa 4; omega
      · refine eqS ?_
        rw [nd, showT]
        exact (show _ = _ ++ kidAt (showM [a]) 0 _ from by rw [ka]; rfl)
  | up n a p h0 h1 ha =>
    have hwa : wt a ≤ N := by rw [wt, wtM, wtM] at hx; omega
    have sa := fun k => inT_size (k := k) ha
    have ka := fun k => kid_in [a] 0 (by simp) k
    (repeat' (first | refine Chk.mk ?_ ?_ | (refine Br.id ?_; first | refine Br.kt (by with_reducible first | rfl | assumption) ?_ | refine Br.kf (by with_reducible first | rfl | assumption) ?_ | refine Br.kf (show (!true) = false from rfl) ?_ | refine Br.kt (show (!false) = true from rfl) ?_ | refine Br.mk (fun h => ?_) (fun h => ?_)) | (refine (show (noInt _ _ _ && edgesOk _ _) = true from ?_); kernel_rfl)))
    · exact ⟨Int.le_refl 0, show (0 : Int) < 1 by decide⟩
    · refine Exists.intro a (Chk.mk ⟨rfl, by omega, ha⟩ ?_)
      (repeat' (first | refine Chk.mk ?_ ?_ | (refine Br.id ?_; first | refine Br.kt (by with_reducible first | rfl | assumption) ?_ | refine Br.kf (by with_reducible first | rfl | assumption) ?_ | refine Br.kf (show (!true) = false from rfl) ?_ | refine Br.kt (show (!false) = true from rfl) ?_ | refine Br.mk (fun h => ?_) (fun h => ?_)) | (refine (show (noInt _ _ _ && edgesOk _ _) = true from ?_); kernel_rfl)))
      · rw [sz1]; have := sa 5; omega
      · exact ⟨h0, h1⟩
      · have h : n ≠ 0 := bne_iff_ne.1 ‹(_ != _) = true›
        have e : showT ⟨12, ⟨#[]⟩, n, 0, [a], p⟩ = (inT a 5 ++ (⟨#[94]⟩ : ByteArray)) ++ itoaT n := by
          rw [showT]
          show (if n = 0 then _ else (kidAt (showM [a]) 0 5 ++ (⟨#[94]⟩ : ByteArray)) ++ itoaT n) = _
          rw [if_neg h, ka]; rfl
        rw [e, ByteArray.size_append, wt, wtM, wtM] at hz
        show (inT a 5 ++ (⟨#[94]⟩ : ByteArray)).size + (itoaT n).size ≤ _
        omega
      · have h : n ≠ 0 := bne_iff_ne.1 ‹(_ != _) = true›
        refine eqS ?_
        rw [showT]
        show _ = (if n = 0 then _ else (kidAt (showM [a]) 0 5 ++ (⟨#[94]⟩ : ByteArray)) ++ itoaT n)
        rw [if_neg h, ka]; rfl
      · have h : n = 0 := bne_eq_false_iff_eq.1 ‹(_ != _) = false›
        refine eqS ?_
        rw [showT]
        show _ = (if n = 0 then kidAt (showM [a]) 0 5 ++ (⟨#[94]⟩ : ByteArray) else _)
        rw [if_pos h, ka]; rfl
  | call s ks p hs hk =>
    have hw : wt ⟨5, s, 0, 0, ks, p⟩ = 1 + wtM ks := by rw [wt]
    have hsz : s.size ≤ 100 := by
      obtain ⟨c, r, e, _, _, hl⟩ := hs
      have h0 : s.data.size = s.data.toList.length := by simp
      show s.data.size ≤ 100
      rw [h0, e, List.length_cons]; omega
    (repeat' (first | refine Chk.mk ?_ ?_ | (refine Br.id ?_; first | refine Br.kt (by with_reducible first | rfl | assumption) ?_ | refine Br.kf (by with_reducible first | rfl | assumption) ?_ | refine Br.kf (show (!true) = false from rfl) ?_ | refine Br.kt (show (!false) = true from rfl) ?_ | refine Br.mk (fun h => ?_) (fun h => ?_)) | (refine (show (noInt _ _ _ && edgesOk _ _) = true from ?_); kernel_rfl)))
    · dsimp only
      rw [sz1]; omega
    · refine Exists.intro (fun (m : Nat) (sl : Slots) (h : Heap) => ∃ i : Nat, sl = [(1, AV.pc 1 0), (3, av (.string (preT s ks i))), (4, av (.int .i64 i))] ∧ h = [(1, AO.cells (cellsR ⟨5, s, 0, 0, ks, p⟩))] ∧ i ≤ ks.length ∧ m = ks.length - i) ?_
      refine And.intro ?_ (fun m sl h hI => ?_)
      · refine ⟨_, _, _, ?_, 0, rfl, rfl, Nat.zero_le _, rfl⟩
        (refine Weak.of id ?_ ?_ (fun _ _ _ _ e => e) ?_ <;> first | exact lw_of rfl | (repeat' (first | exact True.intro | refine And.intro (Exists.intro _ (And.intro rfl ?_)) ?_ | exact ORel.dead | refine ORel.cells ?_ | exact ORel.row rfl (fun _ _ _ _ => DR.refl _) | refine ORel.row rfl ?_ | refine ORel.row ?_ ?_ | (first | exact VR.eq rfl rfl | exact VR.pc rfl rfl | exact VR.pr rfl rfl | exact VR.mp rfl rfl | exact VR.rs rfl rfl rfl rfl | exact VR.nilv | exact VR.nilrs rfl | exact VR.nil | refine VR.agg ?_ | refine VR.tup ?_ | refine VR.cons ?_ ?_ | refine VR.eq (eqI ?_) rfl | refine VR.eq (eqB ?_) rfl | refine VR.eq (eqS ?_) rfl | refine VR.rs rfl rfl rfl ?_ | refine VR.dr (DR.vs (fun e => e) rfl ?_) | refine VR.dr (DR.vs (fun e => (by cases e)) rfl ?_) | refine VR.dr (DR.vs (fun e => e) ?_ ?_) | refine VR.dr (DR.vs (fun e => (by cases e)) ?_ ?_)))))
      · obtain ⟨i, rfl, rfl, h1, hm⟩ := hI
        have hp := pre_size hsz hk i h1
        have ht := wtM_take ks i
        have e1 : IntKind.i64.wrap ((i : Int) + 1) = ((i + 1 : Nat) : Int) := wN (by have := len_wt ks; omega)
        have hmem : i < ks.length → Wf (ks.getD i z44) ∧ wt (ks.getD i z44) ≤ N := fun h => ⟨by rw [List.getD_eq_getElem?_getD, List.getElem?_eq_getElem h]; exact hk _ (List.getElem_mem _), by have := wt_kid h; omega⟩
        (repeat' (first | refine Chk.mk ?_ ?_ | (refine Br.id ?_; first | refine Br.kt (by with_reducible first | rfl | assumption) ?_ | refine Br.kf (by with_reducible first | rfl | assumption) ?_ | refine Br.kf (show (!true) = false from rfl) ?_ | refine Br.kt (show (!false) = true from rfl) ?_ | refine Br.mk (fun h => ?_) (fun h => ?_)) | (refine (show (noInt _ _ _ && edgesOk _ _) = true from ?_); kernel_rfl)))
        · rw [sz2]; omega
        · (try simp only [decide_eq_true_eq, decide_eq_false_iff_not, beq_iff_eq, beq_eq_false_iff_ne, bne_iff_ne, ne_eq, Nat.zero_add, Nat.add_zero, Int.not_lt, Int.not_le, Bool.not_eq_true', Bool.not_eq_false', ge_iff_le, gt_iff_lt] at *); omega
        · have hlt : i < ks.length := by have h := of_decide_eq_true ‹decide ((i : Int) < _) = true›; exact Int.ofNat_lt.1 h
          have hi0 : 0 < i := by (try simp only [decide_eq_true_eq, decide_eq_false_iff_not, beq_iff_eq, beq_eq_false_iff_ne, bne_iff_ne, ne_eq, Nat.zero_add, Nat.add_zero, Int.not_lt, Int.not_le, Bool.not_eq_true', Bool.not_eq_false', ge_iff_le, gt_iff_lt] at *); omega
          have hu := pre_up s ks hi0
          have hz := inT_size (k := 1) (hmem hlt).1
          refine Exists.intro (ks.getD i z44) (Chk.mk ⟨rfl, (hmem hlt).2, (hmem hlt).1⟩ ?_)
          (repeat' (first | refine Chk.mk ?_ ?_ | (refine Br.id ?_; first | refine Br.kt (by with_reducible first | rfl | assumption) ?_ | refine Br.kf (by with_reducible first | rfl | assumption) ?_ | refine Br.kf (show (!true) = false from rfl) ?_ | refine Br.kt (show (!false) = true from rfl) ?_ | refine Br.mk (fun h => ?_) (fun h => ?_)) | (refine (show (noInt _ _ _ && edgesOk _ _) = true from ?_); kernel_rfl)))
          · simp only [ByteArray.size_append, sz2]; omega
          · refine goes ⟨i + 1, rfl, rfl, by omega, rfl⟩ (by omega) ?_
            (refine Weak.of id ?_ ?_ (fun _ _ _ _ e => e) ?_ <;> first | exact lw_of rfl | (repeat' (first | exact True.intro | refine And.intro (Exists.intro _ (And.intro rfl ?_)) ?_ | exact ORel.dead | refine ORel.cells ?_ | exact ORel.row rfl (fun _ _ _ _ => DR.refl _) | refine ORel.row rfl ?_ | refine ORel.row ?_ ?_ | (first | exact VR.eq rfl rfl | exact VR.pc rfl rfl | exact VR.pr rfl rfl | exact VR.mp rfl rfl | exact VR.rs rfl rfl rfl rfl | exact VR.nilv | exact VR.nilrs rfl | exact VR.nil | refine VR.agg ?_ | refine VR.tup ?_ | refine VR.cons ?_ ?_ | refine VR.eq (eqI ?_) rfl | refine VR.eq (eqB ?_) rfl | refine VR.eq (eqS ?_) rfl | refine VR.rs rfl rfl rfl ?_ | refine VR.dr (DR.vs (fun e => e) rfl ?_) | refine VR.dr (DR.vs (fun e => (by cases e)) rfl ?_) | refine VR.dr (DR.vs (fun e => e) ?_ ?_) | refine VR.dr (DR.vs (fun e => (by cases e)) ?_ ?_)))))
            · exact hu.symm
            · exact e1
        · (try simp only [decide_eq_true_eq, decide_eq_false_iff_not, beq_iff_eq, beq_eq_false_iff_ne, bne_iff_ne, ne_eq, Nat.zero_add, Nat.add_zero, Int.not_lt, Int.not_le, Bool.not_eq_true', Bool.not_eq_false', ge_iff_le, gt_iff_lt] at *); omega
        · have hlt : i < ks.length := by have h := of_decide_eq_true ‹decide ((i : Int) < _) = true›; exact Int.ofNat_lt.1 h
          obtain rfl : i = 0 := by (try simp only [decide_eq_true_eq, decide_eq_false_iff_not, beq_iff_eq, beq_eq_false_iff_ne, bne_iff_ne, ne_eq, Nat.zero_add, Nat.add_zero, Int.not_lt, Int.not_le, Bool.not_eq_true', Bool.not_eq_false', ge_iff_le, gt_iff_lt] at *); omega
          have hz := inT_size (k := 1) (hmem hlt).1
          refine Exists.intro (ks.getD 0 z44) (Chk.mk ⟨rfl, (hmem hlt).2, (hmem hlt).1⟩ ?_)
          (repeat' (first | refine Chk.mk ?_ ?_ | (refine Br.id ?_; first | refine Br.kt (by with_reducible first | rfl | assumption) ?_ | refine Br.kf (by with_reducible first | rfl | assumption) ?_ | refine Br.kf (show (!true) = false from rfl) ?_ | refine Br.kt (show (!false) = true from rfl) ?_ | refine Br.mk (fun h => ?_) (fun h => ?_)) | (refine (show (noInt _ _ _ && edgesOk _ _) = true from ?_); kernel_rfl)))
          · omega
          · refine goes ⟨1, rfl, rfl, by omega, rfl⟩ (by omega) ?_
            (refine Weak.of id ?_ ?_ (fun _ _ _ _ e => e) ?_ <;> first | exact lw_of rfl | (repeat' (first | exact True.intro | refine And.intro (Exists.intro _ (And.intro rfl ?_)) ?_ | exact ORel.dead | refine ORel.cells ?_ | exact ORel.row rfl (fun _ _ _ _ => DR.refl _) | refine ORel.row rfl ?_ | refine ORel.row ?_ ?_ | (first | exact VR.eq rfl rfl | exact VR.pc rfl rfl | exact VR.pr rfl rfl | exact VR.mp rfl rfl | exact VR.rs rfl rfl rfl rfl | exact VR.nilv | exact VR.nilrs rfl | exact VR.nil | refine VR.agg ?_ | refine VR.tup ?_ | refine VR.cons ?_ ?_ | refine VR.eq (eqI ?_) rfl | refine VR.eq (eqB ?_) rfl | refine VR.eq (eqS ?_) rfl | refine VR.rs rfl rfl rfl ?_ | refine VR.dr (DR.vs (fun e => e) rfl ?_) | refine VR.dr (DR.vs (fun e => (by cases e)) rfl ?_) | refine VR.dr (DR.vs (fun e => e) ?_ ?_) | refine VR.dr (DR.vs (fun e => (by cases e)) ?_ ?_)))))
            all_goals first | exact (pre_one s ks).symm | exact e1
        · rw [sz1]; omega
        · refine eqS ?_
          obtain rfl : i = ks.length := by (try simp only [decide_eq_true_eq, decide_eq_false_iff_not, beq_iff_eq, beq_eq_false_iff_ne, bne_iff_ne, ne_eq, Nat.zero_add, Nat.add_zero, Int.not_lt, Int.not_le, Bool.not_eq_true', Bool.not_eq_false', ge_iff_le, gt_iff_lt] at *); omega
          rw [showT, pre_join s ks _ (Nat.le_refl _)]
          show _ = ((s ++ (⟨#[40]⟩ : ByteArray)) ++ joinB ((List.range (showM ks).length).map fun i => kidAt (showM ks) i 1) (⟨#[44, 32]⟩ : ByteArray)) ++ (⟨#[41]⟩ : ByteArray)
          rw [showM_map, List.length_map]
theorem sShow_ok' (N : Nat) (hN : N + 1 ≤ 1000000) (hS : SummOk Tryd.prog 64 (sIn N)) : SummOk Tryd.prog 30 (sShow (N + 1)) := SummOk.pure ⟨_, Tryd.func30, rfl, rfl⟩ fun args fr sl hp Φ h => by
  unfold sShow at h
  split at h
  · obtain ⟨x, ⟨rfl, hw, hf⟩, h⟩ := h
    exact ⟨_, h, rfl, rfl, show_v N hN hS x hw hf⟩
  · exact h.elim
theorem sIn_ok' (N : Nat) (hN : N ≤ 1000000) (hS : SummOk Tryd.prog 30 (sShow N)) : SummOk Tryd.prog 64 (sIn N) := SummOk.pure ⟨_, Tryd.func64, rfl, rfl⟩ fun args fr sl hp Φ h => by
  unfold sIn at h
  split at h
  · obtain ⟨x, ⟨rfl, hw, hf⟩, h⟩ := h
    exact ⟨_, h, rfl, rfl, in_v N hN hS x _ hw hf⟩
  · exact h.elim
theorem sShow_ok : ∀ N, N ≤ 1000000 → SummOk Tryd.prog 30 (sShow N)
  | 0, _ => SummOk.pure ⟨_, Tryd.func30, rfl, rfl⟩ fun args fr sl hp Φ h => by
    unfold sShow at h
    split at h
    · obtain ⟨x, ⟨_, hw, _⟩, _⟩ := h
      rw [wt_is] at hw; omega
    · exact h.elim
  | N + 1, hN => sShow_ok' N hN (sIn_ok' N (by omega) (sShow_ok N (by omega)))
end Go.Proofs.YtfgfoofojofnmaaDoor.V
namespace Go.VM
open Go.RowKit
/-- A row that is answered within a struct, as a value. -/
theorem LSpec.freeze {P : Program} {f : Nat} {args : List AV} {pre post : List AV} {r len k : Nat} {c : Nat → Nat → D} {d : D} {n : Nat} (hlen : len ≤ n) (hd : DR (.vs false len k c) d) (hp : AV.pures pre = true) (hq : AV.pures post = true)
    (h : LSpec P f args [] fun v hp => v = .agg (pre ++ .rs r 0 len :: post) ∧ get hp r = some (.row n k c)) : LSpec P f args [] fun v _ => v = .agg (pre ++ .d d :: post) := by
  intro w I μ vals H hr
  refine (h w I μ vals H hr).mono ?_
  rintro e w' ⟨u, v, hp', μ', I', rfl, ⟨rfl, hg⟩, S, hv⟩
  rw [AV.rep] at hv
  obtain ⟨a, rfl, hv⟩ := hv
  have split : ∀ {pre : List AV} {vs : List Value}, AV.reps μ' w' I' hp' (pre ++ .rs r 0 len :: post) vs → ∃ v1 x v2, vs = v1 ++ x :: v2 ∧ AV.reps μ' w' I' hp' pre v1 ∧ (AV.rs r 0 len).rep μ' w' I' hp' x ∧ AV.reps μ' w' I' hp' post v2 := by
    intro pre
    induction pre with
    | nil => intro vs h; cases vs with
      | nil => exact h.elim
      | cons x vs => exact ⟨[], x, vs, rfl, trivial, h.1, h.2⟩
    | cons y pre ih => intro vs h; cases vs with
      | nil => exact h.elim
      | cons x vs =>
        obtain ⟨v1, z, v2, e, h1, h2, h3⟩ := ih h.2
        exact ⟨x :: v1, z, v2, by rw [e]; rfl, ⟨h.1, h1⟩, h2, h3⟩
  obtain ⟨v1, x, v2, ev, h1, hx, h2⟩ := split hv
  rw [AV.rep] at hx
  obtain ⟨A, cap, rfl, hc, o, ho, hx⟩ := hx
  rw [hg] at ho
  injection ho with ho
  obtain ⟨_, hx⟩ := hx n k c ho.symm
  have hrow := S.objs r _ hg
  have hl : live hp' r := ⟨_, hg, fun e => by cases e⟩
  have wide : ∀ {J : Nat → Prop}, (∀ b, I' b → J b) → ∀ {d : D} {v : Value}, d.rep w' I' v → d.rep w' J v := fun {J} hJ {d v} h => D.rep_mono (fun _ _ => rfl) hJ d v h
  have app : ∀ {J : Nat → Prop} {l1 l2 : List AV} {v1 v2 : List Value}, AV.reps (fun _ => none) w' J [] l1 v1 → AV.reps (fun _ => none) w' J [] l2 v2 → AV.reps (fun _ => none) w' J [] (l1 ++ l2) (v1 ++ v2) := fun h h' => reps_app h h'
  have pw : ∀ {J : Nat → Prop} {l : List AV} {v : List Value}, AV.pures l = true → (∀ b, I' b → J b) → AV.reps μ' w' I' hp' l v → AV.reps (fun _ => none) w' J [] l v := fun {J l v} hl hJ h => by
    have h := reps_pure (μ' := fun _ => none) (hp' := []) l v hl h
    exact AV.reps_mono (I := I') (I' := J) (.refl _ _) (fun _ _ => rfl) hJ l v h
  rcases hx with ⟨hm, h0⟩ | ⟨b, z, hm, hA, hz⟩
  · subst h0
    have l0 : len = 0 := by omega
    refine ⟨_, _, [], fun _ => none, I', rfl, rfl, ⟨fun r o e => (by cases e), fun r r' b z z' h => (by obtain ⟨o, e, _⟩ := h; cases e), fun r b z h => (by obtain ⟨o, e, _⟩ := h; cases e), fun b hb => ?_, S.base, fun r m e => (by simp [ctx0, pinOf, get] at e), S.keep⟩, ?_⟩
    · rcases S.imm b hb with ⟨h, h'⟩; exact ⟨h, h'⟩
    · rw [AV.rep]
      refine ⟨a, rfl, ?_⟩
      rw [ev]
      refine app (pw hp (fun _ h => h) h1) ⟨?_, pw hq (fun _ h => h) h2⟩
      rw [AV.rep]
      exact hd.rep ⟨A, 0, rfl, hc, (fun e => by cases e), fun h => by omega⟩
  · have hown := S.own r b z hl hm
    refine ⟨_, _, [], fun _ => none, fun q => I' q ∨ q = b, rfl, rfl, ⟨fun r o e => (by cases e), fun r r' b z z' h => (by obtain ⟨o, e, _⟩ := h; cases e), fun r b z h => (by obtain ⟨o, e, _⟩ := h; cases e), fun q hq => ?_, S.base, fun r m e => (by simp [ctx0, pinOf, get] at e), fun q hq => .inl (S.keep q hq)⟩, ?_⟩
    · rcases hq with hq | rfl
      · exact S.imm q hq
      · exact ⟨hown.2.1, .inr hown.2.2⟩
    · rw [AV.rep]
      refine ⟨a, rfl, ?_⟩
      rw [ev]
      refine app (pw hp (fun _ h => .inl h) h1) ⟨?_, pw hq (fun _ h => .inl h) h2⟩
      rw [AV.rep]
      refine hd.rep ⟨A, cap, rfl, hc, (fun e => by cases e), fun hn => ?_⟩
      rcases hrow with ⟨e, _⟩ | ⟨b1, z1, vs, t, fz, e, hh, _, hsz, hnk, hcell⟩
      · rw [hm] at e; cases e
      · rw [hm] at e; injection e with e; injection e with e1 e2; subst e1; subst e2
        refine ⟨b, 0, by rw [hA (by omega), Nat.zero_mul], .inr rfl, fun i j hi hj => ?_⟩
        obtain ⟨u, hu, h1, hr⟩ := hcell i j (by omega) hj
        refine ⟨u, ?_, h1, wide (fun _ h => .inl h) hr⟩
        rw [Nat.zero_add]
        simp [World.cell?, hh, hu]
end Go.VM
namespace Go.Proofs.YtfgfoofojofnmaaDoor.V
open Go.VM
open Go.RowKit
open Go.Proofs.YtfgfoofojofnmaaDoor.Q Go.Proofs.YtfgfoofojofnmaaDoor.Hand
def sSame (N : Nat) : Summ := fun args _ => match args with
  | [.agg cs, .agg cs', .d (.a (.bool true))] => .ex fun x : S44 => .chk (cs = cellsN x ∧ cs' = cellsN x ∧ wt x ≤ N) (.pure ⟨av (.bool true), [], []⟩)
  | _ => .fail 1015
theorem cells_RR (x : S44) : ∀ (μ : Mu) (w : World) (I : Nat → Prop) (vals : List Value), AV.reps μ w I [] [.agg (cellsN x), .agg (cellsN x), av (.bool true)] vals → AV.reps μ w I [] [.agg (cellsR x), .agg (cellsR x), av (.bool true)] vals := fun μ w I vals h => by
  match vals, h with
  | [v1, v2, v3], h =>
    have h1 := cells_R x μ w I [v1] ⟨h.1, trivial⟩
    have h2 := cells_R x μ w I [v2] ⟨h.2.1, trivial⟩
    exact ⟨h1.1, h2.1, h.2.2⟩
  | _ :: _ :: _ :: _ :: _, h => exact h.2.2.2.elim
set_option maxRecDepth 100000 in
theorem same_v (N : Nat) (hN : N + 1 ≤ 1000000) (hS : SummOk Tryd.prog 28 (sSame N)) (x : S44) (hx : wt x ≤ N + 1) : VSpec Tryd.prog 28 [.agg (cellsN x), .agg (cellsN x), av (.bool true)] (av (.bool true)) := by
  refine LSpec.weaken (cells_RR x) (LSpec.intro (E := ⟨tt, [(28, sSame N)], [], Tryd.f28.ntmps⟩) tt_ok (fnsOk_cons hS fnsOk_nil) mixed Tryd.func28 rfl rfl ?_)
  have hw := wt_is x
  have hln := len_wt x.f4
  have b0 : (x.f0 != x.f0) = false := bne_self_eq_false _
  have b1 : (!(x.f1.toList == x.f1.toList)) = false := by simp
  have b2 : (x.f2 != x.f2) = false := bne_self_eq_false _
  have b3 : (x.f3 != x.f3) = false := bne_self_eq_false _
  have b4 : (x.f5 != x.f5) = false := bne_self_eq_false _
  have b5 : ((x.f4.length : Int) != (x.f4.length : Int)) = false := bne_self_eq_false _
  (repeat' (first | refine Chk.mk ?_ ?_ | (refine Br.id ?_; first | refine Br.kt (by with_reducible first | rfl | assumption) ?_ | refine Br.kf (by with_reducible first | rfl | assumption) ?_ | refine Br.kf (show (!true) = false from rfl) ?_ | refine Br.kt (show (!false) = true from rfl) ?_ | refine Br.mk (fun h => ?_) (fun h => ?_)) | (refine (show (noInt _ _ _ && edgesOk _ _) = true from ?_); kernel_rfl)))
  refine Exists.intro (fun (m : Nat) (s : Slots) (h : Heap) => ∃ i : Nat, s = [(3, AV.pc 3 0), (4, .pc 4 0), (2, av (.bool true)), (7, av (.int .i64 i))] ∧ h = [(3, AO.cells (cellsR x)), (4, .cells (cellsR x))] ∧ i ≤ x.f4.length ∧ m = x.f4.length - i) ?_
  refine And.intro ?_ (fun m s h hI => ?_)
  · refine ⟨_, _, _, ?_, 0, rfl, rfl, Nat.zero_le _, rfl⟩
    (refine Weak.of id ?_ ?_ (fun _ _ _ _ e => e) ?_ <;> first | exact lw_of rfl | (repeat' (first | exact True.intro | refine And.intro (Exists.intro _ (And.intro rfl ?_)) ?_ | exact ORel.dead | refine ORel.cells ?_ | exact ORel.row rfl (fun _ _ _ _ => DR.refl _) | refine ORel.row rfl ?_ | refine ORel.row ?_ ?_ | (first | exact VR.eq rfl rfl | exact VR.pc rfl rfl | exact VR.pr rfl rfl | exact VR.mp rfl rfl | exact VR.rs rfl rfl rfl rfl | exact VR.nilv | exact VR.nilrs rfl | exact VR.nil | refine VR.agg ?_ | refine VR.tup ?_ | refine VR.cons ?_ ?_ | refine VR.eq (eqI ?_) rfl | refine VR.eq (eqB ?_) rfl | refine VR.eq (eqS ?_) rfl | refine VR.rs rfl rfl rfl ?_ | refine VR.dr (DR.vs (fun e => e) rfl ?_) | refine VR.dr (DR.vs (fun e => (by cases e)) rfl ?_) | refine VR.dr (DR.vs (fun e => e) ?_ ?_) | refine VR.dr (DR.vs (fun e => (by cases e)) ?_ ?_)))))
  · obtain ⟨i, rfl, rfl, h1, hm⟩ := hI
    have hk : i < x.f4.length → wt (x.f4.getD i z44) ≤ N := fun hi => by have := wt_kid hi; omega
    (repeat' (first | refine Chk.mk ?_ ?_ | (refine Br.id ?_; first | refine Br.kt (by with_reducible first | rfl | assumption) ?_ | refine Br.kf (by with_reducible first | rfl | assumption) ?_ | refine Br.kf (show (!true) = false from rfl) ?_ | refine Br.kt (show (!false) = true from rfl) ?_ | refine Br.mk (fun h => ?_) (fun h => ?_)) | (refine (show (noInt _ _ _ && edgesOk _ _) = true from ?_); kernel_rfl)))
    · (try simp only [decide_eq_true_eq, decide_eq_false_iff_not, beq_iff_eq, beq_eq_false_iff_ne, bne_iff_ne, ne_eq, Nat.zero_add, Nat.add_zero, Int.not_lt, Int.not_le, Bool.not_eq_true', Bool.not_eq_false', ge_iff_le, gt_iff_lt] at *); omega
    · (try simp only [decide_eq_true_eq, decide_eq_false_iff_not, beq_iff_eq, beq_eq_false_iff_ne, bne_iff_ne, ne_eq, Nat.zero_add, Nat.add_zero, Int.not_lt, Int.not_le, Bool.not_eq_true', Bool.not_eq_false', ge_iff_le, gt_iff_lt] at *); omega
    · refine Exists.intro (x.f4.getD i z44) (Chk.mk ⟨rfl, rfl, hk (by (try simp only [decide_eq_true_eq, decide_eq_false_iff_not, beq_iff_eq, beq_eq_false_iff_ne, bne_iff_ne, ne_eq, Nat.zero_add, Nat.add_zero, Int.not_lt, Int.not_le, Bool.not_eq_true', Bool.not_eq_false', ge_iff_le, gt_iff_lt] at *); omega)⟩ ?_)
      (repeat' (first | refine Chk.mk ?_ ?_ | (refine Br.id ?_; first | refine Br.kt (by with_reducible first | rfl | assumption) ?_ | refine Br.kf (by with_reducible first | rfl | assumption) ?_ | refine Br.kf (show (!true) = false from rfl) ?_ | refine Br.kt (show (!false) = true from rfl) ?_ | refine Br.mk (fun h => ?_) (fun h => ?_)) | (refine (show (noInt _ _ _ && edgesOk _ _) = true from ?_); kernel_rfl)))
      refine goes ⟨i + 1, rfl, rfl, ?_, rfl⟩ ?_ ?_
      · (try simp only [decide_eq_true_eq, decide_eq_false_iff_not, beq_iff_eq, beq_eq_false_iff_ne, bne_iff_ne, ne_eq, Nat.zero_add, Nat.add_zero, Int.not_lt, Int.not_le, Bool.not_eq_true', Bool.not_eq_false', ge_iff_le, gt_iff_lt] at *); omega
      · (try simp only [decide_eq_true_eq, decide_eq_false_iff_not, beq_iff_eq, beq_eq_false_iff_ne, bne_iff_ne, ne_eq, Nat.zero_add, Nat.add_zero, Int.not_lt, Int.not_le, Bool.not_eq_true', Bool.not_eq_false', ge_iff_le, gt_iff_lt] at *); omega
      · (refine Weak.of id ?_ ?_ (fun _ _ _ _ e => e) ?_ <;> first | exact lw_of rfl | (repeat' (first | exact True.intro | refine And.intro (Exists.intro _ (And.intro rfl ?_)) ?_ | exact ORel.dead | refine ORel.cells ?_ | exact ORel.row rfl (fun _ _ _ _ => DR.refl _) | refine ORel.row rfl ?_ | refine ORel.row ?_ ?_ | (first | exact VR.eq rfl rfl | exact VR.pc rfl rfl | exact VR.pr rfl rfl | exact VR.mp rfl rfl | exact VR.rs rfl rfl rfl rfl | exact VR.nilv | exact VR.nilrs rfl | exact VR.nil | refine VR.agg ?_ | refine VR.tup ?_ | refine VR.cons ?_ ?_ | refine VR.eq (eqI ?_) rfl | refine VR.eq (eqB ?_) rfl | refine VR.eq (eqS ?_) rfl | refine VR.rs rfl rfl rfl ?_ | refine VR.dr (DR.vs (fun e => e) rfl ?_) | refine VR.dr (DR.vs (fun e => (by cases e)) rfl ?_) | refine VR.dr (DR.vs (fun e => e) ?_ ?_) | refine VR.dr (DR.vs (fun e => (by cases e)) ?_ ?_)))))
        exact wN (by omega)
    · rfl
theorem sSame_ok : ∀ N, N ≤ 1000000 → SummOk Tryd.prog 28 (sSame N)
  | 0, _ => SummOk.pure ⟨_, Tryd.func28, rfl, rfl⟩ fun args fr sl hp Φ h => by
    unfold sSame at h
    split at h
    · obtain ⟨x, ⟨_, _, hw⟩, _⟩ := h
      rw [wt_is] at hw; omega
    · exact h.elim
  | N + 1, hN => SummOk.pure ⟨_, Tryd.func28, rfl, rfl⟩ fun args fr sl hp Φ h => by
    unfold sSame at h
    split at h
    · obtain ⟨x, ⟨rfl, rfl, hw⟩, h⟩ := h
      exact ⟨_, h, rfl, rfl, same_v N hN (sSame_ok N (by omega)) x hw⟩
    · exact h.elim
def sNode (N : Nat) : Summ := fun args _ => match args with
  | [.agg cs] => .ex fun x : S44 => .chk (cs = cellsN x ∧ wt x ≤ N) (.pure ⟨.agg (cellsN x), [], []⟩)
  | _ => .fail 1016
theorem take_snoc {l : List S44} {i : Nat} (h : i < l.length) : l.take (i + 1) = l.take i ++ [l.getD i z44] := by
  rw [List.take_add_one, List.getElem?_eq_getElem h, List.getD_eq_getElem?_getD, List.getElem?_eq_getElem h]; rfl
set_option maxRecDepth 100000 in
theorem node_v (N : Nat) (hN : N + 1 ≤ 1000000) (hS : SummOk Tryd.prog 25 (sNode N)) (x : S44) (hx : wt x ≤ N + 1) : LSpec Tryd.prog 25 [.agg (cellsN x)] [] fun v hp => v = .agg ([av (.int .i64 x.f0), av (.string x.f1), av (.int .i64 x.f2), av (.int .u64 x.f3)] ++ .rs 1001 0 x.f4.length :: [av (.int .i64 x.f5)]) ∧ get hp 1001 = some (.row x.f4.length 6 (rowC encN z44 x.f4)) := by
  refine LSpec.weaken (cells_R x) (LSpec.intro (E := ⟨tt, [(25, sNode N)], [31], Tryd.f25.ntmps⟩) tt_ok (fnsOk_cons hS fnsOk_nil) mixed Tryd.func25 rfl rfl ?_)
  have hw := wt_is x
  have hln := len_wt x.f4
  refine Exists.intro (fun (m : Nat) (s : Slots) (h : Heap) => ∃ i : Nat, s = [(1, AV.pc 1 0), (2, .pc 2 0), (3, .pc 3 0), (4, av (.int .i64 i))] ∧ h = [(1, AO.cells (cellsR x)), (2, .cells cells0), (3, .cells [av (.int .i64 x.f0), av (.string x.f1), av (.int .i64 x.f2), av (.int .u64 x.f3), .rs 1001 0 i, av (.int .i64 x.f5)]), (1001, .row i 6 (rowC encN z44 (x.f4.take i)))] ∧ i ≤ x.f4.length ∧ m = x.f4.length - i) ?_
  refine And.intro ?_ (fun m s h hI => ?_)
  · refine ⟨_, _, _, Weak.trans (Weak.row (r := 1001) (k := 6) (rowC encN z44 (x.f4.take 0)) rfl) ?_, 0, rfl, rfl, Nat.zero_le _, rfl⟩
    (refine Weak.of id ?_ ?_ (fun _ _ _ _ e => e) ?_ <;> first | exact lw_of rfl | (repeat' (first | exact True.intro | refine And.intro (Exists.intro _ (And.intro rfl ?_)) ?_ | exact ORel.dead | refine ORel.cells ?_ | exact ORel.row rfl (fun _ _ _ _ => DR.refl _) | refine ORel.row rfl ?_ | refine ORel.row ?_ ?_ | (first | exact VR.eq rfl rfl | exact VR.pc rfl rfl | exact VR.pr rfl rfl | exact VR.mp rfl rfl | exact VR.rs rfl rfl rfl rfl | exact VR.nilv | exact VR.nilrs rfl | exact VR.nil | refine VR.agg ?_ | refine VR.tup ?_ | refine VR.cons ?_ ?_ | refine VR.eq (eqI ?_) rfl | refine VR.eq (eqB ?_) rfl | refine VR.eq (eqS ?_) rfl | refine VR.rs rfl rfl rfl ?_ | refine VR.dr (DR.vs (fun e => e) rfl ?_) | refine VR.dr (DR.vs (fun e => (by cases e)) rfl ?_) | refine VR.dr (DR.vs (fun e => e) ?_ ?_) | refine VR.dr (DR.vs (fun e => (by cases e)) ?_ ?_)))))
  · obtain ⟨i, rfl, rfl, h1, hm⟩ := hI
    have hk : i < x.f4.length → wt (x.f4.getD i z44) ≤ N := fun hi => by have := wt_kid hi; omega
    (repeat' (first | refine Chk.mk ?_ ?_ | (refine Br.id ?_; first | refine Br.kt (by with_reducible first | rfl | assumption) ?_ | refine Br.kf (by with_reducible first | rfl | assumption) ?_ | refine Br.kf (show (!true) = false from rfl) ?_ | refine Br.kt (show (!false) = true from rfl) ?_ | refine Br.mk (fun h => ?_) (fun h => ?_)) | (refine (show (noInt _ _ _ && edgesOk _ _) = true from ?_); kernel_rfl)))
    · (try simp only [decide_eq_true_eq, decide_eq_false_iff_not, beq_iff_eq, beq_eq_false_iff_ne, bne_iff_ne, ne_eq, Nat.zero_add, Nat.add_zero, Int.not_lt, Int.not_le, Bool.not_eq_true', Bool.not_eq_false', ge_iff_le, gt_iff_lt] at *); omega
    · have hlt : i < x.f4.length := by have h := of_decide_eq_true ‹decide ((i : Int) < _) = true›; exact Int.ofNat_lt.1 h
      refine Exists.intro (x.f4.getD i z44) (Chk.mk ⟨rfl, hk hlt⟩ ?_)
      (repeat' (first | refine Chk.mk ?_ ?_ | (refine Br.id ?_; first | refine Br.kt (by with_reducible first | rfl | assumption) ?_ | refine Br.kf (by with_reducible first | rfl | assumption) ?_ | refine Br.kf (show (!true) = false from rfl) ?_ | refine Br.kt (show (!false) = true from rfl) ?_ | refine Br.mk (fun h => ?_) (fun h => ?_)) | (refine (show (noInt _ _ _ && edgesOk _ _) = true from ?_); kernel_rfl)))
      · dsimp only; omega
      · refine goes ⟨i + 1, rfl, rfl, by omega, rfl⟩ (by omega) ?_
        (refine Weak.of (sub 1001 32) ?_ ?_ (sub_inj rfl) ?_ <;> first | exact (fun _ h => absurd h List.not_mem_nil) | (repeat' (first | exact True.intro | refine And.intro (Exists.intro _ (And.intro rfl ?_)) ?_ | exact ORel.dead | refine ORel.cells ?_ | exact ORel.row rfl (fun _ _ _ _ => DR.refl _) | refine ORel.row rfl ?_ | refine ORel.row ?_ ?_ | (first | exact VR.eq rfl rfl | exact VR.pc rfl rfl | exact VR.pr rfl rfl | exact VR.mp rfl rfl | exact VR.rs rfl rfl rfl rfl | exact VR.nilv | exact VR.nilrs rfl | exact VR.nil | refine VR.agg ?_ | refine VR.tup ?_ | refine VR.cons ?_ ?_ | refine VR.eq (eqI ?_) rfl | refine VR.eq (eqB ?_) rfl | refine VR.eq (eqS ?_) rfl | refine VR.rs rfl rfl rfl ?_ | refine VR.dr (DR.vs (fun e => e) rfl ?_) | refine VR.dr (DR.vs (fun e => (by cases e)) rfl ?_) | refine VR.dr (DR.vs (fun e => e) ?_ ?_) | refine VR.dr (DR.vs (fun e => (by cases e)) ?_ ?_)))))
        · exact wN (by omega)
        · intro a b ha hb
          rw [take_snoc hlt]
          refine dr_push (by rw [List.length_take]; omega) (fun _ _ _ => rfl) ?_ ha hb
          exact six (DR.refl _) (DR.refl _) (DR.refl _) (DR.refl _) (DR.refl _) (DR.refl _)
    · obtain rfl : i = x.f4.length := by (try simp only [decide_eq_true_eq, decide_eq_false_iff_not, beq_iff_eq, beq_eq_false_iff_ne, bne_iff_ne, ne_eq, Nat.zero_add, Nat.add_zero, Int.not_lt, Int.not_le, Bool.not_eq_true', Bool.not_eq_false', ge_iff_le, gt_iff_lt] at *); omega
      refine And.intro rfl ?_
      show get _ 1001 = some (AO.row x.f4.length 6 (rowC encN z44 x.f4))
      rw [List.take_length]; rfl
theorem sNode_ok : ∀ N, N ≤ 1000000 → SummOk Tryd.prog 25 (sNode N)
  | 0, _ => SummOk.pure ⟨_, Tryd.func25, rfl, rfl⟩ fun args fr sl hp Φ h => by
    unfold sNode at h
    split at h
    · obtain ⟨x, ⟨_, hw⟩, _⟩ := h
      rw [wt_is] at hw; omega
    · exact h.elim
  | N + 1, hN => SummOk.pure ⟨_, Tryd.func25, rfl, rfl⟩ fun args fr sl hp Φ h => by
    unfold sNode at h
    split at h
    · obtain ⟨x, ⟨rfl, hw⟩, h⟩ := h
      exact ⟨_, h, rfl, rfl, LSpec.freeze (Nat.le_refl _) (DR.vs (fun e => e) rfl fun i j hi _ => row_N' hi) rfl rfl (node_v N hN (sNode_ok N (by omega)) x hw)⟩
    · exact h.elim
end Go.Proofs.YtfgfoofojofnmaaDoor.V
namespace Go.Proofs.YtfgfoofojofnmaaDoor.V
open Go.VM
open Go.RowKit Go.Proofs.YtfgfoofojofnmaaDoorW.PrintWords
open Go.Proofs.YtfgfoofojofnmaaDoor.Q Go.Proofs.YtfgfoofojofnmaaDoor.Hand
theorem node25_any (x : S44) (hw : wt x ≤ 1000000) (A : Option Addr) (c : Nat) (hl : x.f4.length ≤ c) (w : World) (hC : Kd.C k44 w A x.f4.length x.f4) : Calls Tryd.prog 25 #[nodeV x A c] w fun e w' => ∃ A' c', e = .returned (nodeV x A' c') ∧ KR w' A' c' x ∧ Below w.heap.size w w' := by
  have hk : KR w A c x := D_of_C w _ x.f4 A c (Nat.le_refl _) hC hl
  refine (calls_of w (LSpec.freeze (Nat.le_refl _) (DR.vs (fun e => e) rfl fun i j hi _ => row_N' hi) rfl rfl (node_v 999999 (by decide) (sNode_ok 999999 (by decide)) x hw)) (vals := [nodeV x A c]) ⟨nodeV_rep hk, trivial⟩).mono ?_
  rintro e w' ⟨u, v, hp, I', μ', rfl, rfl, hv, hI, hB⟩
  obtain ⟨A', c', rfl, hK⟩ := nodeV_of hI (.refl _) hv
  exact ⟨A', c', rfl, hK, hB⟩
theorem same28_any (x : S44) (hw : wt x ≤ 1000000) (A A' : Option Addr) (c c' : Nat) (w : World) (h : KR w A c x) (h' : KR w A' c' x) : Calls Tryd.prog 28 #[nodeV x A c, nodeV x A' c', .bool true] w fun e w' => e = .returned (.bool true) ∧ Below w.heap.size w w' := by
  refine (calls_of w (same_v 999999 (by decide) (sSame_ok 999999 (by decide)) x hw) (vals := [nodeV x A c, nodeV x A' c', .bool true]) ⟨nodeV_rep h, nodeV_rep h', by rw [AV.rep]; rfl, trivial⟩).mono ?_
  rintro e w' ⟨u, v, hp, I', μ', rfl, rfl, hv, hI, hB⟩
  rw [AV.rep] at hv
  exact ⟨congrArg _ (show u = _ from hv), hB⟩
theorem show30_any {x : S44} (hf : Wf x) (hw : wt x ≤ 1000000) (A : Option Addr) (c : Nat) (w : World) (h : KR w A c x) : Calls Tryd.prog 30 #[nodeV x A c] w fun e w' => e = .returned (.string (showT x)) ∧ Below w.heap.size w w' := by
  refine (calls_of w (show_v 999999 (by decide) (sIn_ok' 999999 (by decide) (sShow_ok 999999 (by decide))) x hw hf) (vals := [nodeV x A c]) ⟨nodeV_rep h, trivial⟩).mono ?_
  rintro e w' ⟨u, v, hp, I', μ', rfl, rfl, hv, hI, hB⟩
  rw [AV.rep] at hv
  exact ⟨congrArg _ (show u = _ from hv), hB⟩
end Go.Proofs.YtfgfoofojofnmaaDoor.V
namespace Go.Proofs.YtfgfoofojofnmaaDoor.Q
open Go.RowKit Go.Proofs.YtfgfoofojofnmaaDoorW.PrintWords Go.Proofs.YtfgfoofojofnmaaDoorW.PrintLast Go.Proofs.YtfgfoofojofnmaaDoorW.PrintMore
set_option linter.unusedVariables false
set_option linter.unusedSimpArgs false
open Go.Proofs.YtfgfoofojofnmaaDoor.Hand
theorem below_undrewP {w w' : World} (h : Below w.drew.heap.size w.drew w') : Below w.heap.size w w' := below_step (below_drew1 (Below.refl _ _)) h
theorem cell_drewP {w : World} {a : Addr} {v : Value} (h : w.cell? a = some v) : w.drew.cell? a = some v := h
theorem scan_codes (n : Nat) : ∀ (l : List UInt8) (i : Nat) (out : List S39), l.length ≤ n → (scanT l i out).2.2 = 0 ∨ (scanT l i out).2.2 = 30 := by
  induction n with
  | zero =>
    intro l i out hl
    have : l = [] := List.length_eq_zero_iff.mp (by omega)
    subst this
    rw [scanT_nil]; exact .inl rfl
  | succ n ih =>
    intro l i out hl
    cases l with
    | nil => rw [scanT_nil]; exact .inl rfl
    | cons c r =>
      simp only [List.length_cons] at hl
      by_cases hb : c = 32 ∨ c = 9
      · rw [scanT_blank hb]
        exact ih r _ _ (by omega)
      · by_cases h0 : nOf (oneT c r) = 0
        · rw [scanT_bad hb h0]; exact .inr rfl
        · rw [scanT_tok hb h0]
          exact ih _ _ _ (by simp only [List.length_drop, List.length_cons]; omega)
theorem parse_codes (a : ByteArray) (h : (parseT a).2.2 ≠ 0) : (parseT a).2.2 = 4 ∨ (parseT a).2.2 = 30 ∨ (parseT a).2.2 = 31 ∨ (parseT a).2.2 = 32 := by
  unfold parseT at h ⊢
  by_cases hc : (scanS a).2.2 = 0
  · rw [if_pos hc] at h ⊢
    by_cases hb : (endS (a.size : Int) (readS a).2).bad = true
    · rw [if_pos hb]; exact .inr (.inr (.inl rfl))
    · rw [if_neg hb] at h ⊢
      by_cases hd : 24 < depthT (readS a).1
      · rw [if_pos hd]; exact .inr (.inr (.inr rfl))
      · rw [if_neg hd] at h; exact absurd rfl h
  · rw [if_neg hc]
    unfold scanS at hc ⊢
    by_cases hl : a.size ≤ 1024
    · rw [if_pos hl] at hc ⊢
      rcases scan_codes _ a.data.toList 0 [] (Nat.le_refl _) with e | e
      · exact absurd e hc
      · exact .inr (.inl e)
    · rw [if_neg hl]; exact .inl rfl
set_option maxHeartbeats 8000000 in
set_option maxRecDepth 100000 in
theorem parseReads_walk (a0 : ByteArray) (w : World) (hg : GW w) (w0 : a0.size ≤ 140737488351232) :
    Calls Tryd.prog 8 #[.string a0] w fun e w' => e = .returned (.bool true) ∧ Below w.heap.size w w' := by
  have HG := Lib.hid hg
  clear hg
  have CAW := fun W => awake26_any W
  have P9 := fun W => V.parse27_any a0 (by omega) W
  obtain ⟨⟨n, pn, en⟩, hn⟩ : ∃ N, parseT a0 = N := ⟨_, rfl⟩
  have P0 : ∀ W, Calls Tryd.prog 22 #[.string a0] W (fun e_ w_ => ∃ A c, e_ = .returned (.tuple #[.agg #[.int .i64 n.f0, .string n.f1, .int .i64 n.f2, .int .u64 n.f3, .slice A n.f4.length c, .int .i64 n.f5], .int .i64 pn, .int .i64 en]) ∧ n.f4.length ≤ c ∧ Kd.C k44 w_ A n.f4.length n.f4 ∧ Below W.heap.size W w_) := fun W => by have := prs_any a0 W; rw [hn] at this; exact this
  rw [hn] at P9
  have W1 : Hid (wt n ≤ 2049) := Lib.hid (by have := prs_few a0; rw [hn] at this; exact this)
  have WN := Lib.hid (Nat.le_trans W1.out (by decide : 2049 ≤ 1000000))
  have HOK : Hid (en = 0 → Wf n) := Lib.hid (fun e1 => by
    have f1 : (parseT a0).2.2 = 0 := by rw [hn]; exact e1
    have r1 := parse_wf a0 f1
    rw [hn] at r1
    exact r1)
  have HCO : Hid (en ≠ 0 → en = 4 ∨ en = 30 ∨ en = 31 ∨ en = 32) := Lib.hid (fun e1 => by have := parse_codes a0 (by rw [hn]; exact e1); rw [hn] at this; exact this)
  clear hn
  have q1 : (pn != pn) = false := bne_self_eq_false pn
  have q2 : (en != en) = false := bne_self_eq_false en
  go_enter Tryd.func8, Tryd.ntmps8
  go_upto_region 3 with (go_at_call 26; (with_reducible refine (CAW _).mono ?_); rintro e v0 ⟨rfl, hB⟩; have HB0 := Lib.hid hB; clear hB)
  clear CAW
  go_upto_region 4 with (go_at_call 22; (with_reducible refine (P0 _).mono ?_); rintro e v1 ⟨A1, c1, rfl, hl, hC, hB⟩; have HC1 := Lib.hid hC; have HL1 := Lib.hid hl; have HV1 := Lib.hid hB; clear hl hC hB)
  have HN1 := Lib.hid (blk_new v1 (Obj.cells #[.int .i64 n.f0, .string n.f1, .int .i64 n.f2, .int .u64 n.f3, .slice A1 n.f4.length c1, .int .i64 n.f5] 44))
  have HD1 := Lib.hid (Kd.C_below HC1.out (below_allocV v1 (Obj.cells #[.int .i64 n.f0, .string n.f1, .int .i64 n.f2, .int .u64 n.f3, .slice A1 n.f4.length c1, .int .i64 n.f5] 44)))
  have HZ1 : Hid (Below v0.heap.size v0 (v1.alloc (Obj.cells #[.int .i64 n.f0, .string n.f1, .int .i64 n.f2, .int .u64 n.f3, .slice A1 n.f4.length c1, .int .i64 n.f5] 44))) := Lib.hid (below_alloc HV1.out _)
  have KB := Lib.hid (below_step HB0.out HZ1.out)
  clear HC1 HV1 HZ1 HB0
  generalize v1.alloc (Obj.cells #[.int .i64 n.f0, .string n.f1, .int .i64 n.f2, .int .u64 n.f3, .slice A1 n.f4.length c1, .int .i64 n.f5] 44) = w4 at *
  generalize v1.heap.size = b5 at *
  clear P0
  go_upto_region 5 with (go_at_call 27; (with_reducible refine (P9 _).mono ?_); rintro e v2 ⟨A2, c2, rfl, hC, hB⟩; have HC2 := Lib.hid hC; have HV2 := Lib.hid hB; clear hC hB)
  have HN2 := Lib.hid (blk_new v2 (Obj.cells #[.int .i64 n.f0, .string n.f1, .int .i64 n.f2, .int .u64 n.f3, .slice A2 n.f4.length c2, .int .i64 n.f5] 54))
  have HD2 := Lib.hid (V.KR.below HC2.out (below_allocV v2 (Obj.cells #[.int .i64 n.f0, .string n.f1, .int .i64 n.f2, .int .u64 n.f3, .slice A2 n.f4.length c2, .int .i64 n.f5] 54)))
  have HZ2 : Hid (Below w4.heap.size w4 (v2.alloc (Obj.cells #[.int .i64 n.f0, .string n.f1, .int .i64 n.f2, .int .u64 n.f3, .slice A2 n.f4.length c2, .int .i64 n.f5] 54))) := Lib.hid (below_alloc HV2.out _)
  replace KB := Lib.hid (below_step KB.out HZ2.out)
  replace HN1 := Lib.hid (blk_belowU HZ2.out HN1.out)
  replace HD1 := Lib.hid (Kd.C_below HD1.out HZ2.out)
  clear HC2 HV2 HZ2
  generalize v2.alloc (Obj.cells #[.int .i64 n.f0, .string n.f1, .int .i64 n.f2, .int .u64 n.f3, .slice A2 n.f4.length c2, .int .i64 n.f5] 54) = w5 at *
  generalize v2.heap.size = b8 at *
  clear P9
  have tc0 : w5.cell? ⟨b5, 0, none⟩ = some (.int .i64 n.f0) := (blk_cell HN1.out 0).trans rfl; have tc1 : w5.cell? ⟨b5, 1, none⟩ = some (.string n.f1) := (blk_cell HN1.out 1).trans rfl; have tc2 : w5.cell? ⟨b5, 2, none⟩ = some (.int .i64 n.f2) := (blk_cell HN1.out 2).trans rfl; have tc3 : w5.cell? ⟨b5, 3, none⟩ = some (.int .u64 n.f3) := (blk_cell HN1.out 3).trans rfl; have tc4 : w5.cell? ⟨b5, 4, none⟩ = some (.slice A1 n.f4.length c1) := (blk_cell HN1.out 4).trans rfl; have tc5 : w5.cell? ⟨b5, 5, none⟩ = some (.int .i64 n.f5) := (blk_cell HN1.out 5).trans rfl
  have uc0 : w5.cell? ⟨b8, 0, none⟩ = some (.int .i64 n.f0) := (blk_cell HN2.out 0).trans rfl; have uc1 : w5.cell? ⟨b8, 1, none⟩ = some (.string n.f1) := (blk_cell HN2.out 1).trans rfl; have uc2 : w5.cell? ⟨b8, 2, none⟩ = some (.int .i64 n.f2) := (blk_cell HN2.out 2).trans rfl; have uc3 : w5.cell? ⟨b8, 3, none⟩ = some (.int .u64 n.f3) := (blk_cell HN2.out 3).trans rfl; have uc4 : w5.cell? ⟨b8, 4, none⟩ = some (.slice A2 n.f4.length c2) := (blk_cell HN2.out 4).trans rfl; have uc5 : w5.cell? ⟨b8, 5, none⟩ = some (.int .i64 n.f5) := (blk_cell HN2.out 5).trans rfl
  by_cases h1 : en = 0
  · have q3 : (en != 0) = false := by rw [h1]; rfl
    have hwf := HOK.out h1
    have CS : ∀ W, GW W → Kd.C k44 W A1 n.f4.length n.f4 → Calls Tryd.prog 29 #[.agg #[.int .i64 n.f0, .string n.f1, .int .i64 n.f2, .int .u64 n.f3, .slice A1 n.f4.length c1, .int .i64 n.f5]] W (fun e_ w_ => e_ = .returned (.string (showT n)) ∧ Below W.heap.size W w_) := fun W hg hC => show_any hwf (Nat.le_trans W1.out (by decide)) A1 c1 W hg hC HL1.out
    clear HOK HCO h1
    go_region_held3 (fun w' => w'.cell? ⟨b5, 0, none⟩ = some (.int .i64 n.f0) ∧ w'.cell? ⟨b5, 1, none⟩ = some (.string n.f1) ∧ w'.cell? ⟨b5, 2, none⟩ = some (.int .i64 n.f2) ∧ w'.cell? ⟨b5, 3, none⟩ = some (.int .u64 n.f3) ∧ w'.cell? ⟨b5, 4, none⟩ = some (.slice A1 n.f4.length c1) ∧ w'.cell? ⟨b5, 5, none⟩ = some (.int .i64 n.f5) ∧ w'.cell? ⟨b8, 0, none⟩ = some (.int .i64 n.f0) ∧ w'.cell? ⟨b8, 1, none⟩ = some (.string n.f1) ∧ w'.cell? ⟨b8, 2, none⟩ = some (.int .i64 n.f2) ∧ w'.cell? ⟨b8, 3, none⟩ = some (.int .u64 n.f3) ∧ w'.cell? ⟨b8, 4, none⟩ = some (.slice A2 n.f4.length c2) ∧ w'.cell? ⟨b8, 5, none⟩ = some (.int .i64 n.f5)) ((repeat' apply And.intro) <;> (first | assumption | exact cell_drewP (by assumption))) (first | (go_at_call 25; (with_reducible refine (V.node25_any n WN.out A1 c1 HL1.out _ ?_).mono ?_); (first | exact HD1.out | exact Kd.C_below HD1.out (below_drew1 (Below.refl _ _))); rintro e_ k3 ⟨A7, c7, rfl, hC, hB⟩; (try replace hB := below_undrewP hB); replace KB := Lib.hid (below_step KB.out hB); replace HN1 := Lib.hid (blk_belowU hB HN1.out); replace HN2 := Lib.hid (blk_belowU hB HN2.out); replace HD1 := Lib.hid (Kd.C_below HD1.out hB); replace HD2 := Lib.hid (V.KR.below HD2.out hB); replace tc0 : k3.cell? ⟨b5, 0, none⟩ = some (.int .i64 n.f0) := (blk_cell HN1.out 0).trans rfl; replace tc1 : k3.cell? ⟨b5, 1, none⟩ = some (.string n.f1) := (blk_cell HN1.out 1).trans rfl; replace tc2 : k3.cell? ⟨b5, 2, none⟩ = some (.int .i64 n.f2) := (blk_cell HN1.out 2).trans rfl; replace tc3 : k3.cell? ⟨b5, 3, none⟩ = some (.int .u64 n.f3) := (blk_cell HN1.out 3).trans rfl; replace tc4 : k3.cell? ⟨b5, 4, none⟩ = some (.slice A1 n.f4.length c1) := (blk_cell HN1.out 4).trans rfl; replace tc5 : k3.cell? ⟨b5, 5, none⟩ = some (.int .i64 n.f5) := (blk_cell HN1.out 5).trans rfl; replace uc0 : k3.cell? ⟨b8, 0, none⟩ = some (.int .i64 n.f0) := (blk_cell HN2.out 0).trans rfl; replace uc1 : k3.cell? ⟨b8, 1, none⟩ = some (.string n.f1) := (blk_cell HN2.out 1).trans rfl; replace uc2 : k3.cell? ⟨b8, 2, none⟩ = some (.int .i64 n.f2) := (blk_cell HN2.out 2).trans rfl; replace uc3 : k3.cell? ⟨b8, 3, none⟩ = some (.int .u64 n.f3) := (blk_cell HN2.out 3).trans rfl; replace uc4 : k3.cell? ⟨b8, 4, none⟩ = some (.slice A2 n.f4.length c2) := (blk_cell HN2.out 4).trans rfl; replace uc5 : k3.cell? ⟨b8, 5, none⟩ = some (.int .i64 n.f5) := (blk_cell HN2.out 5).trans rfl; have HE1 := Lib.hid hC; clear hC hB) | (go_at_call 28; (with_reducible refine (V.same28_any n WN.out A7 A2 c7 c2 _ ?_ ?_).mono ?_); (first | exact HE1.out | exact V.KR.below HE1.out (below_drew1 (Below.refl _ _))); (first | exact HD2.out | exact V.KR.below HD2.out (below_drew1 (Below.refl _ _))); rintro e_ k5 ⟨rfl, hB⟩; (try replace hB := below_undrewP hB); replace KB := Lib.hid (below_step KB.out hB); replace HN1 := Lib.hid (blk_belowU hB HN1.out); replace HN2 := Lib.hid (blk_belowU hB HN2.out); replace HD1 := Lib.hid (Kd.C_below HD1.out hB); replace HD2 := Lib.hid (V.KR.below HD2.out hB); replace tc0 : k5.cell? ⟨b5, 0, none⟩ = some (.int .i64 n.f0) := (blk_cell HN1.out 0).trans rfl; replace tc1 : k5.cell? ⟨b5, 1, none⟩ = some (.string n.f1) := (blk_cell HN1.out 1).trans rfl; replace tc2 : k5.cell? ⟨b5, 2, none⟩ = some (.int .i64 n.f2) := (blk_cell HN1.out 2).trans rfl; replace tc3 : k5.cell? ⟨b5, 3, none⟩ = some (.int .u64 n.f3) := (blk_cell HN1.out 3).trans rfl; replace tc4 : k5.cell? ⟨b5, 4, none⟩ = some (.slice A1 n.f4.length c1) := (blk_cell HN1.out 4).trans rfl; replace tc5 : k5.cell? ⟨b5, 5, none⟩ = some (.int .i64 n.f5) := (blk_cell HN1.out 5).trans rfl; replace uc0 : k5.cell? ⟨b8, 0, none⟩ = some (.int .i64 n.f0) := (blk_cell HN2.out 0).trans rfl; replace uc1 : k5.cell? ⟨b8, 1, none⟩ = some (.string n.f1) := (blk_cell HN2.out 1).trans rfl; replace uc2 : k5.cell? ⟨b8, 2, none⟩ = some (.int .i64 n.f2) := (blk_cell HN2.out 2).trans rfl; replace uc3 : k5.cell? ⟨b8, 3, none⟩ = some (.int .u64 n.f3) := (blk_cell HN2.out 3).trans rfl; replace uc4 : k5.cell? ⟨b8, 4, none⟩ = some (.slice A2 n.f4.length c2) := (blk_cell HN2.out 4).trans rfl; replace uc5 : k5.cell? ⟨b8, 5, none⟩ = some (.int .i64 n.f5) := (blk_cell HN2.out 5).trans rfl; clear hB))
    all_goals go_upto_region 7 with (fail)
    all_goals go_region_held3 (fun w' => w'.cell? ⟨b5, 0, none⟩ = some (.int .i64 n.f0) ∧ w'.cell? ⟨b5, 1, none⟩ = some (.string n.f1) ∧ w'.cell? ⟨b5, 2, none⟩ = some (.int .i64 n.f2) ∧ w'.cell? ⟨b5, 3, none⟩ = some (.int .u64 n.f3) ∧ w'.cell? ⟨b5, 4, none⟩ = some (.slice A1 n.f4.length c1) ∧ w'.cell? ⟨b5, 5, none⟩ = some (.int .i64 n.f5) ∧ w'.cell? ⟨b8, 0, none⟩ = some (.int .i64 n.f0) ∧ w'.cell? ⟨b8, 1, none⟩ = some (.string n.f1) ∧ w'.cell? ⟨b8, 2, none⟩ = some (.int .i64 n.f2) ∧ w'.cell? ⟨b8, 3, none⟩ = some (.int .u64 n.f3) ∧ w'.cell? ⟨b8, 4, none⟩ = some (.slice A2 n.f4.length c2) ∧ w'.cell? ⟨b8, 5, none⟩ = some (.int .i64 n.f5)) ((repeat' apply And.intro) <;> (first | assumption | exact cell_drewP (by assumption))) (first | (go_at_call 29; (with_reducible refine (CS _ ?_ ?_).mono ?_); (first | exact gw_below _ _ KB.out HG.out | exact gw_below _ _ (below_drew1 KB.out) HG.out); (first | exact HD1.out | exact Kd.C_below HD1.out (below_drew1 (Below.refl _ _))); rintro e_ k6 ⟨rfl, hB⟩; (try replace hB := below_undrewP hB); replace KB := Lib.hid (below_step KB.out hB); replace HN1 := Lib.hid (blk_belowU hB HN1.out); replace HN2 := Lib.hid (blk_belowU hB HN2.out); replace HD1 := Lib.hid (Kd.C_below HD1.out hB); replace HD2 := Lib.hid (V.KR.below HD2.out hB); replace tc0 : k6.cell? ⟨b5, 0, none⟩ = some (.int .i64 n.f0) := (blk_cell HN1.out 0).trans rfl; replace tc1 : k6.cell? ⟨b5, 1, none⟩ = some (.string n.f1) := (blk_cell HN1.out 1).trans rfl; replace tc2 : k6.cell? ⟨b5, 2, none⟩ = some (.int .i64 n.f2) := (blk_cell HN1.out 2).trans rfl; replace tc3 : k6.cell? ⟨b5, 3, none⟩ = some (.int .u64 n.f3) := (blk_cell HN1.out 3).trans rfl; replace tc4 : k6.cell? ⟨b5, 4, none⟩ = some (.slice A1 n.f4.length c1) := (blk_cell HN1.out 4).trans rfl; replace tc5 : k6.cell? ⟨b5, 5, none⟩ = some (.int .i64 n.f5) := (blk_cell HN1.out 5).trans rfl; replace uc0 : k6.cell? ⟨b8, 0, none⟩ = some (.int .i64 n.f0) := (blk_cell HN2.out 0).trans rfl; replace uc1 : k6.cell? ⟨b8, 1, none⟩ = some (.string n.f1) := (blk_cell HN2.out 1).trans rfl; replace uc2 : k6.cell? ⟨b8, 2, none⟩ = some (.int .i64 n.f2) := (blk_cell HN2.out 2).trans rfl; replace uc3 : k6.cell? ⟨b8, 3, none⟩ = some (.int .u64 n.f3) := (blk_cell HN2.out 3).trans rfl; replace uc4 : k6.cell? ⟨b8, 4, none⟩ = some (.slice A2 n.f4.length c2) := (blk_cell HN2.out 4).trans rfl; replace uc5 : k6.cell? ⟨b8, 5, none⟩ = some (.int .i64 n.f5) := (blk_cell HN2.out 5).trans rfl; clear hB) | (go_at_call 30; (with_reducible refine (V.show30_any hwf WN.out A2 c2 _ ?_).mono ?_); (first | exact HD2.out | exact V.KR.below HD2.out (below_drew1 (Below.refl _ _))); rintro e_ k7 ⟨rfl, hB⟩; (try replace hB := below_undrewP hB); replace KB := Lib.hid (below_step KB.out hB); replace HN1 := Lib.hid (blk_belowU hB HN1.out); replace HN2 := Lib.hid (blk_belowU hB HN2.out); replace HD1 := Lib.hid (Kd.C_below HD1.out hB); replace HD2 := Lib.hid (V.KR.below HD2.out hB); replace tc0 : k7.cell? ⟨b5, 0, none⟩ = some (.int .i64 n.f0) := (blk_cell HN1.out 0).trans rfl; replace tc1 : k7.cell? ⟨b5, 1, none⟩ = some (.string n.f1) := (blk_cell HN1.out 1).trans rfl; replace tc2 : k7.cell? ⟨b5, 2, none⟩ = some (.int .i64 n.f2) := (blk_cell HN1.out 2).trans rfl; replace tc3 : k7.cell? ⟨b5, 3, none⟩ = some (.int .u64 n.f3) := (blk_cell HN1.out 3).trans rfl; replace tc4 : k7.cell? ⟨b5, 4, none⟩ = some (.slice A1 n.f4.length c1) := (blk_cell HN1.out 4).trans rfl; replace tc5 : k7.cell? ⟨b5, 5, none⟩ = some (.int .i64 n.f5) := (blk_cell HN1.out 5).trans rfl; replace uc0 : k7.cell? ⟨b8, 0, none⟩ = some (.int .i64 n.f0) := (blk_cell HN2.out 0).trans rfl; replace uc1 : k7.cell? ⟨b8, 1, none⟩ = some (.string n.f1) := (blk_cell HN2.out 1).trans rfl; replace uc2 : k7.cell? ⟨b8, 2, none⟩ = some (.int .i64 n.f2) := (blk_cell HN2.out 2).trans rfl; replace uc3 : k7.cell? ⟨b8, 3, none⟩ = some (.int .u64 n.f3) := (blk_cell HN2.out 3).trans rfl; replace uc4 : k7.cell? ⟨b8, 4, none⟩ = some (.slice A2 n.f4.length c2) := (blk_cell HN2.out 4).trans rfl; replace uc5 : k7.cell? ⟨b8, 5, none⟩ = some (.int .i64 n.f5) := (blk_cell HN2.out 5).trans rfl; clear hB))
    all_goals go_wp2
    all_goals go_ret
    all_goals exact ⟨rfl, KB.out⟩
  · have h2 := HCO.out h1
    clear HOK HCO h1
    rcases h2 with rfl | rfl | rfl | rfl
    all_goals go_region_held3 (fun w' => w'.cell? ⟨b5, 0, none⟩ = some (.int .i64 n.f0) ∧ w'.cell? ⟨b5, 1, none⟩ = some (.string n.f1) ∧ w'.cell? ⟨b5, 2, none⟩ = some (.int .i64 n.f2) ∧ w'.cell? ⟨b5, 3, none⟩ = some (.int .u64 n.f3) ∧ w'.cell? ⟨b5, 4, none⟩ = some (.slice A1 n.f4.length c1) ∧ w'.cell? ⟨b5, 5, none⟩ = some (.int .i64 n.f5) ∧ w'.cell? ⟨b8, 0, none⟩ = some (.int .i64 n.f0) ∧ w'.cell? ⟨b8, 1, none⟩ = some (.string n.f1) ∧ w'.cell? ⟨b8, 2, none⟩ = some (.int .i64 n.f2) ∧ w'.cell? ⟨b8, 3, none⟩ = some (.int .u64 n.f3) ∧ w'.cell? ⟨b8, 4, none⟩ = some (.slice A2 n.f4.length c2) ∧ w'.cell? ⟨b8, 5, none⟩ = some (.int .i64 n.f5)) ((repeat' apply And.intro) <;> (first | assumption | exact cell_drewP (by assumption))) (first | (go_at_call 25; (with_reducible refine (V.node25_any n WN.out A1 c1 HL1.out _ ?_).mono ?_); (first | exact HD1.out | exact Kd.C_below HD1.out (below_drew1 (Below.refl _ _))); rintro e_ k3 ⟨A7, c7, rfl, hC, hB⟩; (try replace hB := below_undrewP hB); replace KB := Lib.hid (below_step KB.out hB); replace HN1 := Lib.hid (blk_belowU hB HN1.out); replace HN2 := Lib.hid (blk_belowU hB HN2.out); replace HD1 := Lib.hid (Kd.C_below HD1.out hB); replace HD2 := Lib.hid (V.KR.below HD2.out hB); replace tc0 : k3.cell? ⟨b5, 0, none⟩ = some (.int .i64 n.f0) := (blk_cell HN1.out 0).trans rfl; replace tc1 : k3.cell? ⟨b5, 1, none⟩ = some (.string n.f1) := (blk_cell HN1.out 1).trans rfl; replace tc2 : k3.cell? ⟨b5, 2, none⟩ = some (.int .i64 n.f2) := (blk_cell HN1.out 2).trans rfl; replace tc3 : k3.cell? ⟨b5, 3, none⟩ = some (.int .u64 n.f3) := (blk_cell HN1.out 3).trans rfl; replace tc4 : k3.cell? ⟨b5, 4, none⟩ = some (.slice A1 n.f4.length c1) := (blk_cell HN1.out 4).trans rfl; replace tc5 : k3.cell? ⟨b5, 5, none⟩ = some (.int .i64 n.f5) := (blk_cell HN1.out 5).trans rfl; replace uc0 : k3.cell? ⟨b8, 0, none⟩ = some (.int .i64 n.f0) := (blk_cell HN2.out 0).trans rfl; replace uc1 : k3.cell? ⟨b8, 1, none⟩ = some (.string n.f1) := (blk_cell HN2.out 1).trans rfl; replace uc2 : k3.cell? ⟨b8, 2, none⟩ = some (.int .i64 n.f2) := (blk_cell HN2.out 2).trans rfl; replace uc3 : k3.cell? ⟨b8, 3, none⟩ = some (.int .u64 n.f3) := (blk_cell HN2.out 3).trans rfl; replace uc4 : k3.cell? ⟨b8, 4, none⟩ = some (.slice A2 n.f4.length c2) := (blk_cell HN2.out 4).trans rfl; replace uc5 : k3.cell? ⟨b8, 5, none⟩ = some (.int .i64 n.f5) := (blk_cell HN2.out 5).trans rfl; have HE1 := Lib.hid hC; clear hC hB) | (go_at_call 28; (with_reducible refine (V.same28_any n WN.out A7 A2 c7 c2 _ ?_ ?_).mono ?_); (first | exact HE1.out | exact V.KR.below HE1.out (below_drew1 (Below.refl _ _))); (first | exact HD2.out | exact V.KR.below HD2.out (below_drew1 (Below.refl _ _))); rintro e_ k5 ⟨rfl, hB⟩; (try replace hB := below_undrewP hB); replace KB := Lib.hid (below_step KB.out hB); replace HN1 := Lib.hid (blk_belowU hB HN1.out); replace HN2 := Lib.hid (blk_belowU hB HN2.out); replace HD1 := Lib.hid (Kd.C_below HD1.out hB); replace HD2 := Lib.hid (V.KR.below HD2.out hB); replace tc0 : k5.cell? ⟨b5, 0, none⟩ = some (.int .i64 n.f0) := (blk_cell HN1.out 0).trans rfl; replace tc1 : k5.cell? ⟨b5, 1, none⟩ = some (.string n.f1) := (blk_cell HN1.out 1).trans rfl; replace tc2 : k5.cell? ⟨b5, 2, none⟩ = some (.int .i64 n.f2) := (blk_cell HN1.out 2).trans rfl; replace tc3 : k5.cell? ⟨b5, 3, none⟩ = some (.int .u64 n.f3) := (blk_cell HN1.out 3).trans rfl; replace tc4 : k5.cell? ⟨b5, 4, none⟩ = some (.slice A1 n.f4.length c1) := (blk_cell HN1.out 4).trans rfl; replace tc5 : k5.cell? ⟨b5, 5, none⟩ = some (.int .i64 n.f5) := (blk_cell HN1.out 5).trans rfl; replace uc0 : k5.cell? ⟨b8, 0, none⟩ = some (.int .i64 n.f0) := (blk_cell HN2.out 0).trans rfl; replace uc1 : k5.cell? ⟨b8, 1, none⟩ = some (.string n.f1) := (blk_cell HN2.out 1).trans rfl; replace uc2 : k5.cell? ⟨b8, 2, none⟩ = some (.int .i64 n.f2) := (blk_cell HN2.out 2).trans rfl; replace uc3 : k5.cell? ⟨b8, 3, none⟩ = some (.int .u64 n.f3) := (blk_cell HN2.out 3).trans rfl; replace uc4 : k5.cell? ⟨b8, 4, none⟩ = some (.slice A2 n.f4.length c2) := (blk_cell HN2.out 4).trans rfl; replace uc5 : k5.cell? ⟨b8, 5, none⟩ = some (.int .i64 n.f5) := (blk_cell HN2.out 5).trans rfl; clear hB))
    all_goals go_upto_region 7 with (fail)
    all_goals go_region
    all_goals go_wp2
    all_goals go_ret
    all_goals first | exact ⟨rfl, KB.out⟩ | exact ⟨rfl, below_drew1 KB.out⟩
theorem parseReads_pr (a0 : ByteArray) (w : World) (w0 : a0.size ≤ 140737488351232) (hg : GW w) : Calls Tryd.prog 8 #[.string a0] w fun e w' => e = .returned (.bool true) ∧ Below w.heap.size w w' := parseReads_walk a0 w hg w0
end Go.Proofs.YtfgfoofojofnmaaDoor.Q
