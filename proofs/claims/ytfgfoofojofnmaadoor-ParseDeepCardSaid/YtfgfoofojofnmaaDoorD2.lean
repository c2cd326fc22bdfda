/- forebearlaw23.ParseDeep: the law. -/
import Derived.Test.YtfgfoofojofnmaaDoorD1
import Derived.Test.YtfgfoofojofnmaaDoorQF10
namespace Go.Proofs.YtfgfoofojofnmaaDoor.Q
open Go.RowKit Go.Proofs.YtfgfoofojofnmaaDoorW.PrintWords Go.Proofs.YtfgfoofojofnmaaDoorW.PrintLast Go.Proofs.YtfgfoofojofnmaaDoorW.PrintMore
set_option linter.unusedVariables false
set_option linter.unusedSimpArgs false
open Go.Proofs.YtfgfoofojofnmaaDoor.Hand
theorem u64_mod (a : Int) (d : Nat) (hd : 0 < d) (hd2 : d < 1000) : ∃ j : Nat, j < d ∧ wrap64 ((IntKind.u64.wrap a).tmod (d : Int)) = (j : Int) := by
  have h0 : 0 ≤ IntKind.u64.wrap a := by rw [show IntKind.u64.wrap a = a % 18446744073709551616 by simp [IntKind.wrap, IntKind.bits, IntKind.signed]]; omega
  have h1 := Int.tmod_lt_of_pos (IntKind.u64.wrap a) (show (0 : Int) < (d : Int) by omega)
  have h2 := Int.tmod_nonneg (d : Int) h0
  generalize (IntKind.u64.wrap a).tmod (d : Int) = z at *
  exact ⟨z.toNat, by omega, by unfold wrap64; omega⟩
theorem w64_succ (i : Nat) (h : i < 1000000) : wrap64 ((i : Int) + 1) = ((i + 1 : Nat) : Int) := by unfold wrap64; omega
theorem size_toList (a : ByteArray) : a.size = a.data.toList.length := by rw [Array.length_toList]; rfl
theorem deep_l2 (n b : Nat) (hn : n < 40) (hb : b < 300) : ∀ (d i : Nat) (x5 : ByteArray) (k : Nat), d = b - i → i ≤ b → x5.data.toList = List.replicate n 33 ++ (List.replicate b 40 ++ 97 :: List.replicate i 41) → 5000 + d ≤ k → forebearlaw23_ParseDeep.l2 k (n : Int) (b : Int) x5 (i : Int) = some true := by
  intro d
  induction d with
  | zero =>
    intro i x5 k hd hi hx hk
    obtain ⟨k, rfl⟩ : ∃ k1, k = k1 + 1 := ⟨k - 1, by omega⟩
    obtain rfl : i = b := by omega
    obtain ⟨y, hy, hp⟩ := deepN n i hn hb x5 hx
    have hwt := Nat.le_trans (prs_few x5) (show 2049 ≤ 2049 by decide)
    rw [forebearlaw23_ParseDeep.l2, if_neg (by omega)]
    simp only [parse_Parse.f, Option.bind_some]
    rw [hp] at hwt ⊢
    by_cases h24 : 24 ≤ n
    · rw [if_pos h24, if_pos (by omega)]
      rfl
    · rw [if_neg h24] at hwt ⊢
      rw [if_neg (by omega), if_pos rfl]
      have h1 := node_f (wt y) k y (Nat.le_refl _) (by have : wt y ≤ 2049 := hwt; omega) (by have : wt y ≤ 2049 := hwt; omega)
      have h2 := rdepth_f (wt y) k y (Nat.le_refl _) (by have : wt y ≤ 2049 := hwt; omega) (by have : wt y ≤ 2049 := hwt; omega)
      simp only [h1, Option.bind_some, h2]
      rw [hy, w64_succ n (by omega)]
      simp
  | succ d ih =>
    intro i x5 k hd hi hx hk
    obtain ⟨k, rfl⟩ : ∃ k1, k = k1 + 1 := ⟨k - 1, by omega⟩
    rw [forebearlaw23_ParseDeep.l2, if_pos (by omega), if_pos (by rw [size_toList, hx]; simp; omega), w64_succ i (by omega)]
    apply ih (i + 1) _ k (by omega) (by omega) _ (by omega)
    show ((x5 ++ (⟨#[41]⟩ : ByteArray)).data.toList) = _
    rw [ByteArray.data_append, Array.toList_append, hx, List.replicate_succ' (n := i) (a := (41 : UInt8))]
    simp
theorem deep_l1 (n b : Nat) (hn : n < 40) (hb : b < 300) : ∀ (d i : Nat) (x5 : ByteArray) (k : Nat), d = b - i → i ≤ b → x5.data.toList = List.replicate n 33 ++ List.replicate i 40 → 6000 + d ≤ k → forebearlaw23_ParseDeep.l1 k (n : Int) (b : Int) x5 (i : Int) = some true := by
  intro d
  induction d with
  | zero =>
    intro i x5 k hd hi hx hk
    obtain ⟨k, rfl⟩ : ∃ k1, k = k1 + 1 := ⟨k - 1, by omega⟩
    obtain rfl : i = b := by omega
    rw [forebearlaw23_ParseDeep.l1, if_neg (by omega), if_pos (by rw [size_toList, hx]; simp; omega), show (0 : Int) = ((0 : Nat) : Int) from rfl]
    apply deep_l2 n i hn hb i 0 _ k (by omega) (by omega) _ (by omega)
    rw [ByteArray.data_append, Array.toList_append, hx]
    simp
  | succ d ih =>
    intro i x5 k hd hi hx hk
    obtain ⟨k, rfl⟩ : ∃ k1, k = k1 + 1 := ⟨k - 1, by omega⟩
    rw [forebearlaw23_ParseDeep.l1, if_pos (by omega), if_pos (by rw [size_toList, hx]; simp; omega), w64_succ i (by omega)]
    apply ih (i + 1) _ k (by omega) (by omega) _ (by omega)
    rw [ByteArray.data_append, Array.toList_append, hx, List.replicate_succ' (n := i) (a := (40 : UInt8))]
    simp
theorem deep_l0 (n b : Nat) (hn : n < 40) (hb : b < 300) : ∀ (d i : Nat) (x5 : ByteArray) (k : Nat), d = n - i → i ≤ n → x5.data.toList = List.replicate i 33 → 7000 + d ≤ k → forebearlaw23_ParseDeep.l0 k (n : Int) (b : Int) x5 (i : Int) = some true := by
  intro d
  induction d with
  | zero =>
    intro i x5 k hd hi hx hk
    obtain ⟨k, rfl⟩ : ∃ k1, k = k1 + 1 := ⟨k - 1, by omega⟩
    obtain rfl : i = n := by omega
    rw [forebearlaw23_ParseDeep.l0, if_neg (by omega), show (0 : Int) = ((0 : Nat) : Int) from rfl]
    apply deep_l1 i b hn hb b 0 _ k (by omega) (by omega) _ (by omega)
    rw [hx]; simp
  | succ d ih =>
    intro i x5 k hd hi hx hk
    obtain ⟨k, rfl⟩ : ∃ k1, k = k1 + 1 := ⟨k - 1, by omega⟩
    rw [forebearlaw23_ParseDeep.l0, if_pos (by omega), if_pos (by rw [size_toList, hx]; simp; omega), w64_succ i (by omega)]
    apply ih (i + 1) _ k (by omega) (by omega) _ (by omega)
    rw [ByteArray.data_append, Array.toList_append, hx, List.replicate_succ' (n := i) (a := (33 : UInt8))]
theorem parseDeep_val (a0 a1 : Int) : forebearlaw23_ParseDeep.f 10000 a0 a1 = some true := by
  obtain ⟨n, hn, e1⟩ := u64_mod a0 40 (by decide) (by decide)
  obtain ⟨b, hb, e2⟩ := u64_mod a1 300 (by decide) (by decide)
  unfold forebearlaw23_ParseDeep.f
  simp only [forebearlaw23_awake.f, Option.bind_some, if_true]
  rw [show ((40 : Nat) : Int) = 40 from rfl] at e1
  rw [show ((300 : Nat) : Int) = 300 from rfl] at e2
  rw [e1, e2, show (0 : Int) = ((0 : Nat) : Int) from rfl]
  exact deep_l0 n b hn hb n 0 _ 10000 (by omega) (by omega) rfl (by omega)

theorem parseDeep_walk (a0 a1 : Int) (w : World) : Calls Tryd.prog 10 #[.int .i64 a0, .int .i64 a1] w fun e w' => e = .returned (.bool true) ∧ Below w.heap.size w w' := by
  have h : forebearlaw23_ParseDeep.f 10000 a0 a1 = some true := parseDeep_val a0 a1
  refine (forebearlaw23_ParseDeep.calls 10000 a0 a1 true w h).mono ?_
  rintro e w' ⟨rfl, hd⟩
  exact ⟨rfl, hd⟩
end Go.Proofs.YtfgfoofojofnmaaDoor.Q
