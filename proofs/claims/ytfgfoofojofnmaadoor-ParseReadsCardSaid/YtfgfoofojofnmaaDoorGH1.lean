import Derived.Below
import Derived.WalkKit
import Derived.KernelRfl
import Derived.Deep.LoopGhost
import Derived.Deep.QuietTactic
import Derived.BigQuiet
import Derived.Lib.Hide
import Derived.WalkSpells
import Derived.IntWalk
import Derived.Test.YtfgfoofojofnmaaDoorProg
import Derived.Test.YtfgfoofojofnmaaDoorGShelf
set_option linter.unusedVariables false
set_option linter.unusedSimpArgs false
namespace Go.Proofs.YtfgfoofojofnmaaDoor.Hand
open Go.RowKit

def smallB (c : UInt8) : Bool := decide (97 ≤ c.toNat) && decide (c.toNat ≤ 122)
def digitB (c : UInt8) : Bool := decide (48 ≤ c.toNat) && decide (c.toNat ≤ 57)
def nameB (c : UInt8) : Bool := smallB c || digitB c || ((c.toNat : Int) == 95)

theorem small_any (c : UInt8) (w : World) : Calls Tryd.prog 66 #[.int .u8 (c.toNat : Int)] w fun e w' => e = .returned (.bool (smallB c)) ∧ ∃ n, w' = w.drewN n := by
  have hb : smallB c = true ∨ smallB c = false := by cases smallB c <;> simp
  have e1 : smallB c = (decide (97 ≤ c.toNat) && decide (c.toNat ≤ 122)) := rfl
  by_cases h1 : (97 : Int) ≤ (c.toNat : Int)
  · by_cases h2 : (c.toNat : Int) ≤ 122
    · have e : smallB c = true := by rw [e1, decide_eq_true (by omega), decide_eq_true (by omega)]; rfl
      rw [e]; clear e e1 hb
      go_enter Tryd.func66, Tryd.ntmps66
      go_wp2
      go_ret
      exact ⟨rfl, 0, rfl⟩
    · have e : smallB c = false := by rw [e1, decide_eq_true (show 97 ≤ c.toNat by omega), decide_eq_false (show ¬ c.toNat ≤ 122 by omega)]; rfl
      rw [e]; clear e e1 hb
      go_enter Tryd.func66, Tryd.ntmps66
      go_wp2
      go_ret
      exact ⟨rfl, 0, rfl⟩
  · have e : smallB c = false := by rw [e1, decide_eq_false (show ¬ 97 ≤ c.toNat by omega)]; rfl
    rw [e]; clear e e1 hb
    go_enter Tryd.func66, Tryd.ntmps66
    go_wp2
    go_ret
    exact ⟨rfl, 0, rfl⟩

theorem digit_any (c : UInt8) (w : World) : Calls Tryd.prog 69 #[.int .u8 (c.toNat : Int)] w fun e w' => e = .returned (.bool (digitB c)) ∧ ∃ n, w' = w.drewN n := by
  have e1 : digitB c = (decide (48 ≤ c.toNat) && decide (c.toNat ≤ 57)) := rfl
  by_cases h1 : (48 : Int) ≤ (c.toNat : Int)
  · by_cases h2 : (c.toNat : Int) ≤ 57
    · have e : digitB c = true := by rw [e1, decide_eq_true (by omega), decide_eq_true (by omega)]; rfl
      rw [e]; clear e e1
      go_enter Tryd.func69, Tryd.ntmps69
      go_wp2
      go_ret
      exact ⟨rfl, 0, rfl⟩
    · have e : digitB c = false := by rw [e1, decide_eq_true (show 48 ≤ c.toNat by omega), decide_eq_false (show ¬ c.toNat ≤ 57 by omega)]; rfl
      rw [e]; clear e e1
      go_enter Tryd.func69, Tryd.ntmps69
      go_wp2
      go_ret
      exact ⟨rfl, 0, rfl⟩
  · have e : digitB c = false := by rw [e1, decide_eq_false (show ¬ 48 ≤ c.toNat by omega)]; rfl
    rw [e]; clear e e1
    go_enter Tryd.func69, Tryd.ntmps69
    go_wp2
    go_ret
    exact ⟨rfl, 0, rfl⟩

theorem name_any (c : UInt8) (w : World) : Calls Tryd.prog 68 #[.int .u8 (c.toNat : Int)] w fun e w' => e = .returned (.bool (nameB c)) ∧ ∃ n, w' = w.drewN n := by
  have e1 : nameB c = (smallB c || digitB c || ((c.toNat : Int) == 95)) := rfl
  cases hs : smallB c with
  | true =>
    have e : nameB c = true := by rw [e1, hs]; rfl
    rw [e]; clear e e1
    have C := fun W => small_any c W
    simp only [hs] at C
    clear hs
    go_enter Tryd.func68, Tryd.ntmps68
    go_wp2_with ((go_at_call 66; (with_reducible refine (C _).mono ?_); rintro e w' ⟨rfl, ⟨nd, rfl⟩⟩))
    go_ret
    exact ⟨rfl, by repeat (first | exact ⟨_, rfl⟩)⟩
  | false =>
    cases hd : digitB c with
    | true =>
      have e : nameB c = true := by rw [e1, hs, hd]; rfl
      rw [e]; clear e e1
      have C := fun W => small_any c W
      have D := fun W => digit_any c W
      simp only [hs] at C
      simp only [hd] at D
      clear hs hd
      go_enter Tryd.func68, Tryd.ntmps68
      go_wp2_with (first | (go_at_call 66; (with_reducible refine (C _).mono ?_); rintro e w' ⟨rfl, ⟨nd, rfl⟩⟩) | (go_at_call 69; (with_reducible refine (D _).mono ?_); rintro e w' ⟨rfl, ⟨ne, rfl⟩⟩))
      go_ret
      exact ⟨rfl, by repeat (first | exact ⟨_, rfl⟩)⟩
    | false =>
      have C := fun W => small_any c W
      have D := fun W => digit_any c W
      simp only [hs] at C
      simp only [hd] at D
      have e : nameB c = ((c.toNat : Int) == 95) := by rw [e1, hs, hd]; rfl
      rw [e]; clear e e1
      clear hs hd
      go_enter Tryd.func68, Tryd.ntmps68
      go_wp2_with (first | (go_at_call 66; (with_reducible refine (C _).mono ?_); rintro e w' ⟨rfl, ⟨nd, rfl⟩⟩) | (go_at_call 69; (with_reducible refine (D _).mono ?_); rintro e w' ⟨rfl, ⟨ne, rfl⟩⟩))
      go_ret
      exact ⟨rfl, by repeat (first | exact ⟨_, rfl⟩)⟩

theorem get_data (s : ByteArray) (k : Nat) (h : k < s.size) : s.data.toList[k]'(by simpa using h) = s[k] := by simp; rfl
def headN (p : UInt8 → Bool) (l : List UInt8) : Nat := (l.takeWhile p).length
theorem headN_le (p : UInt8 → Bool) (l : List UInt8) : headN p l ≤ l.length := (List.takeWhile_sublist p).length_le
theorem headN_yes {p : UInt8 → Bool} : ∀ {l : List UInt8} {k : Nat}, k ≤ headN p l → (h : k < l.length) → p l[k] = true → k + 1 ≤ headN p l
  | c :: l, 0, _, _, hp => by
    simp only [List.getElem_cons_zero] at hp
    simp [headN, hp]
  | c :: l, k + 1, hk, h, hp => by
    simp only [List.getElem_cons_succ] at hp
    by_cases hc : p c = true
    · simp only [headN, List.takeWhile_cons, hc, if_true, List.length_cons] at hk ⊢
      have := headN_yes (p := p) (l := l) (k := k) (by simp [headN]; omega) (by simpa using h) hp
      simp only [headN] at this
      omega
    · simp [headN, hc] at hk
theorem headN_no {p : UInt8 → Bool} : ∀ {l : List UInt8} {k : Nat}, k ≤ headN p l → (h : k < l.length) → p l[k] = false → k = headN p l
  | c :: l, 0, _, _, hp => by
    simp only [List.getElem_cons_zero] at hp
    simp [headN, hp]
  | c :: l, k + 1, hk, h, hp => by
    simp only [List.getElem_cons_succ] at hp
    by_cases hc : p c = true
    · simp only [headN, List.takeWhile_cons, hc, if_true, List.length_cons] at hk ⊢
      have := headN_no (p := p) (l := l) (k := k) (by simp [headN]; omega) (by simpa using h) hp
      simp only [headN] at this
      omega
    · simp [headN, hc] at hk

set_option maxHeartbeats 400000 in
theorem run_name (s : ByteArray) (w : World) (hs : s.size ≤ 140737488351232) :
    Calls Tryd.prog 67 #[.string s, .func (.func 68) #[] #[]] w fun e w' => e = .returned (.int .i64 (headN nameB s.data.toList : Nat)) ∧ ∃ n, w' = w.drewN n := by
  have hm := headN_le nameB s.data.toList
  have hl : s.data.toList.length = s.size := by simp
  rw [hl] at hm
  have HL := Lib.hid hl
  clear hl
  go_enter Tryd.func67, Tryd.ntmps67
  go_wp2_with fail
  go_loopw [5] (fun v wr => ∃ (k n : Nat), k ≤ headN nameB s.data.toList ∧ v = .int .i64 (k : Int) ∧ wr = w.drewN n) (fun v _ => s.size - (intOf v).toNat)
  case atStart => exact ⟨0, 0, Nat.zero_le _, rfl, rfl⟩
  case round =>
    obtain ⟨k, n, hk, rfl, rfl⟩ := hrel
    by_cases hlt : k < s.size
    · have C := fun W => name_any s[k] W
      cases hp : nameB s[k] with
      | true =>
        have hk' := Lib.hid (headN_yes hk (by rw [HL.out]; exact hlt) ((congrArg nameB (get_data s k hlt)).trans hp))
        simp only [hp] at C
        clear hp
        go_wp2_with ((with_reducible refine (C _).mono ?_); rintro e w' ⟨rfl, ⟨nd, rfl⟩⟩)
        go_roundw
        case rel => exact ⟨k + 1, _, hk'.out, by go_num, rfl⟩
        case measure => simp [intOf]; omega
      | false =>
        have hk' := Lib.hid (headN_no hk (by rw [HL.out]; exact hlt) ((congrArg nameB (get_data s k hlt)).trans hp))
        simp only [hp] at C
        clear hp
        go_wp2_with ((with_reducible refine (C _).mono ?_); rintro e w' ⟨rfl, ⟨nd, rfl⟩⟩)
        go_ret
        exact ⟨by rw [← hk'.out]; rfl, ⟨_, rfl⟩⟩
    · go_wp2_with fail
      go_ret
      exact ⟨by rw [show (k : Int) = ((headN nameB s.data.toList : Nat) : Int) from by omega]; rfl, ⟨_, rfl⟩⟩

set_option maxHeartbeats 400000 in
theorem run_digit (s : ByteArray) (w : World) (hs : s.size ≤ 140737488351232) :
    Calls Tryd.prog 67 #[.string s, .func (.func 69) #[] #[]] w fun e w' => e = .returned (.int .i64 (headN digitB s.data.toList : Nat)) ∧ ∃ n, w' = w.drewN n := by
  have hm := headN_le digitB s.data.toList
  have hl : s.data.toList.length = s.size := by simp
  rw [hl] at hm
  have HL := Lib.hid hl
  clear hl
  go_enter Tryd.func67, Tryd.ntmps67
  go_wp2_with fail
  go_loopw [5] (fun v wr => ∃ (k n : Nat), k ≤ headN digitB s.data.toList ∧ v = .int .i64 (k : Int) ∧ wr = w.drewN n) (fun v _ => s.size - (intOf v).toNat)
  case atStart => exact ⟨0, 0, Nat.zero_le _, rfl, rfl⟩
  case round =>
    obtain ⟨k, n, hk, rfl, rfl⟩ := hrel
    by_cases hlt : k < s.size
    · have C := fun W => digit_any s[k] W
      cases hp : digitB s[k] with
      | true =>
        have hk' := Lib.hid (headN_yes hk (by rw [HL.out]; exact hlt) ((congrArg digitB (get_data s k hlt)).trans hp))
        simp only [hp] at C
        clear hp
        go_wp2_with ((with_reducible refine (C _).mono ?_); rintro e w' ⟨rfl, ⟨nd, rfl⟩⟩)
        go_roundw
        case rel => exact ⟨k + 1, _, hk'.out, by go_num, rfl⟩
        case measure => simp [intOf]; omega
      | false =>
        have hk' := Lib.hid (headN_no hk (by rw [HL.out]; exact hlt) ((congrArg digitB (get_data s k hlt)).trans hp))
        simp only [hp] at C
        clear hp
        go_wp2_with ((with_reducible refine (C _).mono ?_); rintro e w' ⟨rfl, ⟨nd, rfl⟩⟩)
        go_ret
        exact ⟨by rw [← hk'.out]; rfl, ⟨_, rfl⟩⟩
    · go_wp2_with fail
      go_ret
      exact ⟨by rw [show (k : Int) = ((headN digitB s.data.toList : Nat) : Int) from by omega]; rfl, ⟨_, rfl⟩⟩

theorem idx_hi (l : List UInt8) (c : UInt8) : Lib.indexByte l c < l.length ∨ (l = [] ∧ Lib.indexByte l c = -1) := by
  induction l with
  | nil => exact .inr ⟨rfl, rfl⟩
  | cons b l ih =>
    left
    simp only [Lib.indexByte, List.length_cons]
    split
    · omega
    · split
      · omega
      · rcases ih with h | ⟨_, h⟩
        · omega
        · omega
set_option maxHeartbeats 400000 in
theorem cutL_one (s : ByteArray) (c : UInt8) (w : World) (hs : s.size ≤ 140737488351232) :
    Calls Tryd.prog 89 #[.string s, .string ⟨#[c]⟩] w fun e w' => e = .returned (if 0 ≤ Lib.indexByte s.data.toList c then .tuple #[.string (s.extract 0 (Lib.indexByte s.data.toList c).toNat), .string (s.extract ((Lib.indexByte s.data.toList c).toNat + 1) s.size), .bool true] else .tuple #[.string s, .string ⟨#[]⟩, .bool false]) ∧ ∃ n, w' = w.drewN n := by
  have C := fun W => Tryd.stringslite_Index_one s c W
  have hh := idx_hi s.data.toList c
  have hl : s.data.toList.length = s.size := by simp
  rw [hl] at hh
  have hh' : 0 ≤ Lib.indexByte s.data.toList c → Lib.indexByte s.data.toList c < s.size := by intro h; omega
  clear hh hl
  generalize Lib.indexByte s.data.toList c = i at *
  by_cases hi : 0 ≤ i
  · rw [if_pos hi]
    have hh := hh' hi
    clear hh'
    obtain ⟨i, rfl⟩ := Int.eq_ofNat_of_zero_le hi
    have e1 : IntKind.i64.wrap ((i : Int) + 1) = (i : Int) + 1 := IntWalk.i64_in _ (by omega)
    have e2 : 0 ≤ (i : Int) + 1 := by omega
    have e3 : ((i : Int) + 1).toNat = i + 1 := by omega
    go_enter Tryd.func89, Tryd.ntmps89
    go_wp2_with (go_at_call 113; (with_reducible refine (C _).mono ?_); rintro e w' ⟨rfl, rfl⟩)
    go_quiet (fail)
    go_wp2
    go_ret3
    exact ⟨by first | rfl | (simp; done), by first | exact ⟨_, rfl⟩⟩
  · rw [if_neg hi]
    go_enter Tryd.func89, Tryd.ntmps89
    go_wp2_with (go_at_call 113; (with_reducible refine (C _).mono ?_); rintro e w' ⟨rfl, rfl⟩)
    go_ret3
    exact ⟨rfl, 0, rfl⟩
set_option maxHeartbeats 400000 in
theorem cut_one (s : ByteArray) (c : UInt8) (w : World) (hs : s.size ≤ 140737488351232) :
    Calls Tryd.prog 71 #[.string s, .string ⟨#[c]⟩] w fun e w' => e = .returned (if 0 ≤ Lib.indexByte s.data.toList c then .tuple #[.string (s.extract 0 (Lib.indexByte s.data.toList c).toNat), .string (s.extract ((Lib.indexByte s.data.toList c).toNat + 1) s.size), .bool true] else .tuple #[.string s, .string ⟨#[]⟩, .bool false]) ∧ ∃ n, w' = w.drewN n := by
  have C := fun W => cutL_one s c W hs
  by_cases hi : 0 ≤ Lib.indexByte s.data.toList c
  · simp only [if_pos hi] at C ⊢
    generalize Lib.indexByte s.data.toList c = i at *
    clear hi
    go_enter Tryd.func71, Tryd.ntmps71
    go_wp2_with (go_at_call 89; (with_reducible refine (C _).mono ?_); rintro e w' ⟨rfl, ⟨n, rfl⟩⟩)
    go_ret3
    exact ⟨by first | rfl | (simp; done), by first | exact ⟨_, rfl⟩⟩
  · simp only [if_neg hi] at C ⊢
    clear hi
    go_enter Tryd.func71, Tryd.ntmps71
    go_wp2_with (go_at_call 89; (with_reducible refine (C _).mono ?_); rintro e w' ⟨rfl, ⟨n, rfl⟩⟩)
    go_ret3
    exact ⟨by first | rfl | (simp; done), by first | exact ⟨_, rfl⟩⟩
end Go.Proofs.YtfgfoofojofnmaaDoor.Hand
