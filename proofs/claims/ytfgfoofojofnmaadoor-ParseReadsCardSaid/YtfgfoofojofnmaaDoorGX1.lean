/- sum.Hex walked: the sixteen digits of a number. -/
import Derived.Laws.BitsLemmas
import Derived.Outline
import Derived.Test.YtfgfoofojofnmaaDoorGQF78
set_option linter.unusedVariables false
set_option linter.unusedSimpArgs false
namespace Go.Proofs.YtfgfoofojofnmaaDoor.Q
open Go.RowKit Go.Proofs.YtfgfoofojofnmaaDoorW.PrintWords Go.Proofs.YtfgfoofojofnmaaDoorW.PrintLast Go.Proofs.YtfgfoofojofnmaaDoorW.PrintMore
set_option linter.unusedVariables false
set_option linter.unusedSimpArgs false
open Go.Proofs.YtfgfoofojofnmaaDoor.Hand
namespace Hx
def hexDig (d : Nat) : UInt8 := if d < 10 then UInt8.ofNat (48 + d) else UInt8.ofNat (87 + d)
theorem wu64 (x : Int) : IntKind.u64.wrap x = x % 18446744073709551616 := by simp [IntKind.wrap, IntKind.bits, IntKind.signed]
theorem or_add (a b : Int) (ha : 0 ≤ a) (ha2 : a < 18446744073709551616) (hm : a % 16 = 0) (h0 : 0 ≤ b) (h1 : b < 16) : Go.bits .or .u64 a b = a + b := by
  have h64 : (2 : Int) ^ 64 = 18446744073709551616 := by decide
  have h4 : (2 : Int) ^ 4 = 16 := by decide
  exact bits_join .u64 64 (by decide) (fun n h h2 => by rw [h64] at h2; rw [wu64]; omega) 4 a b ha (by rw [h4]; exact hm) (by rw [h64]; exact ha2) h0 (by rw [h4]; exact h1) (by rw [h64]; omega)
/-- A number, turned by i digits. -/
def rot (v i : Nat) : Nat := (v % 16 ^ (16 - i)) * 16 ^ i + v / 16 ^ (16 - i)
theorem rot_zero (v : Nat) (h : v < 18446744073709551616) : rot v 0 = v := by
  unfold rot
  have e : (16 : Nat) ^ (16 - 0) = 18446744073709551616 := by decide
  rw [e]
  omega
theorem rot_gen (v M K : Nat) (hMK : M * K = 1152921504606846976) (hv : v < 18446744073709551616) :
    v % (M * 16) * K + v / (M * 16) < 18446744073709551616 ∧ v % M * (16 * K) + v / M = (v % (M * 16) * K + v / (M * 16)) * 16 % 18446744073709551616 + (v % (M * 16) * K + v / (M * 16)) / 1152921504606846976 ∧ (v % M * (16 * K) + v / M) % 16 = v / M % 16 := by
  have hM : 0 < M := by
    rcases Nat.eq_zero_or_pos M with h | h
    · subst h; simp at hMK
    · exact h
  have hr : v % M < M := Nat.mod_lt _ hM
  have hq1 : v / M / 16 < K := by
    rw [Nat.div_div_eq_div_mul]
    apply Nat.div_lt_of_lt_mul
    have : M * 16 * K = 16 * (M * K) := by rw [Nat.mul_comm M 16, Nat.mul_assoc]
    omega
  rw [Nat.mod_mul, ← Nat.div_div_eq_div_mul]
  generalize v / M = q at *
  generalize v % M = r at *
  have hs : r * K + K ≤ 1152921504606846976 := by
    have := Nat.mul_le_mul_right K (show r + 1 ≤ M by omega)
    rw [Nat.add_mul, Nat.one_mul] at this
    omega
  have e1 : (r + M * (q % 16)) * K = r * K + 1152921504606846976 * (q % 16) := by rw [Nat.add_mul, Nat.mul_right_comm, hMK]
  have e2 : r * (16 * K) = 16 * (r * K) := by rw [Nat.mul_left_comm]
  rw [e1, e2]
  clear e1 e2 hMK hr hM hv
  generalize r * K = s at *
  refine ⟨?_, ?_, ?_⟩ <;> omega
theorem rot_all (v i : Nat) (hi : i < 16) (h : v < 18446744073709551616) : rot v i < 18446744073709551616 ∧ rot v (i + 1) = rot v i * 16 % 18446744073709551616 + rot v i / 1152921504606846976 ∧ rot v (i + 1) % 16 = v / 16 ^ (15 - i) % 16 := by
  have h16 : (16 : Nat) ^ 15 = 1152921504606846976 := by decide
  have e := rot_gen v (16 ^ (15 - i)) (16 ^ i) (by rw [← Nat.pow_add, ← h16]; congr 1; omega) h
  have e1 : (16 : Nat) ^ (15 - i) * 16 = 16 ^ (16 - i) := by rw [← Nat.pow_succ]; congr 1; omega
  have e2 : (16 : Nat) * 16 ^ i = 16 ^ (i + 1) := by rw [Nat.pow_succ, Nat.mul_comm]
  have e3 : 16 - (i + 1) = 15 - i := by omega
  rw [e1, e2] at e
  unfold rot
  rw [e3]
  exact e
theorem rot_call (v i : Nat) (hi : i < 16) (h : v < 18446744073709551616) : bits_RotateLeft64.f (rot v i : Int) 4 = some ((rot v (i + 1) : Nat) : Int) := by
  obtain ⟨h1, h2, _⟩ := rot_all v i hi h
  generalize rot v i = a at *
  generalize rot v (i + 1) = b at *
  have e1 : Go.bits .and .u64 (IntKind.u64.wrap 4) 63 = 4 := by decide
  have e2 : IntKind.u64.wrap (64 - 4) = 60 := by decide
  unfold bits_RotateLeft64.f
  rw [e1, e2, if_pos (by decide), if_pos (by decide)]
  have e3 : shl .u64 (a : Int) 4 = ((a * 16 % 18446744073709551616 : Nat) : Int) := by
    have e : (2 : Int) ^ min 4 IntKind.u64.bits = 16 := by decide
    simp [shl, wu64, e]
  have e4 : shr .u64 (a : Int) 60 = ((a / 1152921504606846976 : Nat) : Int) := by
    have e : (2 : Int) ^ min 60 IntKind.u64.bits = 1152921504606846976 := by decide
    simp [shr, e]
  rw [e3, e4, or_add _ _ (by omega) (by omega) (by omega) (by omega) (by omega), h2]
  congr 1
/-- The block of digits while i are there. -/
def row (v i : Nat) : Array Value := ((List.range 16).map fun j => Value.int .u8 (if j < i then ((hexDig (v / 16 ^ (15 - j) % 16)).toNat : Int) else 0)).toArray
theorem row_zero (v : Nat) : row v 0 = #[.int .u8 0, .int .u8 0, .int .u8 0, .int .u8 0, .int .u8 0, .int .u8 0, .int .u8 0, .int .u8 0, .int .u8 0, .int .u8 0, .int .u8 0, .int .u8 0, .int .u8 0, .int .u8 0, .int .u8 0, .int .u8 0] := rfl
theorem row_step (v i : Nat) (hi : i < 16) : (row v i).setIfInBounds i (.int .u8 ((hexDig (v / 16 ^ (15 - i) % 16)).toNat : Int)) = row v (i + 1) := by
  apply Array.ext
  · simp [row]
  · intro j h1 h2
    have hj : j < 16 := by simpa [row] using h2
    simp only [row, List.setIfInBounds_toArray, List.getElem_toArray, List.getElem_set, List.getElem_map, List.getElem_range]
    by_cases e : i = j
    · subst e; rw [if_pos rfl, if_pos (by omega)]
    · rw [if_neg e]
      by_cases hl : j < i
      · rw [if_pos hl, if_pos (by omega)]
      · rw [if_neg hl, if_neg (by omega)]
def digs (v : Nat) : List UInt8 := (List.range 16).map fun i => hexDig (v / 16 ^ (15 - i) % 16)
theorem row_end (v j : Nat) (h : j < (digs v).length) : (row v 16)[j]? = some (.int .u8 (((digs v)[j]).toNat : Int)) := by
  have hj : j < 16 := by simpa [digs] using h
  simp [row, digs, hj]
theorem hex_idx0 (w : World) : (Instr.index 9 (.string ⟨#[48, 49, 50, 51, 52, 53, 54, 55, 56, 57, 97, 98, 99, 100, 101, 102]⟩) (.int .u64 0)).run Tryd.prog w = .ok (.int .u8 48) w := by kernel_rfl
theorem hex_idx1 (w : World) : (Instr.index 9 (.string ⟨#[48, 49, 50, 51, 52, 53, 54, 55, 56, 57, 97, 98, 99, 100, 101, 102]⟩) (.int .u64 1)).run Tryd.prog w = .ok (.int .u8 49) w := by kernel_rfl
theorem hex_idx2 (w : World) : (Instr.index 9 (.string ⟨#[48, 49, 50, 51, 52, 53, 54, 55, 56, 57, 97, 98, 99, 100, 101, 102]⟩) (.int .u64 2)).run Tryd.prog w = .ok (.int .u8 50) w := by kernel_rfl
theorem hex_idx3 (w : World) : (Instr.index 9 (.string ⟨#[48, 49, 50, 51, 52, 53, 54, 55, 56, 57, 97, 98, 99, 100, 101, 102]⟩) (.int .u64 3)).run Tryd.prog w = .ok (.int .u8 51) w := by kernel_rfl
theorem hex_idx4 (w : World) : (Instr.index 9 (.string ⟨#[48, 49, 50, 51, 52, 53, 54, 55, 56, 57, 97, 98, 99, 100, 101, 102]⟩) (.int .u64 4)).run Tryd.prog w = .ok (.int .u8 52) w := by kernel_rfl
theorem hex_idx5 (w : World) : (Instr.index 9 (.string ⟨#[48, 49, 50, 51, 52, 53, 54, 55, 56, 57, 97, 98, 99, 100, 101, 102]⟩) (.int .u64 5)).run Tryd.prog w = .ok (.int .u8 53) w := by kernel_rfl
theorem hex_idx6 (w : World) : (Instr.index 9 (.string ⟨#[48, 49, 50, 51, 52, 53, 54, 55, 56, 57, 97, 98, 99, 100, 101, 102]⟩) (.int .u64 6)).run Tryd.prog w = .ok (.int .u8 54) w := by kernel_rfl
theorem hex_idx7 (w : World) : (Instr.index 9 (.string ⟨#[48, 49, 50, 51, 52, 53, 54, 55, 56, 57, 97, 98, 99, 100, 101, 102]⟩) (.int .u64 7)).run Tryd.prog w = .ok (.int .u8 55) w := by kernel_rfl
theorem hex_idx8 (w : World) : (Instr.index 9 (.string ⟨#[48, 49, 50, 51, 52, 53, 54, 55, 56, 57, 97, 98, 99, 100, 101, 102]⟩) (.int .u64 8)).run Tryd.prog w = .ok (.int .u8 56) w := by kernel_rfl
theorem hex_idx9 (w : World) : (Instr.index 9 (.string ⟨#[48, 49, 50, 51, 52, 53, 54, 55, 56, 57, 97, 98, 99, 100, 101, 102]⟩) (.int .u64 9)).run Tryd.prog w = .ok (.int .u8 57) w := by kernel_rfl
theorem hex_idx10 (w : World) : (Instr.index 9 (.string ⟨#[48, 49, 50, 51, 52, 53, 54, 55, 56, 57, 97, 98, 99, 100, 101, 102]⟩) (.int .u64 10)).run Tryd.prog w = .ok (.int .u8 97) w := by kernel_rfl
theorem hex_idx11 (w : World) : (Instr.index 9 (.string ⟨#[48, 49, 50, 51, 52, 53, 54, 55, 56, 57, 97, 98, 99, 100, 101, 102]⟩) (.int .u64 11)).run Tryd.prog w = .ok (.int .u8 98) w := by kernel_rfl
theorem hex_idx12 (w : World) : (Instr.index 9 (.string ⟨#[48, 49, 50, 51, 52, 53, 54, 55, 56, 57, 97, 98, 99, 100, 101, 102]⟩) (.int .u64 12)).run Tryd.prog w = .ok (.int .u8 99) w := by kernel_rfl
theorem hex_idx13 (w : World) : (Instr.index 9 (.string ⟨#[48, 49, 50, 51, 52, 53, 54, 55, 56, 57, 97, 98, 99, 100, 101, 102]⟩) (.int .u64 13)).run Tryd.prog w = .ok (.int .u8 100) w := by kernel_rfl
theorem hex_idx14 (w : World) : (Instr.index 9 (.string ⟨#[48, 49, 50, 51, 52, 53, 54, 55, 56, 57, 97, 98, 99, 100, 101, 102]⟩) (.int .u64 14)).run Tryd.prog w = .ok (.int .u8 101) w := by kernel_rfl
theorem hex_idx15 (w : World) : (Instr.index 9 (.string ⟨#[48, 49, 50, 51, 52, 53, 54, 55, 56, 57, 97, 98, 99, 100, 101, 102]⟩) (.int .u64 15)).run Tryd.prog w = .ok (.int .u8 102) w := by kernel_rfl
theorem hex_idx (d : Nat) (hd : d < 16) (w : World) : (Instr.index 9 (.string ⟨#[48, 49, 50, 51, 52, 53, 54, 55, 56, 57, 97, 98, 99, 100, 101, 102]⟩) (.int .u64 (d : Int))).run Tryd.prog w = .ok (.int .u8 ((hexDig d).toNat : Int)) w := by
  have hh : d = 0 ∨ d = 1 ∨ d = 2 ∨ d = 3 ∨ d = 4 ∨ d = 5 ∨ d = 6 ∨ d = 7 ∨ d = 8 ∨ d = 9 ∨ d = 10 ∨ d = 11 ∨ d = 12 ∨ d = 13 ∨ d = 14 ∨ d = 15 := by omega
  rcases hh with rfl | rfl | rfl | rfl | rfl | rfl | rfl | rfl | rfl | rfl | rfl | rfl | rfl | rfl | rfl | rfl
  · exact hex_idx0 w
  · exact hex_idx1 w
  · exact hex_idx2 w
  · exact hex_idx3 w
  · exact hex_idx4 w
  · exact hex_idx5 w
  · exact hex_idx6 w
  · exact hex_idx7 w
  · exact hex_idx8 w
  · exact hex_idx9 w
  · exact hex_idx10 w
  · exact hex_idx11 w
  · exact hex_idx12 w
  · exact hex_idx13 w
  · exact hex_idx14 w
  · exact hex_idx15 w
theorem and15 (a : Nat) (h : a < 18446744073709551616) : Go.bits .and .u64 (a : Int) 15 = ((a % 16 : Nat) : Int) := by
  have e0 : (2 : Nat) ^ IntKind.u64.bits = 18446744073709551616 := by decide
  have e : a % 18446744073709551616 &&& 15 % 18446744073709551616 = a % 16 := by
    rw [Nat.mod_eq_of_lt h]
    exact Nat.and_two_pow_sub_one_eq_mod a 4
  simp [Go.bits, e0, e]
  rw [wu64]
  omega
set_option maxHeartbeats 2000000 in
set_option maxRecDepth 100000 in
theorem hex_any (v : Nat) (hv : v < 18446744073709551616) (w : World) : Calls Tryd.prog 44 #[.int .u64 (v : Int)] w fun e w' => e = .returned (.string ⟨(digs v).toArray⟩) ∧ Below w.heap.size w w' := by
  have H0 := Lib.hid (rot_zero v hv)
  have HR := Lib.hid (fun i hi => rot_call v i hi hv)
  have HA := Lib.hid (fun i hi => rot_all v i hi hv)
  have HV := Lib.hid hv
  clear hv
  go_enter Tryd.func44, Tryd.ntmps44
  go_wp2
  have HN := Lib.hid (blk_new w (Obj.cells (row v 0) 125))
  have HB := Lib.hid (below_alloc (Below.refl w.heap.size w) (Obj.cells (row v 0) 125))
  rw [row_zero] at HN HB
  generalize w.alloc (Obj.cells #[.int .u8 0, .int .u8 0, .int .u8 0, .int .u8 0, .int .u8 0, .int .u8 0, .int .u8 0, .int .u8 0, .int .u8 0, .int .u8 0, .int .u8 0, .int .u8 0, .int .u8 0, .int .u8 0, .int .u8 0, .int .u8 0] 125) = w0 at *
  rw [← row_zero v] at HN
  have hb := Lib.hid (Nat.le_refl w.heap.size)
  obtain ⟨b, hbe⟩ : ∃ b, w.heap.size = b := ⟨_, rfl⟩
  rw [hbe] at HN HB hb ⊢
  have HBE := Lib.hid hbe
  clear hbe
  go_loopw [4, 7] (fun v4 v7 wr => ∃ i : Nat, i ≤ 16 ∧ v7 = .int .i64 (i : Int) ∧ v4 = .int .u64 (rot v i : Int) ∧ Aside0 (wr.heap[b]? = some (.cells (row v i) 125 (0, 0))) ∧ Aside0 (Below b w wr)) (fun _ v7 _ => 16 - (intOf v7).toNat)
  case atStart => exact ⟨0, by omega, rfl, by rw [H0.out], ⟨HN.out⟩, ⟨HB.out⟩⟩
  case round =>
    obtain ⟨i, hi, rfl, rfl, HNr, HBr⟩ := hrel
    by_cases hlt : i < 16
    · have hr := HR.out i hlt
      obtain ⟨h1, h2, h3⟩ := HA.out i hlt
      have hrlt : rot v (i + 1) < 18446744073709551616 := by rw [h2]; omega
      have hx := fun W => hex_idx (v / 16 ^ (15 - i) % 16) (Nat.mod_lt _ (by decide)) W
      have ha : Go.bits .and .u64 (rot v (i + 1) : Int) 15 = ((v / 16 ^ (15 - i) % 16 : Nat) : Int) := by rw [and15 _ hrlt, h3]
      have HS := Lib.hid (row_step v i hlt)
      have hc : wr.cell? ⟨b, i, none⟩ = some (.int .u8 0) := (blk_cell HNr.out i).trans (by simp [row, hlt])
      have hf := blk_frozen HNr.out i
      clear h1 h2 h3 hrlt
      generalize v / 16 ^ (15 - i) % 16 = d at *
      obtain ⟨r1, hr1⟩ : ∃ r, rot v (i + 1) = r := ⟨_, rfl⟩
      have HR1 := Lib.hid hr1
      rw [hr1] at hr ha
      clear hr1
      generalize rot v i = r0 at *
      have CR := fun W => bits_RotateLeft64.calls (r0 : Int) 4 _ W hr
      clear hr
      go_wp2_with (go_at_call 78; (with_reducible refine (CR _).mono ?_); rintro e_ w1 ⟨rfl, ⟨nd, rfl⟩⟩)
      go_roundw
      case rel => exact ⟨i + 1, by omega, by go_num, by rw [HR1.out], ⟨blk_put (blk_drewN HNr.out _) i _ HS.out⟩, ⟨(pw_below_drewN HBr.out _).setCell (Nat.le_refl _) _⟩⟩
      case measure => simp [intOf]; omega
    · obtain rfl : i = 16 := by omega
      clear HR HA H0 hlt
      have hsl : ∀ W, (Instr.sliceAt 125 (.pointer (some ⟨b, 0, none⟩)) none none none).run Tryd.prog W = .ok (.slice (some ⟨b, 0, none⟩) 16 16) W := fun W => by
        rw [run_sliceAt_array_all W 125 ⟨b, 0, none⟩ Tryd.underlying125]
        go_simp
      have hdl : (digs v).length = 16 := by simp [digs]
      have hcv : (convert 127 9 (.slice (some ⟨b, 0, none⟩) 16 16)).run Tryd.prog wr = .ok (.string ⟨(digs v).toArray⟩) wr := by
        have h := run_convert_bytes_back (P := Tryd.prog) wr 127 9 5 ⟨b, 0, none⟩ 16 (digs v) Tryd.underlying127 Tryd.underlying5 Tryd.underlying9 (fun j hj => by
          have e2 : (⟨b, 0, none⟩ : Addr).add j = ⟨b, j, none⟩ := by
            simp only [Addr.add]
            by_cases h : j = 0
            · subst h; rfl
            · rw [if_neg h, Nat.zero_add]
          rw [e2, blk_cell HNr.out j]
          exact row_end v j hj)
        rw [hdl] at h
        exact h
      have HS : Hid ((digs v).length ≤ 100) := Lib.hid (by omega)
      clear hdl
      obtain ⟨D, hD⟩ : ∃ D, digs v = D := ⟨_, rfl⟩
      rw [hD] at hcv HS
      have HD := Lib.hid hD
      clear hD
      go_wp2
      go_ret
      exact ⟨by rw [HD.out]; rfl, by rw [HBE.out]; exact HBr.out⟩
end Hx
end Go.Proofs.YtfgfoofojofnmaaDoor.Q
