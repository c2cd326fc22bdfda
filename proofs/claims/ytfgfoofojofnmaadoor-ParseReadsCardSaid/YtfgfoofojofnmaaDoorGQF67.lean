import Derived.Test.YtfgfoofojofnmaaDoorGQ0
import Derived.Test.YtfgfoofojofnmaaDoorGQF73
import Derived.Test.YtfgfoofojofnmaaDoorGQF91
import Derived.Test.YtfgfoofojofnmaaDoorGQF74
set_option linter.unusedVariables false
set_option linter.unusedSimpArgs false
-- Written by a program of this session's (wip/tools/hprint.py, over the kit's print.py). Not trusted: Lean checks it.
namespace Go.Proofs.YtfgfoofojofnmaaDoor.Q
open Go.RowKit Go.Proofs.YtfgfoofojofnmaaDoorW.PrintWords Go.Proofs.YtfgfoofojofnmaaDoorW.PrintLast Go.Proofs.YtfgfoofojofnmaaDoorW.PrintMore
attribute [local go_sem] Go.Proofs.YtfgfoofojofnmaaDoor.Hand.w64_mod256 Go.Proofs.YtfgfoofojofnmaaDoor.Hand.w64_mod32 max2_int min2_int max_two min_two max_three min_three max_four min_four   -- for this text's walks alone
set_option linter.unusedVariables false
set_option linter.unusedSimpArgs false

/-! ### lex_run: function 67 -/
open Go.Proofs.YtfgfoofojofnmaaDoor.Hand
/-- What a byte that is a sign by itself is. -/
def signB (c : UInt8) : Bool := decide ((0 : Int) ≤ Lib.indexByte [40, 41, 44, 124, 38, 45, 33, 94] c)
/-- The first name, number, text, hash or sign of a text that begins with c, and how many bytes it has. -/
def lex_one.g (s : ByteArray) (c : UInt8) : Option (Int × ByteArray × Int × Int × Int × Int) :=
  if smallB c = true then
    if headN nameB s.data.toList ≤ 16 then some (1, s.extract 0 (headN nameB s.data.toList), 0, 0, 0, (headN nameB s.data.toList : Int)) else some (0, ⟨#[]⟩, 0, 0, 0, 0)
  else if digitB c = true then
    if headN digitB s.data.toList = 1 ∨ (headN digitB s.data.toList ≤ 9 ∧ c ≠ 48) then (Lib.atoi (s.extract 0 (headN digitB s.data.toList)).data.toList).bind fun v => some (2, ⟨#[]⟩, v, 0, 0, (headN digitB s.data.toList : Int)) else some (0, ⟨#[]⟩, 0, 0, 0, 0)
  else if c = 39 then
    if 0 ≤ Lib.indexByte (s.extract 1 s.size).data.toList 39 then
      if 0 ≤ Lib.indexByte ((s.extract 1 s.size).extract 0 (Lib.indexByte (s.extract 1 s.size).data.toList 39).toNat).data.toList 10 then some (0, ⟨#[]⟩, 0, 0, 0, 0)
      else some (3, (s.extract 1 s.size).extract 0 (Lib.indexByte (s.extract 1 s.size).data.toList 39).toNat, 0, 0, 0, (((s.extract 1 s.size).extract 0 (Lib.indexByte (s.extract 1 s.size).data.toList 39).toNat).size : Int) + 2)
    else some (0, ⟨#[]⟩, 0, 0, 0, 0)
  else if c = 35 ∧ 16 < s.size then
    (sum_Parse.f 60 (s.extract 1 17)).bind fun t => if t.2 = 0 then some (4, ⟨#[]⟩, 0, t.1, 0, 17) else some (0, ⟨#[]⟩, 0, 0, 0, 0)
  else (strings_HasPrefix.f s ⟨#[46, 46]⟩).bind fun a => if a = true then some (5, s.extract 0 2, 0, 0, 0, 2) else
    (strings_HasPrefix.f s ⟨#[58, 58]⟩).bind fun b => if b = true then some (5, s.extract 0 2, 0, 0, 0, 2) else
      if signB c = true then some (5, s.extract 0 1, 0, 0, 0, 1) else some (0, ⟨#[]⟩, 0, 0, 0, 0)
def lex_one.f (a0 : ByteArray) : Option (Int × ByteArray × Int × Int × Int × Int) :=
  if a0.size ≤ 140737488351232 then if h : 0 < a0.size then lex_one.g a0 a0[0] else none else none

def one_post (w : World) (r1 : Int) (r2 : ByteArray) (r3 r4 r5 r6 : Int) : Ending → World → Prop := fun e w' => e = .returned (.tuple #[.agg #[.int .i64 r1, .string r2, .int .i64 r3, .int .u64 r4, .int .i64 r5], .int .i64 r6]) ∧ Below w.heap.size w w'

set_option maxHeartbeats 1000000 in
set_option maxRecDepth 100000 in
theorem one_small (s : ByteArray) (w : World) (hs : s.size ≤ 140737488351232) (h0 : 0 < s.size) (hc : smallB s[0] = true) (hn : headN nameB s.data.toList ≤ 16) :
    Calls Tryd.prog 38 #[.string s] w (one_post w 1 (s.extract 0 (headN nameB s.data.toList)) 0 0 0 (headN nameB s.data.toList : Int)) := by
  have C := fun W => small_any s[0] W
  simp only [hc] at C
  have R := fun W => run_name s W hs
  have hm := headN_le nameB s.data.toList
  have hl : s.data.toList.length = s.size := by simp
  rw [hl] at hm
  clear hl hc
  generalize headN nameB s.data.toList = n at *
  go_enter Tryd.func38, Tryd.ntmps38
  go_wp2_with (first | (go_at_call 66; (with_reducible refine (C _).mono ?_); rintro e w' ⟨rfl, ⟨nd, rfl⟩⟩) | (go_at_call 67; (with_reducible refine (R _).mono ?_); rintro e w' ⟨rfl, ⟨ne, rfl⟩⟩))
  exact bodyPost_ret (v := .tuple #[.agg #[.int .i64 1, .string (s.extract 0 n), .int .i64 0, .int .u64 0, .int .i64 0], .int .i64 n]) (by simp [results, Tryd.results38, go_sem]) rfl ⟨rfl, by repeat (first | exact Below.refl _ _ | refine Below.setCell ?_ (by simp) _ | refine pw_below_drewN ?_ _ | refine below_drew1 ?_ | refine below_alloc ?_ _)⟩
set_option maxHeartbeats 1000000 in
set_option maxRecDepth 100000 in
theorem one_small_no (s : ByteArray) (w : World) (hs : s.size ≤ 140737488351232) (h0 : 0 < s.size) (hc : smallB s[0] = true) (hn : ¬ headN nameB s.data.toList ≤ 16) :
    Calls Tryd.prog 38 #[.string s] w (one_post w 0 ⟨#[]⟩ 0 0 0 0) := by
  have C := fun W => small_any s[0] W
  simp only [hc] at C
  have R := fun W => run_name s W hs
  have hm := headN_le nameB s.data.toList
  have hl : s.data.toList.length = s.size := by simp
  rw [hl] at hm
  clear hl hc
  generalize headN nameB s.data.toList = n at *
  go_enter Tryd.func38, Tryd.ntmps38
  go_wp2_with (first | (go_at_call 66; (with_reducible refine (C _).mono ?_); rintro e w' ⟨rfl, ⟨nd, rfl⟩⟩) | (go_at_call 67; (with_reducible refine (R _).mono ?_); rintro e w' ⟨rfl, ⟨ne, rfl⟩⟩))
  exact bodyPost_ret (v := .tuple #[.agg #[.int .i64 0, .string ⟨#[]⟩, .int .i64 0, .int .u64 0, .int .i64 0], .int .i64 0]) (by simp [results, Tryd.results38, go_sem]) rfl ⟨rfl, by repeat (first | exact Below.refl _ _ | refine Below.setCell ?_ (by simp) _ | refine pw_below_drewN ?_ _ | refine below_drew1 ?_ | refine below_alloc ?_ _)⟩
theorem five_cells {w1 : World} {b : Nat} {u0 u1 u2 u3 u4 : Value} (a0 a1 a2 a3 a4 : Value) (z0 : w1.cell? ⟨b, 0, none⟩ = some u0) (z1 : w1.cell? ⟨b, 1, none⟩ = some u1) (z2 : w1.cell? ⟨b, 2, none⟩ = some u2) (z3 : w1.cell? ⟨b, 3, none⟩ = some u3) (z4 : w1.cell? ⟨b, 4, none⟩ = some u4) :
    (((((w1.setCell ⟨b, 0, none⟩ a0).setCell ⟨b, 1, none⟩ a1).setCell ⟨b, 2, none⟩ a2).setCell ⟨b, 3, none⟩ a3).setCell ⟨b, 4, none⟩ a4).cell? ⟨b, 0, none⟩ = some a0 ∧
    (((((w1.setCell ⟨b, 0, none⟩ a0).setCell ⟨b, 1, none⟩ a1).setCell ⟨b, 2, none⟩ a2).setCell ⟨b, 3, none⟩ a3).setCell ⟨b, 4, none⟩ a4).cell? ⟨b, 1, none⟩ = some a1 ∧
    (((((w1.setCell ⟨b, 0, none⟩ a0).setCell ⟨b, 1, none⟩ a1).setCell ⟨b, 2, none⟩ a2).setCell ⟨b, 3, none⟩ a3).setCell ⟨b, 4, none⟩ a4).cell? ⟨b, 2, none⟩ = some a2 ∧
    (((((w1.setCell ⟨b, 0, none⟩ a0).setCell ⟨b, 1, none⟩ a1).setCell ⟨b, 2, none⟩ a2).setCell ⟨b, 3, none⟩ a3).setCell ⟨b, 4, none⟩ a4).cell? ⟨b, 3, none⟩ = some a3 ∧
    (((((w1.setCell ⟨b, 0, none⟩ a0).setCell ⟨b, 1, none⟩ a1).setCell ⟨b, 2, none⟩ a2).setCell ⟨b, 3, none⟩ a3).setCell ⟨b, 4, none⟩ a4).cell? ⟨b, 4, none⟩ = some a4 := by
  have o : ∀ {i j : Nat} (W : World) (v : Value), i ≠ j → (W.setCell ⟨b, i, none⟩ v).cell? ⟨b, j, none⟩ = W.cell? ⟨b, j, none⟩ := fun W v h => World.cell?_setCell_other _ _ _ _ (by intro e; injection e with _ e2; exact h e2)
  refine ⟨?_, ?_, ?_, ?_, ?_⟩
  · rw [o _ _ (by decide), o _ _ (by decide), o _ _ (by decide), o _ _ (by decide)]; exact World.cell?_setCell_same _ _ _ z0
  · rw [o _ _ (by decide), o _ _ (by decide), o _ _ (by decide)]; exact World.cell?_setCell_same _ _ _ (u := u1) (by rw [o _ _ (by decide)]; exact z1)
  · rw [o _ _ (by decide), o _ _ (by decide)]; exact World.cell?_setCell_same _ _ _ (u := u2) (by rw [o _ _ (by decide), o _ _ (by decide)]; exact z2)
  · rw [o _ _ (by decide)]; exact World.cell?_setCell_same _ _ _ (u := u3) (by rw [o _ _ (by decide), o _ _ (by decide), o _ _ (by decide)]; exact z3)
  · exact World.cell?_setCell_same _ _ _ (u := u4) (by rw [o _ _ (by decide), o _ _ (by decide), o _ _ (by decide), o _ _ (by decide)]; exact z4)
theorem pre_two (s : ByteArray) (a b : UInt8) (h : strings_HasPrefix.f s ⟨#[a, b]⟩ = some true) : 2 ≤ s.size := by
  simp only [strings_HasPrefix.f, stringslite_HasPrefix.f] at h
  by_cases h2 : 2 ≤ s.size
  · exact h2
  · rw [if_neg (by show ¬ ((s.size : Int) ≥ 2); omega)] at h
    simp at h
theorem atoi_any (s : ByteArray) (n : Int) (hs : s.size ≤ 18) (h : Lib.atoi s.data.toList = some n) (w : World) :
    Calls Tryd.prog 70 #[.string s] w fun e w' => e = .returned (.tuple #[.int .i64 n, .nilIface]) ∧ Below w.heap.size w w' :=
  (Tryd.strconv_Atoi s n hs h w).mono fun e w' ⟨he, t, hw⟩ => ⟨he, hw ▸ Lib.bytesWorld_below w 5 t⟩
set_option maxHeartbeats 1000000 in
set_option maxRecDepth 100000 in
theorem one_digit1 (s : ByteArray) (w : World) (hs : s.size ≤ 140737488351232) (h0 : 0 < s.size) (hc : smallB s[0] = false) (hd : digitB s[0] = true) (hn : headN digitB s.data.toList = 1) (v : Int) (hv : Lib.atoi (s.extract 0 (headN digitB s.data.toList)).data.toList = some v) :
    Calls Tryd.prog 38 #[.string s] w (one_post w 2 ⟨#[]⟩ v 0 0 (headN digitB s.data.toList : Int)) := by
  have C := fun W => small_any s[0] W
  simp only [hc] at C
  have D := fun W => digit_any s[0] W
  simp only [hd] at D
  have R := fun W => run_digit s W hs
  have hm := headN_le digitB s.data.toList
  have hl : s.data.toList.length = s.size := by simp
  rw [hl] at hm
  clear hl hc hd
  have A := fun W => atoi_any (s.extract 0 (headN digitB s.data.toList)) v (by simp; omega) hv W
  clear hv
  generalize headN digitB s.data.toList = n at *
  have hn1 : ((n : Int) == 1) = true := beq_iff_eq.2 (by omega)
  clear hn
  go_enter Tryd.func38, Tryd.ntmps38
  go_wp2_with (first | (go_at_call 66; (with_reducible refine (C _).mono ?_); rintro e w' ⟨rfl, ⟨nd, rfl⟩⟩) | (go_at_call 69; (with_reducible refine (D _).mono ?_); rintro e w' ⟨rfl, ⟨nf, rfl⟩⟩) | (go_at_call 67; (with_reducible refine (R _).mono ?_); rintro e w' ⟨rfl, ⟨ne, rfl⟩⟩) | (go_at_call 70; (with_reducible refine (A _).mono ?_); rintro e w1 ⟨rfl, hb⟩; have z0 : w1.cell? ⟨w.heap.size, 0, none⟩ = some (.int .i64 0) := (by rw [hb.cell (by simp)]; simp); have z1 : w1.cell? ⟨w.heap.size, 1, none⟩ = some (.string ⟨#[]⟩) := (by rw [hb.cell (by simp)]; simp); have z2 : w1.cell? ⟨w.heap.size, 2, none⟩ = some (.int .i64 0) := (by rw [hb.cell (by simp)]; simp); have z3 : w1.cell? ⟨w.heap.size, 3, none⟩ = some (.int .u64 0) := (by rw [hb.cell (by simp)]; simp); have z4 : w1.cell? ⟨w.heap.size, 4, none⟩ = some (.int .i64 0) := (by rw [hb.cell (by simp)]; simp); have f0 : w1.frozen? ⟨w.heap.size, 0, none⟩ = false := (by rw [hb.frozen (by simp)]; simp); have f1 : w1.frozen? ⟨w.heap.size, 1, none⟩ = false := (by rw [hb.frozen (by simp)]; simp); have f2 : w1.frozen? ⟨w.heap.size, 2, none⟩ = false := (by rw [hb.frozen (by simp)]; simp); have f3 : w1.frozen? ⟨w.heap.size, 3, none⟩ = false := (by rw [hb.frozen (by simp)]; simp); have f4 : w1.frozen? ⟨w.heap.size, 4, none⟩ = false := (by rw [hb.frozen (by simp)]; simp); have hz : w.heap.size < w1.heap.size := (by have := hb.size; simp at this; omega); have HB := Lib.hid (Below.trans (Below.alloc (Below.refl w.heap.size w) (Nat.le_refl _) _) (Below.trans (pw_below_drewN (Below.refl _ _) _) (hb.mono (by simp)))); clear hb))
  obtain ⟨y0, y1, y2, y3, y4⟩ := five_cells (.int .i64 2) (.string ⟨#[]⟩) (.int .i64 v) (.int .u64 0) (.int .i64 0) z0 z1 z2 z3 z4
  exact bodyPost_ret (v := .tuple #[.agg #[.int .i64 2, .string ⟨#[]⟩, .int .i64 v, .int .u64 0, .int .i64 0], .int .i64 n]) (by simp [results, Tryd.results38, go_sem, y0, y1, y2, y3, y4]) rfl ⟨rfl, by repeat (first | exact HB.out | refine Below.setCell ?_ (by simp) _ | refine pw_below_drewN ?_ _ | refine below_drew1 ?_ | refine below_alloc ?_ _)⟩
set_option maxHeartbeats 1000000 in
set_option maxRecDepth 100000 in
theorem one_digit9 (s : ByteArray) (w : World) (hs : s.size ≤ 140737488351232) (h0 : 0 < s.size) (hc : smallB s[0] = false) (hd : digitB s[0] = true) (hn : headN digitB s.data.toList ≠ 1) (hn9 : headN digitB s.data.toList ≤ 9) (hc0 : s[0] ≠ 48) (v : Int) (hv : Lib.atoi (s.extract 0 (headN digitB s.data.toList)).data.toList = some v) :
    Calls Tryd.prog 38 #[.string s] w (one_post w 2 ⟨#[]⟩ v 0 0 (headN digitB s.data.toList : Int)) := by
  have C := fun W => small_any s[0] W
  simp only [hc] at C
  have D := fun W => digit_any s[0] W
  simp only [hd] at D
  have R := fun W => run_digit s W hs
  have hm := headN_le digitB s.data.toList
  have hl : s.data.toList.length = s.size := by simp
  rw [hl] at hm
  clear hl hc hd
  have A := fun W => atoi_any (s.extract 0 (headN digitB s.data.toList)) v (by simp; omega) hv W
  clear hv
  generalize headN digitB s.data.toList = n at *
  have hn1 : ((n : Int) == 1) = false := beq_eq_false_iff_ne.2 (by omega)
  have hn2 : decide ((n : Int) ≤ 9) = true := decide_eq_true (by omega)
  have hc1 : ((s[0].toNat : Int) != 48) = true := by rw [bne_iff_ne]; intro h; exact hc0 (UInt8.toNat_inj.1 (by simpa using (show s[0].toNat = 48 by omega)))
  clear hn hn9 hc0
  go_enter Tryd.func38, Tryd.ntmps38
  go_wp2_with (first | (go_at_call 66; (with_reducible refine (C _).mono ?_); rintro e w' ⟨rfl, ⟨nd, rfl⟩⟩) | (go_at_call 69; (with_reducible refine (D _).mono ?_); rintro e w' ⟨rfl, ⟨nf, rfl⟩⟩) | (go_at_call 67; (with_reducible refine (R _).mono ?_); rintro e w' ⟨rfl, ⟨ne, rfl⟩⟩) | (go_at_call 70; (with_reducible refine (A _).mono ?_); rintro e w1 ⟨rfl, hb⟩; have z0 : w1.cell? ⟨w.heap.size, 0, none⟩ = some (.int .i64 0) := (by rw [hb.cell (by simp)]; simp); have z1 : w1.cell? ⟨w.heap.size, 1, none⟩ = some (.string ⟨#[]⟩) := (by rw [hb.cell (by simp)]; simp); have z2 : w1.cell? ⟨w.heap.size, 2, none⟩ = some (.int .i64 0) := (by rw [hb.cell (by simp)]; simp); have z3 : w1.cell? ⟨w.heap.size, 3, none⟩ = some (.int .u64 0) := (by rw [hb.cell (by simp)]; simp); have z4 : w1.cell? ⟨w.heap.size, 4, none⟩ = some (.int .i64 0) := (by rw [hb.cell (by simp)]; simp); have f0 : w1.frozen? ⟨w.heap.size, 0, none⟩ = false := (by rw [hb.frozen (by simp)]; simp); have f1 : w1.frozen? ⟨w.heap.size, 1, none⟩ = false := (by rw [hb.frozen (by simp)]; simp); have f2 : w1.frozen? ⟨w.heap.size, 2, none⟩ = false := (by rw [hb.frozen (by simp)]; simp); have f3 : w1.frozen? ⟨w.heap.size, 3, none⟩ = false := (by rw [hb.frozen (by simp)]; simp); have f4 : w1.frozen? ⟨w.heap.size, 4, none⟩ = false := (by rw [hb.frozen (by simp)]; simp); have hz : w.heap.size < w1.heap.size := (by have := hb.size; simp at this; omega); have HB := Lib.hid (Below.trans (Below.alloc (Below.refl w.heap.size w) (Nat.le_refl _) _) (Below.trans (pw_below_drewN (Below.refl _ _) _) (hb.mono (by simp)))); clear hb))
  obtain ⟨y0, y1, y2, y3, y4⟩ := five_cells (.int .i64 2) (.string ⟨#[]⟩) (.int .i64 v) (.int .u64 0) (.int .i64 0) z0 z1 z2 z3 z4
  exact bodyPost_ret (v := .tuple #[.agg #[.int .i64 2, .string ⟨#[]⟩, .int .i64 v, .int .u64 0, .int .i64 0], .int .i64 n]) (by simp [results, Tryd.results38, go_sem, y0, y1, y2, y3, y4]) rfl ⟨rfl, by repeat (first | exact HB.out | refine Below.setCell ?_ (by simp) _ | refine pw_below_drewN ?_ _ | refine below_drew1 ?_ | refine below_alloc ?_ _)⟩
set_option maxHeartbeats 1000000 in
set_option maxRecDepth 100000 in
theorem one_digit_long (s : ByteArray) (w : World) (hs : s.size ≤ 140737488351232) (h0 : 0 < s.size) (hc : smallB s[0] = false) (hd : digitB s[0] = true) (hn9 : ¬ headN digitB s.data.toList ≤ 9) :
    Calls Tryd.prog 38 #[.string s] w (one_post w 0 ⟨#[]⟩ 0 0 0 0) := by
  have C := fun W => small_any s[0] W
  simp only [hc] at C
  have D := fun W => digit_any s[0] W
  simp only [hd] at D
  have R := fun W => run_digit s W hs
  have hm := headN_le digitB s.data.toList
  have hl : s.data.toList.length = s.size := by simp
  rw [hl] at hm
  clear hl hc hd
  generalize headN digitB s.data.toList = n at *
  have hn1 : ((n : Int) == 1) = false := beq_eq_false_iff_ne.2 (by omega)
  have hn2 : decide ((n : Int) ≤ 9) = false := decide_eq_false (by omega)
  go_enter Tryd.func38, Tryd.ntmps38
  go_wp2_with (first | (go_at_call 66; (with_reducible refine (C _).mono ?_); rintro e w' ⟨rfl, ⟨nd, rfl⟩⟩) | (go_at_call 69; (with_reducible refine (D _).mono ?_); rintro e w' ⟨rfl, ⟨nf, rfl⟩⟩) | (go_at_call 67; (with_reducible refine (R _).mono ?_); rintro e w' ⟨rfl, ⟨ne, rfl⟩⟩))
  exact bodyPost_ret (v := .tuple #[.agg #[.int .i64 0, .string ⟨#[]⟩, .int .i64 0, .int .u64 0, .int .i64 0], .int .i64 0]) (by simp [results, Tryd.results38, go_sem]) rfl ⟨rfl, by repeat (first | exact Below.refl _ _ | refine Below.setCell ?_ (by simp) _ | refine pw_below_drewN ?_ _ | refine below_drew1 ?_ | refine below_alloc ?_ _)⟩
set_option maxHeartbeats 1000000 in
set_option maxRecDepth 100000 in
theorem one_digit_zero (s : ByteArray) (w : World) (hs : s.size ≤ 140737488351232) (h0 : 0 < s.size) (hc : smallB s[0] = false) (hd : digitB s[0] = true) (hn : headN digitB s.data.toList ≠ 1) (hn9 : headN digitB s.data.toList ≤ 9) (hc0 : s[0] = 48) :
    Calls Tryd.prog 38 #[.string s] w (one_post w 0 ⟨#[]⟩ 0 0 0 0) := by
  have C := fun W => small_any s[0] W
  simp only [hc] at C
  have D := fun W => digit_any s[0] W
  simp only [hd] at D
  have R := fun W => run_digit s W hs
  have hm := headN_le digitB s.data.toList
  have hl : s.data.toList.length = s.size := by simp
  rw [hl] at hm
  clear hl hc hd
  generalize headN digitB s.data.toList = n at *
  have hn1 : ((n : Int) == 1) = false := beq_eq_false_iff_ne.2 (by omega)
  have hn2 : decide ((n : Int) ≤ 9) = true := decide_eq_true (by omega)
  have hc1 : ((s[0].toNat : Int) != 48) = false := by rw [hc0]; rfl
  clear hn hn9 hc0
  go_enter Tryd.func38, Tryd.ntmps38
  go_wp2_with (first | (go_at_call 66; (with_reducible refine (C _).mono ?_); rintro e w' ⟨rfl, ⟨nd, rfl⟩⟩) | (go_at_call 69; (with_reducible refine (D _).mono ?_); rintro e w' ⟨rfl, ⟨nf, rfl⟩⟩) | (go_at_call 67; (with_reducible refine (R _).mono ?_); rintro e w' ⟨rfl, ⟨ne, rfl⟩⟩))
  exact bodyPost_ret (v := .tuple #[.agg #[.int .i64 0, .string ⟨#[]⟩, .int .i64 0, .int .u64 0, .int .i64 0], .int .i64 0]) (by simp [results, Tryd.results38, go_sem]) rfl ⟨rfl, by repeat (first | exact Below.refl _ _ | refine Below.setCell ?_ (by simp) _ | refine pw_below_drewN ?_ _ | refine below_drew1 ?_ | refine below_alloc ?_ _)⟩
set_option maxHeartbeats 1000000 in
set_option maxRecDepth 100000 in
theorem one_quote_no (s : ByteArray) (w : World) (hs : s.size ≤ 140737488351232) (h0 : 0 < s.size) (hc : smallB s[0] = false) (hd : digitB s[0] = false) (hq : s[0] = 39) (hk : ¬ 0 ≤ Lib.indexByte (s.extract 1 s.size).data.toList 39) :
    Calls Tryd.prog 38 #[.string s] w (one_post w 0 ⟨#[]⟩ 0 0 0 0) := by
  have C := fun W => small_any s[0] W
  simp only [hc] at C
  have D := fun W => digit_any s[0] W
  simp only [hd] at D
  clear hc hd
  have q39 : ((s[0].toNat : Int) == 39) = true := by rw [hq]; rfl
  have h1 : decide (1 ≤ s.size) = true := decide_eq_true h0
  have K := fun W => cut_one (s.extract 1 s.size) 39 W (by simp; omega)
  simp only [if_neg hk] at K
  clear hk
  clear hq
  go_enter Tryd.func38, Tryd.ntmps38
  go_wp2_with (first | (go_at_call 66; (with_reducible refine (C _).mono ?_); rintro e w' ⟨rfl, ⟨nd, rfl⟩⟩) | (go_at_call 69; (with_reducible refine (D _).mono ?_); rintro e w' ⟨rfl, ⟨nf, rfl⟩⟩) | (go_at_call 71; (with_reducible refine (K _).mono ?_); rintro e w' ⟨rfl, ⟨ng, rfl⟩⟩) | (go_at_call 72; (with_reducible refine (T _).mono ?_); rintro e w' ⟨rfl, rfl⟩))
  exact bodyPost_ret (v := .tuple #[.agg #[.int .i64 0, .string ⟨#[]⟩, .int .i64 0, .int .u64 0, .int .i64 0], .int .i64 0]) (by simp [results, Tryd.results38, go_sem]) rfl ⟨rfl, by repeat (first | exact Below.refl _ _ | refine Below.setCell ?_ (by simp) _ | refine pw_below_drewN ?_ _ | refine below_drew1 ?_ | refine below_alloc ?_ _)⟩
set_option maxHeartbeats 1000000 in
set_option maxRecDepth 100000 in
theorem one_quote_line (s : ByteArray) (w : World) (hs : s.size ≤ 140737488351232) (h0 : 0 < s.size) (hc : smallB s[0] = false) (hd : digitB s[0] = false) (hq : s[0] = 39) (hk : 0 ≤ Lib.indexByte (s.extract 1 s.size).data.toList 39) (hl : 0 ≤ Lib.indexByte ((s.extract 1 s.size).extract 0 (Lib.indexByte (s.extract 1 s.size).data.toList 39).toNat).data.toList 10) :
    Calls Tryd.prog 38 #[.string s] w (one_post w 0 ⟨#[]⟩ 0 0 0 0) := by
  have C := fun W => small_any s[0] W
  simp only [hc] at C
  have D := fun W => digit_any s[0] W
  simp only [hd] at D
  clear hc hd
  have q39 : ((s[0].toNat : Int) == 39) = true := by rw [hq]; rfl
  have h1 : decide (1 ≤ s.size) = true := decide_eq_true h0
  have K := fun W => cut_one (s.extract 1 s.size) 39 W (by simp; omega)
  simp only [if_pos hk] at K
  have T := fun W => Tryd.strings_Contains_one ((s.extract 1 s.size).extract 0 (Lib.indexByte (s.extract 1 s.size).data.toList 39).toNat) 10 W
  simp only [hl, decide_true] at T
  generalize (s.extract 1 s.size).extract 0 (Lib.indexByte (s.extract 1 s.size).data.toList 39).toNat = b at *
  generalize (s.extract 1 s.size).extract ((Lib.indexByte (s.extract 1 s.size).data.toList 39).toNat + 1) (s.extract 1 s.size).size = b2 at *
  clear hk hl
  clear hq
  go_enter Tryd.func38, Tryd.ntmps38
  go_wp2_with (first | (go_at_call 66; (with_reducible refine (C _).mono ?_); rintro e w' ⟨rfl, ⟨nd, rfl⟩⟩) | (go_at_call 69; (with_reducible refine (D _).mono ?_); rintro e w' ⟨rfl, ⟨nf, rfl⟩⟩) | (go_at_call 71; (with_reducible refine (K _).mono ?_); rintro e w' ⟨rfl, ⟨ng, rfl⟩⟩) | (go_at_call 72; (with_reducible refine (T _).mono ?_); rintro e w' ⟨rfl, rfl⟩))
  exact bodyPost_ret (v := .tuple #[.agg #[.int .i64 0, .string ⟨#[]⟩, .int .i64 0, .int .u64 0, .int .i64 0], .int .i64 0]) (by simp [results, Tryd.results38, go_sem]) rfl ⟨rfl, by repeat (first | exact Below.refl _ _ | refine Below.setCell ?_ (by simp) _ | refine pw_below_drewN ?_ _ | refine below_drew1 ?_ | refine below_alloc ?_ _)⟩
set_option maxHeartbeats 1000000 in
set_option maxRecDepth 100000 in
theorem one_quote (s : ByteArray) (w : World) (hs : s.size ≤ 140737488351232) (h0 : 0 < s.size) (hc : smallB s[0] = false) (hd : digitB s[0] = false) (hq : s[0] = 39) (hk : 0 ≤ Lib.indexByte (s.extract 1 s.size).data.toList 39) (hl : ¬ 0 ≤ Lib.indexByte ((s.extract 1 s.size).extract 0 (Lib.indexByte (s.extract 1 s.size).data.toList 39).toNat).data.toList 10) :
    Calls Tryd.prog 38 #[.string s] w (one_post w 3 ((s.extract 1 s.size).extract 0 (Lib.indexByte (s.extract 1 s.size).data.toList 39).toNat) 0 0 0 (((s.extract 1 s.size).extract 0 (Lib.indexByte (s.extract 1 s.size).data.toList 39).toNat).size + 2 : Int)) := by
  have C := fun W => small_any s[0] W
  simp only [hc] at C
  have D := fun W => digit_any s[0] W
  simp only [hd] at D
  clear hc hd
  have q39 : ((s[0].toNat : Int) == 39) = true := by rw [hq]; rfl
  have h1 : decide (1 ≤ s.size) = true := decide_eq_true h0
  have K := fun W => cut_one (s.extract 1 s.size) 39 W (by simp; omega)
  simp only [if_pos hk] at K
  have T := fun W => Tryd.strings_Contains_one ((s.extract 1 s.size).extract 0 (Lib.indexByte (s.extract 1 s.size).data.toList 39).toNat) 10 W
  simp only [hl, decide_false] at T
  have hb : ((s.extract 1 s.size).extract 0 (Lib.indexByte (s.extract 1 s.size).data.toList 39).toNat).size ≤ 140737488351232 := by simp; omega
  generalize (s.extract 1 s.size).extract 0 (Lib.indexByte (s.extract 1 s.size).data.toList 39).toNat = b at *
  generalize (s.extract 1 s.size).extract ((Lib.indexByte (s.extract 1 s.size).data.toList 39).toNat + 1) (s.extract 1 s.size).size = b2 at *
  clear hk hl
  clear hq
  go_enter Tryd.func38, Tryd.ntmps38
  go_wp2_with (first | (go_at_call 66; (with_reducible refine (C _).mono ?_); rintro e w' ⟨rfl, ⟨nd, rfl⟩⟩) | (go_at_call 69; (with_reducible refine (D _).mono ?_); rintro e w' ⟨rfl, ⟨nf, rfl⟩⟩) | (go_at_call 71; (with_reducible refine (K _).mono ?_); rintro e w' ⟨rfl, ⟨ng, rfl⟩⟩) | (go_at_call 72; (with_reducible refine (T _).mono ?_); rintro e w' ⟨rfl, rfl⟩))
  exact bodyPost_ret (v := .tuple #[.agg #[.int .i64 3, .string b, .int .i64 0, .int .u64 0, .int .i64 0], .int .i64 (b.size + 2 : Int)]) (by simp [results, Tryd.results38, go_sem]) rfl ⟨rfl, by repeat (first | exact Below.refl _ _ | refine Below.setCell ?_ (by simp) _ | refine pw_below_drewN ?_ _ | refine below_drew1 ?_ | refine below_alloc ?_ _)⟩
set_option maxHeartbeats 1000000 in
set_option maxRecDepth 100000 in
theorem one_hash (s : ByteArray) (w : World) (hs : s.size ≤ 140737488351232) (h0 : 0 < s.size) (hc : smallB s[0] = false) (hd : digitB s[0] = false) (hq : s[0] = 35) (hl : 16 < s.size) (v e_ : Int) (hp : sum_Parse.f 60 (s.extract 1 17) = some (v, e_)) (he : e_ = 0) :
    Calls Tryd.prog 38 #[.string s] w (one_post w 4 ⟨#[]⟩ 0 v 0 17) := by
  have C := fun W => small_any s[0] W
  simp only [hc] at C
  have D := fun W => digit_any s[0] W
  simp only [hd] at D
  clear hc hd
  have q39 : ((s[0].toNat : Int) == 39) = false := by rw [hq]; rfl
  have q35 : ((s[0].toNat : Int) == 35) = true := by rw [hq]; rfl
  have h1 : decide (16 < s.size) = true := decide_eq_true hl
  have h17 : decide (17 ≤ s.size) = true := decide_eq_true hl
  have P := fun W => sum_Parse.calls 60 (s.extract 1 17) v e_ W hp
  clear hp hq
  subst he
  go_enter Tryd.func38, Tryd.ntmps38
  go_wp2_with (first | (go_at_call 66; (with_reducible refine (C _).mono ?_); rintro e w' ⟨rfl, ⟨nd, rfl⟩⟩) | (go_at_call 69; (with_reducible refine (D _).mono ?_); rintro e w' ⟨rfl, ⟨nf, rfl⟩⟩) | (go_at_call 73; (with_reducible refine (P _).mono ?_); rintro e w' ⟨rfl, ⟨nh, rfl⟩⟩))
  exact bodyPost_ret (v := .tuple #[.agg #[.int .i64 4, .string ⟨#[]⟩, .int .i64 0, .int .u64 v, .int .i64 0], .int .i64 17]) (by simp [results, Tryd.results38, go_sem]) rfl ⟨rfl, by repeat (first | exact Below.refl _ _ | refine Below.setCell ?_ (by simp) _ | refine pw_below_drewN ?_ _ | refine below_drew1 ?_ | refine below_alloc ?_ _)⟩
set_option maxHeartbeats 1000000 in
set_option maxRecDepth 100000 in
theorem one_hash_no (s : ByteArray) (w : World) (hs : s.size ≤ 140737488351232) (h0 : 0 < s.size) (hc : smallB s[0] = false) (hd : digitB s[0] = false) (hq : s[0] = 35) (hl : 16 < s.size) (v e_ : Int) (hp : sum_Parse.f 60 (s.extract 1 17) = some (v, e_)) (he : ¬ e_ = 0) :
    Calls Tryd.prog 38 #[.string s] w (one_post w 0 ⟨#[]⟩ 0 0 0 0) := by
  have C := fun W => small_any s[0] W
  simp only [hc] at C
  have D := fun W => digit_any s[0] W
  simp only [hd] at D
  clear hc hd
  have q39 : ((s[0].toNat : Int) == 39) = false := by rw [hq]; rfl
  have q35 : ((s[0].toNat : Int) == 35) = true := by rw [hq]; rfl
  have h1 : decide (16 < s.size) = true := decide_eq_true hl
  have h17 : decide (17 ≤ s.size) = true := decide_eq_true hl
  have P := fun W => sum_Parse.calls 60 (s.extract 1 17) v e_ W hp
  clear hp hq
  have he' : (e_ == 0) = false := beq_eq_false_iff_ne.2 he
  go_enter Tryd.func38, Tryd.ntmps38
  go_wp2_with (first | (go_at_call 66; (with_reducible refine (C _).mono ?_); rintro e w' ⟨rfl, ⟨nd, rfl⟩⟩) | (go_at_call 69; (with_reducible refine (D _).mono ?_); rintro e w' ⟨rfl, ⟨nf, rfl⟩⟩) | (go_at_call 73; (with_reducible refine (P _).mono ?_); rintro e w' ⟨rfl, ⟨nh, rfl⟩⟩))
  exact bodyPost_ret (v := .tuple #[.agg #[.int .i64 0, .string ⟨#[]⟩, .int .i64 0, .int .u64 0, .int .i64 0], .int .i64 0]) (by simp [results, Tryd.results38, go_sem]) rfl ⟨rfl, by repeat (first | exact Below.refl _ _ | refine Below.setCell ?_ (by simp) _ | refine pw_below_drewN ?_ _ | refine below_drew1 ?_ | refine below_alloc ?_ _)⟩
set_option maxHeartbeats 1000000 in
set_option maxRecDepth 100000 in
theorem one_dots (s : ByteArray) (w : World) (hs : s.size ≤ 140737488351232) (h0 : 0 < s.size) (hc : smallB s[0] = false) (hd : digitB s[0] = false) (hq : s[0] ≠ 39) (hm : s[0] ≠ 35) (hx : strings_HasPrefix.f s ⟨#[46, 46]⟩ = some true) :
    Calls Tryd.prog 38 #[.string s] w (one_post w 5 (s.extract 0 2) 0 0 0 2) := by
  have C := fun W => small_any s[0] W
  simp only [hc] at C
  have D := fun W => digit_any s[0] W
  simp only [hd] at D
  clear hc hd
  have q39 : ((s[0].toNat : Int) == 39) = false := beq_eq_false_iff_ne.2 (fun h => hq (UInt8.toNat_inj.1 (by simpa using (show s[0].toNat = 39 by omega))))
  have q35 : ((s[0].toNat : Int) == 35) = false := beq_eq_false_iff_ne.2 (fun h => hm (UInt8.toNat_inj.1 (by simpa using (show s[0].toNat = 35 by omega))))
  have X := fun W => strings_HasPrefix.calls s ⟨#[46, 46]⟩ true W hx
  have h2 := pre_two s _ _ hx
  have h22 : decide (2 ≤ s.size) = true := decide_eq_true h2
  clear hq hm hx
  go_enter Tryd.func38, Tryd.ntmps38
  go_wp2_with (first | (go_at_call 66; (with_reducible refine (C _).mono ?_); rintro e w' ⟨rfl, ⟨nd, rfl⟩⟩) | (go_at_call 69; (with_reducible refine (D _).mono ?_); rintro e w' ⟨rfl, ⟨nf, rfl⟩⟩) | (go_at_call 74; (with_reducible refine (X _).mono ?_); rintro e w' ⟨rfl, ⟨ni, rfl⟩⟩) | (go_at_call 74; (with_reducible refine (Y _).mono ?_); rintro e w' ⟨rfl, ⟨nj, rfl⟩⟩) | (go_at_call 75; (with_reducible refine (Z _).mono ?_); rintro e w' ⟨rfl, rfl⟩))
  exact bodyPost_ret (v := .tuple #[.agg #[.int .i64 5, .string (s.extract 0 2), .int .i64 0, .int .u64 0, .int .i64 0], .int .i64 2]) (by simp [results, Tryd.results38, go_sem]) rfl ⟨rfl, by repeat (first | exact Below.refl _ _ | refine Below.setCell ?_ (by simp) _ | refine pw_below_drewN ?_ _ | refine below_drew1 ?_ | refine below_alloc ?_ _)⟩
set_option maxHeartbeats 1000000 in
set_option maxRecDepth 100000 in
theorem one_colons (s : ByteArray) (w : World) (hs : s.size ≤ 140737488351232) (h0 : 0 < s.size) (hc : smallB s[0] = false) (hd : digitB s[0] = false) (hq : s[0] ≠ 39) (hm : s[0] ≠ 35) (hx : strings_HasPrefix.f s ⟨#[46, 46]⟩ = some false) (hy : strings_HasPrefix.f s ⟨#[58, 58]⟩ = some true) :
    Calls Tryd.prog 38 #[.string s] w (one_post w 5 (s.extract 0 2) 0 0 0 2) := by
  have C := fun W => small_any s[0] W
  simp only [hc] at C
  have D := fun W => digit_any s[0] W
  simp only [hd] at D
  clear hc hd
  have q39 : ((s[0].toNat : Int) == 39) = false := beq_eq_false_iff_ne.2 (fun h => hq (UInt8.toNat_inj.1 (by simpa using (show s[0].toNat = 39 by omega))))
  have q35 : ((s[0].toNat : Int) == 35) = false := beq_eq_false_iff_ne.2 (fun h => hm (UInt8.toNat_inj.1 (by simpa using (show s[0].toNat = 35 by omega))))
  have X := fun W => strings_HasPrefix.calls s ⟨#[46, 46]⟩ false W hx
  have h2 := pre_two s _ _ hy
  have h22 : decide (2 ≤ s.size) = true := decide_eq_true h2
  have Y := fun W => strings_HasPrefix.calls s ⟨#[58, 58]⟩ true W hy
  clear hq hm hx hy
  go_enter Tryd.func38, Tryd.ntmps38
  go_wp2_with (first | (go_at_call 66; (with_reducible refine (C _).mono ?_); rintro e w' ⟨rfl, ⟨nd, rfl⟩⟩) | (go_at_call 69; (with_reducible refine (D _).mono ?_); rintro e w' ⟨rfl, ⟨nf, rfl⟩⟩) | (go_at_call 74; (with_reducible refine (X _).mono ?_); rintro e w' ⟨rfl, ⟨ni, rfl⟩⟩) | (go_at_call 74; (with_reducible refine (Y _).mono ?_); rintro e w' ⟨rfl, ⟨nj, rfl⟩⟩) | (go_at_call 75; (with_reducible refine (Z _).mono ?_); rintro e w' ⟨rfl, rfl⟩))
  exact bodyPost_ret (v := .tuple #[.agg #[.int .i64 5, .string (s.extract 0 2), .int .i64 0, .int .u64 0, .int .i64 0], .int .i64 2]) (by simp [results, Tryd.results38, go_sem]) rfl ⟨rfl, by repeat (first | exact Below.refl _ _ | refine Below.setCell ?_ (by simp) _ | refine pw_below_drewN ?_ _ | refine below_drew1 ?_ | refine below_alloc ?_ _)⟩
set_option maxHeartbeats 1000000 in
set_option maxRecDepth 100000 in
theorem one_sign (s : ByteArray) (w : World) (hs : s.size ≤ 140737488351232) (h0 : 0 < s.size) (hc : smallB s[0] = false) (hd : digitB s[0] = false) (hq : s[0] ≠ 39) (hm : s[0] ≠ 35) (hx : strings_HasPrefix.f s ⟨#[46, 46]⟩ = some false) (hy : strings_HasPrefix.f s ⟨#[58, 58]⟩ = some false) (hz : signB s[0] = true) :
    Calls Tryd.prog 38 #[.string s] w (one_post w 5 (s.extract 0 1) 0 0 0 1) := by
  have C := fun W => small_any s[0] W
  simp only [hc] at C
  have D := fun W => digit_any s[0] W
  simp only [hd] at D
  clear hc hd
  have q39 : ((s[0].toNat : Int) == 39) = false := beq_eq_false_iff_ne.2 (fun h => hq (UInt8.toNat_inj.1 (by simpa using (show s[0].toNat = 39 by omega))))
  have q35 : ((s[0].toNat : Int) == 35) = false := beq_eq_false_iff_ne.2 (fun h => hm (UInt8.toNat_inj.1 (by simpa using (show s[0].toNat = 35 by omega))))
  have X := fun W => strings_HasPrefix.calls s ⟨#[46, 46]⟩ false W hx
  have Y := fun W => strings_HasPrefix.calls s ⟨#[58, 58]⟩ false W hy
  have Z := fun W => Tryd.strings_IndexByte ⟨#[40, 41, 44, 124, 38, 45, 33, 94]⟩ (s[0].toNat : Int) W
  have hz' : decide ((0 : Int) ≤ Lib.indexByte (⟨#[40, 41, 44, 124, 38, 45, 33, 94]⟩ : ByteArray).data.toList s[0]) = true := hz
  clear hz
  rw [show ((s[0].toNat : Int)).toNat.toUInt8 = s[0] by simp] at Z
  generalize Lib.indexByte (⟨#[40, 41, 44, 124, 38, 45, 33, 94]⟩ : ByteArray).data.toList s[0] = ix at Z hz'
  clear hq hm hx hy
  go_enter Tryd.func38, Tryd.ntmps38
  go_wp2_with (first | (go_at_call 66; (with_reducible refine (C _).mono ?_); rintro e w' ⟨rfl, ⟨nd, rfl⟩⟩) | (go_at_call 69; (with_reducible refine (D _).mono ?_); rintro e w' ⟨rfl, ⟨nf, rfl⟩⟩) | (go_at_call 74; (with_reducible refine (X _).mono ?_); rintro e w' ⟨rfl, ⟨ni, rfl⟩⟩) | (go_at_call 74; (with_reducible refine (Y _).mono ?_); rintro e w' ⟨rfl, ⟨nj, rfl⟩⟩) | (go_at_call 75; (with_reducible refine (Z _).mono ?_); rintro e w' ⟨rfl, rfl⟩))
  exact bodyPost_ret (v := .tuple #[.agg #[.int .i64 5, .string (s.extract 0 1), .int .i64 0, .int .u64 0, .int .i64 0], .int .i64 1]) (by simp [results, Tryd.results38, go_sem]) rfl ⟨rfl, by repeat (first | exact Below.refl _ _ | refine Below.setCell ?_ (by simp) _ | refine pw_below_drewN ?_ _ | refine below_drew1 ?_ | refine below_alloc ?_ _)⟩
set_option maxHeartbeats 1000000 in
set_option maxRecDepth 100000 in
theorem one_none (s : ByteArray) (w : World) (hs : s.size ≤ 140737488351232) (h0 : 0 < s.size) (hc : smallB s[0] = false) (hd : digitB s[0] = false) (hq : s[0] ≠ 39) (hm : s[0] ≠ 35) (hx : strings_HasPrefix.f s ⟨#[46, 46]⟩ = some false) (hy : strings_HasPrefix.f s ⟨#[58, 58]⟩ = some false) (hz : signB s[0] = false) :
    Calls Tryd.prog 38 #[.string s] w (one_post w 0 ⟨#[]⟩ 0 0 0 0) := by
  have C := fun W => small_any s[0] W
  simp only [hc] at C
  have D := fun W => digit_any s[0] W
  simp only [hd] at D
  clear hc hd
  have q39 : ((s[0].toNat : Int) == 39) = false := beq_eq_false_iff_ne.2 (fun h => hq (UInt8.toNat_inj.1 (by simpa using (show s[0].toNat = 39 by omega))))
  have q35 : ((s[0].toNat : Int) == 35) = false := beq_eq_false_iff_ne.2 (fun h => hm (UInt8.toNat_inj.1 (by simpa using (show s[0].toNat = 35 by omega))))
  have X := fun W => strings_HasPrefix.calls s ⟨#[46, 46]⟩ false W hx
  have Y := fun W => strings_HasPrefix.calls s ⟨#[58, 58]⟩ false W hy
  have Z := fun W => Tryd.strings_IndexByte ⟨#[40, 41, 44, 124, 38, 45, 33, 94]⟩ (s[0].toNat : Int) W
  have hz' : decide ((0 : Int) ≤ Lib.indexByte (⟨#[40, 41, 44, 124, 38, 45, 33, 94]⟩ : ByteArray).data.toList s[0]) = false := hz
  clear hz
  rw [show ((s[0].toNat : Int)).toNat.toUInt8 = s[0] by simp] at Z
  generalize Lib.indexByte (⟨#[40, 41, 44, 124, 38, 45, 33, 94]⟩ : ByteArray).data.toList s[0] = ix at Z hz'
  clear hq hm hx hy
  go_enter Tryd.func38, Tryd.ntmps38
  go_wp2_with (first | (go_at_call 66; (with_reducible refine (C _).mono ?_); rintro e w' ⟨rfl, ⟨nd, rfl⟩⟩) | (go_at_call 69; (with_reducible refine (D _).mono ?_); rintro e w' ⟨rfl, ⟨nf, rfl⟩⟩) | (go_at_call 74; (with_reducible refine (X _).mono ?_); rintro e w' ⟨rfl, ⟨ni, rfl⟩⟩) | (go_at_call 74; (with_reducible refine (Y _).mono ?_); rintro e w' ⟨rfl, ⟨nj, rfl⟩⟩) | (go_at_call 75; (with_reducible refine (Z _).mono ?_); rintro e w' ⟨rfl, rfl⟩))
  exact bodyPost_ret (v := .tuple #[.agg #[.int .i64 0, .string ⟨#[]⟩, .int .i64 0, .int .u64 0, .int .i64 0], .int .i64 0]) (by simp [results, Tryd.results38, go_sem]) rfl ⟨rfl, by repeat (first | exact Below.refl _ _ | refine Below.setCell ?_ (by simp) _ | refine pw_below_drewN ?_ _ | refine below_drew1 ?_ | refine below_alloc ?_ _)⟩
set_option maxHeartbeats 1000000 in
set_option maxRecDepth 100000 in
theorem one_nonem (s : ByteArray) (w : World) (hs : s.size ≤ 140737488351232) (h0 : 0 < s.size) (hc : smallB s[0] = false) (hd : digitB s[0] = false) (hq : s[0] ≠ 39) (hm : s[0] = 35) (hl : ¬ 16 < s.size) (hx : strings_HasPrefix.f s ⟨#[46, 46]⟩ = some false) (hy : strings_HasPrefix.f s ⟨#[58, 58]⟩ = some false) (hz : signB s[0] = false) :
    Calls Tryd.prog 38 #[.string s] w (one_post w 0 ⟨#[]⟩ 0 0 0 0) := by
  have C := fun W => small_any s[0] W
  simp only [hc] at C
  have D := fun W => digit_any s[0] W
  simp only [hd] at D
  clear hc hd
  have q39 : ((s[0].toNat : Int) == 39) = false := beq_eq_false_iff_ne.2 (fun h => hq (UInt8.toNat_inj.1 (by simpa using (show s[0].toNat = 39 by omega))))
  have q35 : ((s[0].toNat : Int) == 35) = true := by rw [hm]; rfl
  have h1 : decide (16 < s.size) = false := decide_eq_false hl
  have X := fun W => strings_HasPrefix.calls s ⟨#[46, 46]⟩ false W hx
  have Y := fun W => strings_HasPrefix.calls s ⟨#[58, 58]⟩ false W hy
  have Z := fun W => Tryd.strings_IndexByte ⟨#[40, 41, 44, 124, 38, 45, 33, 94]⟩ (s[0].toNat : Int) W
  have hz' : decide ((0 : Int) ≤ Lib.indexByte (⟨#[40, 41, 44, 124, 38, 45, 33, 94]⟩ : ByteArray).data.toList s[0]) = false := hz
  clear hz
  rw [show ((s[0].toNat : Int)).toNat.toUInt8 = s[0] by simp] at Z
  generalize Lib.indexByte (⟨#[40, 41, 44, 124, 38, 45, 33, 94]⟩ : ByteArray).data.toList s[0] = ix at Z hz'
  clear hq hm hx hy
  go_enter Tryd.func38, Tryd.ntmps38
  go_wp2_with (first | (go_at_call 66; (with_reducible refine (C _).mono ?_); rintro e w' ⟨rfl, ⟨nd, rfl⟩⟩) | (go_at_call 69; (with_reducible refine (D _).mono ?_); rintro e w' ⟨rfl, ⟨nf, rfl⟩⟩) | (go_at_call 74; (with_reducible refine (X _).mono ?_); rintro e w' ⟨rfl, ⟨ni, rfl⟩⟩) | (go_at_call 74; (with_reducible refine (Y _).mono ?_); rintro e w' ⟨rfl, ⟨nj, rfl⟩⟩) | (go_at_call 75; (with_reducible refine (Z _).mono ?_); rintro e w' ⟨rfl, rfl⟩))
  exact bodyPost_ret (v := .tuple #[.agg #[.int .i64 0, .string ⟨#[]⟩, .int .i64 0, .int .u64 0, .int .i64 0], .int .i64 0]) (by simp [results, Tryd.results38, go_sem]) rfl ⟨rfl, by repeat (first | exact Below.refl _ _ | refine Below.setCell ?_ (by simp) _ | refine pw_below_drewN ?_ _ | refine below_drew1 ?_ | refine below_alloc ?_ _)⟩

end Go.Proofs.YtfgfoofojofnmaaDoor.Q
