-- Written by a program of this session's (wip/tools/hprint.py, over the kit's print.py). Not trusted: Lean checks it.
import Derived.Test.YtfgfoofojofnmaaDoorQ0
import Derived.Test.YtfgfoofojofnmaaDoorQE78
namespace Go.Proofs.YtfgfoofojofnmaaDoor.Q
open Go.RowKit Go.Proofs.YtfgfoofojofnmaaDoorW.PrintWords Go.Proofs.YtfgfoofojofnmaaDoorW.PrintLast Go.Proofs.YtfgfoofojofnmaaDoorW.PrintMore
attribute [local go_sem] Go.Proofs.YtfgfoofojofnmaaDoor.Hand.w64_mod256 Go.Proofs.YtfgfoofojofnmaaDoor.Hand.w64_mod32 max2_int min2_int max_two min_two max_three min_three max_four min_four   -- for this text's walks alone
set_option linter.unusedVariables false
set_option linter.unusedSimpArgs false

attribute [local go_sem high] eqA78
/-! ### forebearref22_Same: function 17 -/
open Go.Proofs.YtfgfoofojofnmaaDoor.Hand
attribute [local go_sem high] eqA78
def same1 (p : Bool) (x y : S78) : Bool := x.f0 == y.f0 && (x.f1.toList == y.f1.toList && (x.f2 == y.f2 && (x.f3 == y.f3 && (!p || x.f4 == y.f4))))
def sameL (p : Bool) : List S78 → List S78 → Bool
  | [], [] => true
  | x :: xs, y :: ys => same1 p x y && sameL p xs ys
  | _, _ => false
theorem sameL_len {p : Bool} : ∀ {xs ys : List S78}, sameL p xs ys = true → xs.length = ys.length
  | [], [], _ => rfl
  | x :: xs, y :: ys, h => by
    simp only [sameL, Bool.and_eq_true] at h
    simp [sameL_len h.2]
/-- What is left from place i on. -/
theorem sameL_at (p : Bool) : ∀ (xs ys : List S78) (i : Nat), xs.length = ys.length → i < xs.length → sameL p (xs.drop i) (ys.drop i) = (same1 p (xs.getD i z78) (ys.getD i z78) && sameL p (xs.drop (i + 1)) (ys.drop (i + 1)))
  | x :: xs, y :: ys, 0, _, _ => by simp [sameL]
  | x :: xs, y :: ys, i + 1, hl, hi => by
    have := sameL_at p xs ys i (by simpa using hl) (by simpa using hi)
    simpa using this
def forebearref22_Same.f (l0 l1 : List S78) (a2 : Bool) : Option Bool := if l0.length < 4611686018427387904 then some (sameL a2 l0 l1) else none
set_option maxHeartbeats 2000000 in
set_option maxRecDepth 100000 in
theorem forebearref22_Same.calls (A0 : Option Addr) (c0 : Nat) (l0 : List (S78)) (A1 : Option Addr) (c1 : Nat) (l1 : List (S78)) (a2 : Bool) (r : Bool) (w : World) (hr0 : Kd.C k78 w A0 l0.length l0) (hc0 : l0.length ≤ c0) (hr1 : Kd.C k78 w A1 l1.length l1) (hc1 : l1.length ≤ c1) (h : forebearref22_Same.f l0 l1 a2 = some r) :
    Calls Tryd.prog 17 #[.slice A0 l0.length c0, .slice A1 l1.length c1, .bool a2] w fun e w' => e = .returned (.bool r) ∧ Below w.heap.size w w' := by
  have HR0 := Aside0.mk hr0
  have HR1 := Aside0.mk hr1
  clear hr0 hr1
  have hb0 : l0.length < 4611686018427387904 := by by_cases hb : l0.length < 4611686018427387904; exact hb; simp [forebearref22_Same.f, hb] at h
  obtain rfl : sameL a2 l0 l1 = r := by simpa [forebearref22_Same.f, hb0] using h
  clear h
  by_cases hl : l0.length = l1.length
  · have c4b2 : (l0.length == l1.length) = true := beq_iff_eq.2 hl
    have HL := Lib.hid hl
    clear hl
    go_enter Tryd.func17, Tryd.ntmps17
    go_wp2
    go_loopw [7] (fun v wr => ∃ i : Nat, i ≤ l0.length ∧ v = .int .i64 (i : Int) ∧ Aside0 (sameL a2 l0 l1 = sameL a2 (l0.drop i) (l1.drop i)) ∧ Aside0 (Below w.heap.size w wr)) (fun v _ => l0.length - (intOf v).toNat)
    case atStart => exact ⟨0, Nat.zero_le _, rfl, ⟨rfl⟩, ⟨Below.refl _ _⟩⟩
    case round =>
      obtain ⟨i, hi, rfl, HS, HB⟩ := hrel
      by_cases hlt : i < l0.length
      · have hlt1 : i < l1.length := by rw [← HL.out]; exact hlt
        have HN := Lib.hid (sameL_at a2 l0 l1 i HL.out hlt)
        obtain ⟨ad, e0, x0, x1, x2, x3, x4⟩ := at_T78 HR0.out (i : Int) (by omega) (by omega)
        obtain ⟨bd, e1, y0, y1, y2, y3, y4⟩ := at_T78 HR1.out (i : Int) (by omega) (by omega)
        cases e0
        cases e1
        have hxb : ad.block < w.heap.size := by have := World.block_lt_of_cell? w _ x0; first | rwa [add_block] at this | exact this
        have hyb : bd.block < w.heap.size := by have := World.block_lt_of_cell? w _ y0; first | rwa [add_block] at this | exact this
        replace x0 := (HB.out.cell (World.block_lt_of_cell? w _ x0)).trans x0
        replace x1 := (HB.out.cell (World.block_lt_of_cell? w _ x1)).trans x1
        replace x2 := (HB.out.cell (World.block_lt_of_cell? w _ x2)).trans x2
        replace x3 := (HB.out.cell (World.block_lt_of_cell? w _ x3)).trans x3
        replace x4 := (HB.out.cell (World.block_lt_of_cell? w _ x4)).trans x4
        replace y0 := (HB.out.cell (World.block_lt_of_cell? w _ y0)).trans y0
        replace y1 := (HB.out.cell (World.block_lt_of_cell? w _ y1)).trans y1
        replace y2 := (HB.out.cell (World.block_lt_of_cell? w _ y2)).trans y2
        replace y3 := (HB.out.cell (World.block_lt_of_cell? w _ y3)).trans y3
        replace y4 := (HB.out.cell (World.block_lt_of_cell? w _ y4)).trans y4
        have hsz := HB.out.size
        have hxw : ad.block < wr.heap.size := by omega
        have hyw : bd.block < wr.heap.size := by omega
        clear hsz
        have ex : rd_T78 l0 (i : Int) = l0.getD i z78 := by simp [rd_T78]
        have ey : rd_T78 l1 (i : Int) = l1.getD i z78 := by simp [rd_T78]
        rw [ex] at x0 x1 x2 x3 x4
        rw [ey] at y0 y1 y2 y3 y4
        clear ex ey
        generalize l0.getD i z78 = X at *
        generalize l1.getD i z78 = Y at *
        obtain ⟨X0, X1, X2, X3, X4⟩ := X
        obtain ⟨Y0, Y1, Y2, Y3, Y4⟩ := Y
        simp only [Int.toNat_natCast] at x0 x1 x2 x3 x4 y0 y1 y2 y3 y4
        have al : ∀ (o : Obj) (a : Addr) (v : Value), wr.cell? a = some v → (wr.alloc o).cell? a = some v := fun o a v h => (World.cell?_alloc_old wr o a (Nat.ne_of_lt (World.block_lt_of_cell? wr _ h))).trans h
        have z0 := fun o => al o _ _ y0
        have z1 := fun o => al o _ _ y1
        have z2 := fun o => al o _ _ y2
        have z3 := fun o => al o _ _ y3
        have z4 := fun o => al o _ _ y4
        clear al y0 y1 y2 y3 y4
        have HN2 : Hid (sameL a2 l0 l1 = (same1 a2 ⟨X0, X1, X2, X3, X4⟩ ⟨Y0, Y1, Y2, Y3, Y4⟩ && sameL a2 (l0.drop (i + 1)) (l1.drop (i + 1)))) := Lib.hid (HS.out.trans HN.out)
        clear HN HS
        cases a2 with
        | true =>
          have e1 : (!X0 == Y0 || (!X1.toList == Y1.toList || (!X2 == Y2 || (!X3 == Y3 || !X4 == Y4)))) = !(same1 true ⟨X0, X1, X2, X3, X4⟩ ⟨Y0, Y1, Y2, Y3, Y4⟩) := by simp [same1]
          cases hs : same1 true ⟨X0, X1, X2, X3, X4⟩ ⟨Y0, Y1, Y2, Y3, Y4⟩ with
          | true =>
            have hT : (!X0 == Y0 || (!X1.toList == Y1.toList || (!X2 == Y2 || (!X3 == Y3 || !X4 == Y4)))) = false := by rw [e1, hs]; rfl
            have HN3 := Lib.hid (HN2.out.trans (by rw [hs, Bool.true_and]))
            clear HN2 hs e1
            go_wp2
            go_roundw
            case rel => exact ⟨i + 1, by omega, by go_num, ⟨HN3.out⟩, ⟨below_alloc (below_alloc HB.out _) _⟩⟩
            case measure => simp [intOf]; omega
          | false =>
            have hT : (!X0 == Y0 || (!X1.toList == Y1.toList || (!X2 == Y2 || (!X3 == Y3 || !X4 == Y4)))) = true := by rw [e1, hs]; rfl
            have HN3 := Lib.hid (HN2.out.trans (by rw [hs, Bool.false_and]))
            clear HN2 hs e1
            go_wp2
            go_ret
            exact ⟨by rw [HN3.out]; rfl, below_alloc (below_alloc HB.out _) _⟩
        | false =>
          have e1 : (!X0 == Y0 || (!X1.toList == Y1.toList || (!X2 == Y2 || !X3 == Y3))) = !(same1 false ⟨X0, X1, X2, X3, X4⟩ ⟨Y0, Y1, Y2, Y3, Y4⟩) := by simp [same1]
          cases hs : same1 false ⟨X0, X1, X2, X3, X4⟩ ⟨Y0, Y1, Y2, Y3, Y4⟩ with
          | true =>
            have hT : (!X0 == Y0 || (!X1.toList == Y1.toList || (!X2 == Y2 || !X3 == Y3))) = false := by rw [e1, hs]; rfl
            have HN3 := Lib.hid (HN2.out.trans (by rw [hs, Bool.true_and]))
            clear HN2 hs e1
            go_wp2
            go_roundw
            case rel => exact ⟨i + 1, by omega, by go_num, ⟨HN3.out⟩, ⟨below_alloc (below_alloc HB.out _) _⟩⟩
            case measure => simp [intOf]; omega
          | false =>
            have hT : (!X0 == Y0 || (!X1.toList == Y1.toList || (!X2 == Y2 || !X3 == Y3))) = true := by rw [e1, hs]; rfl
            have HN3 := Lib.hid (HN2.out.trans (by rw [hs, Bool.false_and]))
            clear HN2 hs e1
            go_wp2
            go_ret
            exact ⟨by rw [HN3.out]; rfl, below_alloc (below_alloc HB.out _) _⟩
      · have hie : i = l0.length := by omega
        have HN3 : Hid (sameL a2 l0 l1 = true) := Lib.hid (HS.out.trans (by rw [hie, List.drop_length, HL.out, List.drop_length]; rfl))
        clear HS hie
        go_wp2
        go_ret
        exact ⟨by rw [HN3.out]; rfl, HB.out⟩
  · have c4b2 : (l0.length == l1.length) = false := beq_eq_false_iff_ne.2 hl
    have HN3 : Hid (sameL a2 l0 l1 = false) := Lib.hid (by cases hb : sameL a2 l0 l1 with | false => rfl | true => exact absurd (sameL_len hb) hl)
    clear hl
    go_enter Tryd.func17, Tryd.ntmps17
    go_wp2
    go_ret
    exact ⟨by rw [HN3.out]; rfl, Below.refl _ _⟩

end Go.Proofs.YtfgfoofojofnmaaDoor.Q
