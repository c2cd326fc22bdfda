/- forebearlaw23's document's examples, walked; a call of Parse. -/
import Derived.Outline
import Derived.Deep.DeepCutAuto
import Derived.Deep.CutBlock
import Derived.Test.YtfgfoofojofnmaaDoorGQF22
import Derived.Test.YtfgfoofojofnmaaDoorGQF29
set_option linter.unusedVariables false
set_option linter.unusedSimpArgs false
namespace Go.Proofs.YtfgfoofojofnmaaDoor.Q
open Go.RowKit Go.Proofs.YtfgfoofojofnmaaDoorW.PrintWords Go.Proofs.YtfgfoofojofnmaaDoorW.PrintLast Go.Proofs.YtfgfoofojofnmaaDoorW.PrintMore
set_option linter.unusedVariables false
set_option linter.unusedSimpArgs false
open Go.Proofs.YtfgfoofojofnmaaDoor.Hand
theorem prs_any (a : ByteArray) (w : World) : Calls Tryd.prog 22 #[.string a] w fun e w' => ∃ A c, e = .returned (.tuple #[.agg #[.int .i64 (parseT a).1.f0, .string (parseT a).1.f1, .int .i64 (parseT a).1.f2, .int .u64 (parseT a).1.f3, .slice A (parseT a).1.f4.length c, .int .i64 (parseT a).1.f5], .int .i64 (parseT a).2.1, .int .i64 (parseT a).2.2]) ∧ (parseT a).1.f4.length ≤ c ∧ Kd.C k44 w' A (parseT a).1.f4.length (parseT a).1.f4 ∧ Below w.heap.size w w' := by
  refine (parse_Parse.calls a _ _ _ _ _ _ _ _ w rfl).mono ?_
  rintro e w' ⟨v, rfl, hR, hB⟩
  obtain ⟨A, c, rfl, hl, hC⟩ := Kd.R_reads hR
  exact ⟨A, c, rfl, hl, hC, hB⟩
theorem prs_few (a : ByteArray) : wt (parseT a).1 ≤ 2049 := by
  have hz : wt z44 ≤ 2049 := by rw [wt_z]; decide
  unfold parseT
  split
  · split
    · exact hz
    · split
      · exact hz
      · exact readS_wt a
  · exact hz
set_option maxRecDepth 100000 in
theorem aw1 : ((parseT (⟨#[97, 124, 98, 38, 33, 99, 94, 50]⟩ : ByteArray)).2.2 = 0 ∧ (parseT (⟨#[97, 124, 98, 38, 33, 99, 94, 50]⟩ : ByteArray)).1.f0 = 6 ∧ (parseT (⟨#[97, 124, 98, 38, 33, 99, 94, 50]⟩ : ByteArray)).1.f5 = 1) ∧ parse_Show.f (parseT (⟨#[97, 124, 98, 38, 33, 99, 94, 50]⟩ : ByteArray)).1.f0 (parseT (⟨#[97, 124, 98, 38, 33, 99, 94, 50]⟩ : ByteArray)).1.f1 (parseT (⟨#[97, 124, 98, 38, 33, 99, 94, 50]⟩ : ByteArray)).1.f2 (parseT (⟨#[97, 124, 98, 38, 33, 99, 94, 50]⟩ : ByteArray)).1.f3 (parseT (⟨#[97, 124, 98, 38, 33, 99, 94, 50]⟩ : ByteArray)).1.f4 (parseT (⟨#[97, 124, 98, 38, 33, 99, 94, 50]⟩ : ByteArray)).1.f5 = some (⟨#[97, 32, 124, 32, 98, 32, 38, 32, 33, 99, 94, 50]⟩ : ByteArray) := by decide +kernel
set_option maxRecDepth 100000 in
theorem aw2 : (parseT (⟨#[97, 46, 46, 98, 46, 46, 99]⟩ : ByteArray)).2.1 = 4 ∧ (parseT (⟨#[97, 46, 46, 98, 46, 46, 99]⟩ : ByteArray)).2.2 = 31 := by decide +kernel
set_option maxRecDepth 100000 in
theorem aw3 : (parseT (⟨#[97, 94, 48]⟩ : ByteArray)).2.1 = 2 ∧ (parseT (⟨#[97, 94, 48]⟩ : ByteArray)).2.2 = 31 := by decide +kernel
theorem below_allocV (w : World) (o : Obj) : Below w.heap.size w (w.alloc o) := below_alloc (Below.refl _ _) o
set_option maxHeartbeats 4000000 in
set_option maxRecDepth 100000 in
theorem awake26_any (w : World) : Calls Tryd.prog 26 #[] w fun e w' => e = .returned (.bool true) ∧ Below w.heap.size w w' := by
  obtain ⟨⟨n, pn, en⟩, hn⟩ : ∃ N, parseT (⟨#[97, 124, 98, 38, 33, 99, 94, 50]⟩ : ByteArray) = N := ⟨_, rfl⟩
  have P0 : ∀ W, Calls Tryd.prog 22 #[.string (⟨#[97, 124, 98, 38, 33, 99, 94, 50]⟩ : ByteArray)] W (fun e_ w_ => ∃ A c, e_ = .returned (.tuple #[.agg #[.int .i64 n.f0, .string n.f1, .int .i64 n.f2, .int .u64 n.f3, .slice A n.f4.length c, .int .i64 n.f5], .int .i64 pn, .int .i64 en]) ∧ n.f4.length ≤ c ∧ Kd.C k44 w_ A n.f4.length n.f4 ∧ Below W.heap.size W w_) := fun W => by have := prs_any (⟨#[97, 124, 98, 38, 33, 99, 94, 50]⟩ : ByteArray) W; rw [hn] at this; exact this
  obtain ⟨⟨m, pm, em⟩, hm⟩ : ∃ N, parseT (⟨#[97, 46, 46, 98, 46, 46, 99]⟩ : ByteArray) = N := ⟨_, rfl⟩
  have P1 : ∀ W, Calls Tryd.prog 22 #[.string (⟨#[97, 46, 46, 98, 46, 46, 99]⟩ : ByteArray)] W (fun e_ w_ => ∃ A c, e_ = .returned (.tuple #[.agg #[.int .i64 m.f0, .string m.f1, .int .i64 m.f2, .int .u64 m.f3, .slice A m.f4.length c, .int .i64 m.f5], .int .i64 pm, .int .i64 em]) ∧ m.f4.length ≤ c ∧ Kd.C k44 w_ A m.f4.length m.f4 ∧ Below W.heap.size W w_) := fun W => by have := prs_any (⟨#[97, 46, 46, 98, 46, 46, 99]⟩ : ByteArray) W; rw [hm] at this; exact this
  obtain ⟨⟨x, px, ex⟩, hx⟩ : ∃ N, parseT (⟨#[97, 94, 48]⟩ : ByteArray) = N := ⟨_, rfl⟩
  have P2 : ∀ W, Calls Tryd.prog 22 #[.string (⟨#[97, 94, 48]⟩ : ByteArray)] W (fun e_ w_ => ∃ A c, e_ = .returned (.tuple #[.agg #[.int .i64 x.f0, .string x.f1, .int .i64 x.f2, .int .u64 x.f3, .slice A x.f4.length c, .int .i64 x.f5], .int .i64 px, .int .i64 ex]) ∧ x.f4.length ≤ c ∧ Kd.C k44 w_ A x.f4.length x.f4 ∧ Below W.heap.size W w_) := fun W => by have := prs_any (⟨#[97, 94, 48]⟩ : ByteArray) W; rw [hx] at this; exact this
  have q1 := aw1
  have q2 := aw2
  have q3 := aw3
  rw [hn] at q1
  rw [hm] at q2
  rw [hx] at q3
  obtain ⟨⟨q1a, q1b, q1c⟩, q1d⟩ := q1
  obtain ⟨q2a, q2b⟩ := q2
  obtain ⟨q3a, q3b⟩ := q3
  clear hn hm hx
  simp only at q1a q1b q1c q1d q2a q2b q3a q3b
  have CS := fun W A c hC hl => parse_Show.calls n.f0 n.f1 n.f2 n.f3 A c n.f4 n.f5 (⟨#[97, 32, 124, 32, 98, 32, 38, 32, 33, 99, 94, 50]⟩ : ByteArray) W hC hl q1d
  clear q1d
  have Zq1a := Lib.hid q1a
  clear q1a
  have Zq1b := Lib.hid q1b
  clear q1b
  have Zq1c := Lib.hid q1c
  clear q1c
  have Zq2a := Lib.hid q2a
  clear q2a
  have Zq2b := Lib.hid q2b
  clear q2b
  have Zq3a := Lib.hid q3a
  clear q3a
  have Zq3b := Lib.hid q3b
  clear q3b
  go_enter Tryd.func26, Tryd.ntmps26
  have HB0 := Lib.hid (Below.refl w.heap.size w)
  have HV0 := HB0
  go_upto_region 2 with (go_at_call 22; (with_reducible refine (P0 _).mono ?_); rintro e v1 ⟨A1, c1, rfl, hl, hC, hB⟩; have HC1 := Lib.hid hC; have HL1 := Lib.hid hl; have HV1 := Lib.hid hB; clear hl hC hB)
  have HN1 := Lib.hid (blk_new v1 (Obj.cells #[.int .i64 n.f0, .string n.f1, .int .i64 n.f2, .int .u64 n.f3, .slice A1 n.f4.length c1, .int .i64 n.f5] 44))
  have HD1 := Lib.hid (Kd.C_below HC1.out (below_allocV v1 (Obj.cells #[.int .i64 n.f0, .string n.f1, .int .i64 n.f2, .int .u64 n.f3, .slice A1 n.f4.length c1, .int .i64 n.f5] 44)))
  have HZ1 : Hid (Below w.heap.size w (v1.alloc (Obj.cells #[.int .i64 n.f0, .string n.f1, .int .i64 n.f2, .int .u64 n.f3, .slice A1 n.f4.length c1, .int .i64 n.f5] 44))) := Lib.hid (below_alloc HV1.out _)
  have HB1 := Lib.hid (below_step HB0.out HZ1.out)
  clear HC1 HV1 HZ1
  generalize v1.alloc (Obj.cells #[.int .i64 n.f0, .string n.f1, .int .i64 n.f2, .int .u64 n.f3, .slice A1 n.f4.length c1, .int .i64 n.f5] 44) = w4 at *
  generalize v1.heap.size = b8 at *
  go_upto_region 3 with (go_at_call 22; (with_reducible refine (P1 _).mono ?_); rintro e v2 ⟨A2, c2, rfl, hl, hC, hB⟩; have HC2 := Lib.hid hC; have HL2 := Lib.hid hl; have HV2 := Lib.hid hB; clear hl hC hB)
  have HN2 := Lib.hid (blk_new v2 (Obj.cells #[.int .i64 m.f0, .string m.f1, .int .i64 m.f2, .int .u64 m.f3, .slice A2 m.f4.length c2, .int .i64 m.f5] 44))
  have HD2 := Lib.hid (Kd.C_below HC2.out (below_allocV v2 (Obj.cells #[.int .i64 m.f0, .string m.f1, .int .i64 m.f2, .int .u64 m.f3, .slice A2 m.f4.length c2, .int .i64 m.f5] 44)))
  have HZ2 : Hid (Below w4.heap.size w4 (v2.alloc (Obj.cells #[.int .i64 m.f0, .string m.f1, .int .i64 m.f2, .int .u64 m.f3, .slice A2 m.f4.length c2, .int .i64 m.f5] 44))) := Lib.hid (below_alloc HV2.out _)
  have HB2 := Lib.hid (below_step HB1.out HZ2.out)
  have HN1 := Lib.hid (blk_belowU HZ2.out HN1.out)
  have HD1 := Lib.hid (Kd.C_below HD1.out HZ2.out)
  clear HC2 HV2 HZ2
  generalize v2.alloc (Obj.cells #[.int .i64 m.f0, .string m.f1, .int .i64 m.f2, .int .u64 m.f3, .slice A2 m.f4.length c2, .int .i64 m.f5] 44) = w5 at *
  generalize v2.heap.size = b11 at *
  go_upto_region 4 with (go_at_call 22; (with_reducible refine (P2 _).mono ?_); rintro e v3 ⟨A3, c3, rfl, hl, hC, hB⟩; have HC3 := Lib.hid hC; have HL3 := Lib.hid hl; have HV3 := Lib.hid hB; clear hl hC hB)
  have HN3 := Lib.hid (blk_new v3 (Obj.cells #[.int .i64 x.f0, .string x.f1, .int .i64 x.f2, .int .u64 x.f3, .slice A3 x.f4.length c3, .int .i64 x.f5] 44))
  have HD3 := Lib.hid (Kd.C_below HC3.out (below_allocV v3 (Obj.cells #[.int .i64 x.f0, .string x.f1, .int .i64 x.f2, .int .u64 x.f3, .slice A3 x.f4.length c3, .int .i64 x.f5] 44)))
  have HZ3 : Hid (Below w5.heap.size w5 (v3.alloc (Obj.cells #[.int .i64 x.f0, .string x.f1, .int .i64 x.f2, .int .u64 x.f3, .slice A3 x.f4.length c3, .int .i64 x.f5] 44))) := Lib.hid (below_alloc HV3.out _)
  have HB3 := Lib.hid (below_step HB2.out HZ3.out)
  have HN1 := Lib.hid (blk_belowU HZ3.out HN1.out)
  have HD1 := Lib.hid (Kd.C_below HD1.out HZ3.out)
  clear HC3 HV3 HZ3
  generalize v3.alloc (Obj.cells #[.int .i64 x.f0, .string x.f1, .int .i64 x.f2, .int .u64 x.f3, .slice A3 x.f4.length c3, .int .i64 x.f5] 44) = w6 at *
  generalize v3.heap.size = b14 at *
  have tc0 : w6.cell? ⟨b8, 0, none⟩ = some (.int .i64 n.f0) := (blk_cell HN1.out 0).trans rfl
  have tc1 : w6.cell? ⟨b8, 1, none⟩ = some (.string n.f1) := (blk_cell HN1.out 1).trans rfl
  have tc2 : w6.cell? ⟨b8, 2, none⟩ = some (.int .i64 n.f2) := (blk_cell HN1.out 2).trans rfl
  have tc3 : w6.cell? ⟨b8, 3, none⟩ = some (.int .u64 n.f3) := (blk_cell HN1.out 3).trans rfl
  have tc4 : w6.cell? ⟨b8, 4, none⟩ = some (.slice A1 n.f4.length c1) := (blk_cell HN1.out 4).trans rfl
  have tc5 : w6.cell? ⟨b8, 5, none⟩ = some (.int .i64 n.f5) := (blk_cell HN1.out 5).trans rfl
  have q1a := Zq1a.out
  have q1b := Zq1b.out
  have q1c := Zq1c.out
  have q2a := Zq2a.out
  have q2b := Zq2b.out
  have q3a := Zq3a.out
  have q3b := Zq3b.out
  subst q1a
  subst q2a
  subst q2b
  subst q3a
  subst q3b
  have e1 : (n.f0 == 6) = true := by rw [q1b]; rfl
  have e2 : (n.f5 == 1) = true := by rw [q1c]; rfl
  clear q1b q1c
  go_wp2_with (go_at_call 29; (with_reducible refine (CS _ A1 c1 ?_ ?_).mono ?_); exact HD1.out; exact HL1.out; rintro e_ w7 ⟨rfl, hB⟩; have HB7 := Lib.hid (below_step HB3.out hB); clear hB)
  go_ret
  exact ⟨rfl, HB7.out⟩
end Go.Proofs.YtfgfoofojofnmaaDoor.Q
