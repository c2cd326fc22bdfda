import Derived.Test.YtfgfoofojofnmaaDoorGQ0
import Derived.Test.YtfgfoofojofnmaaDoorGQF67
import Derived.Test.YtfgfoofojofnmaaDoorGQF38
import Derived.Test.YtfgfoofojofnmaaDoorGL1
set_option linter.unusedVariables false
set_option linter.unusedSimpArgs false
-- Written by a program of this session's (wip/tools/hprint.py, over the kit's print.py). Not trusted: Lean checks it.
namespace Go.Proofs.YtfgfoofojofnmaaDoor.Q
open Go.RowKit Go.Proofs.YtfgfoofojofnmaaDoorW.PrintWords Go.Proofs.YtfgfoofojofnmaaDoorW.PrintLast Go.Proofs.YtfgfoofojofnmaaDoorW.PrintMore
attribute [local go_sem] Go.Proofs.YtfgfoofojofnmaaDoor.Hand.w64_mod256 Go.Proofs.YtfgfoofojofnmaaDoor.Hand.w64_mod32 max2_int min2_int max_two min_two max_three min_three max_four min_four   -- for this text's walks alone
set_option linter.unusedVariables false
set_option linter.unusedSimpArgs false

/-! ### lex_Scan: function 15 -/
open Go.Proofs.YtfgfoofojofnmaaDoor.Hand
def lex_Scan.f (a0 : ByteArray) : Option ((List (S39)) × Int × Int) := if a0.size ≤ 1024 then some (scanT a0.data.toList 0 []) else some ([], 0, 4)
theorem scan_cons (s : ByteArray) (i : Nat) (h : i < s.size) : ∃ c r, s.data.toList.drop i = c :: r ∧ s.data.toList.drop (i + 1) = r ∧ s[i] = c ∧ r.length + i + 1 = s.size ∧ s.extract i s.size = bs (c :: r) := by
  have hl : i < s.data.toList.length := by simpa using h
  refine ⟨s.data.toList[i], s.data.toList.drop (i + 1), List.drop_eq_getElem_cons hl, rfl, (get_data s i h).symm, ?_, ?_⟩
  · simp only [List.length_drop]
    have : s.data.toList.length = s.size := by simp
    omega
  · have h1 := bs_extract s.data.toList i s.size
    rw [bs_of, List.take_of_length_le (by simp), List.drop_eq_getElem_cons hl] at h1
    exact h1
attribute [local irreducible] oneT nOf
set_option maxHeartbeats 2000000 in
set_option maxRecDepth 100000 in
theorem lex_Scan.calls (a0 : ByteArray) (r1 : List (S39)) (r2 : Int) (r3 : Int) (w : World) (h : lex_Scan.f a0 = some (r1, r2, r3)) :
    Calls Tryd.prog 15 #[.string a0] w fun e w' => ∃ v0_ : Value, e = .returned (.tuple #[v0_, .int .i64 r2, .int .i64 r3]) ∧ Kd.R k39 39 w' w.heap.size (fun _ => True) v0_ r1 ∧ Below w.heap.size w w' := by
  unfold lex_Scan.f at h
  by_cases hs : a0.size ≤ 1024
  · rw [if_pos hs] at h
    have HF := Lib.hid (Option.some.inj h)
    clear h
    go_enter Tryd.func15, Tryd.ntmps15
    go_wp2
    go_loopw [5, 6] (fun v5 v6 wr => ∃ (i : Nat) (out : List S39), i ≤ a0.size ∧ out.length ≤ i ∧ v6 = .int .i64 (i : Int) ∧ Aside0 (scanT (a0.data.toList.drop i) i out = (r1, r2, r3)) ∧ Aside0 (Kd.R k39 39 wr w.heap.size (fun _ => True) v5 out) ∧ Aside0 (Below w.heap.size w wr)) (fun _ v6 _ => a0.size - (intOf v6).toNat)
    case atStart => exact ⟨0, [], by omega, by simp, rfl, ⟨HF.out⟩, ⟨Kd.R_nil _ _ _ _ _⟩, ⟨Below.refl _ _⟩⟩
    case round =>
      obtain ⟨i, out, hi, ho, rfl, HT, HR, HB⟩ := hrel
      by_cases hlt : i < a0.size
      · obtain ⟨c, r, hd, hd1, hc, hl, hx⟩ := scan_cons a0 i hlt
        have HC : Hid (a0[i] = c) := Lib.hid hc
        have HX := Lib.hid hx
        have HD := Lib.hid hd
        have HD1 := Lib.hid hd1
        clear hc hx hd hd1
        by_cases hb : c = 32 ∨ c = 9
        · have HT2 : Hid (scanT (a0.data.toList.drop (i + 1)) (i + 1) out = (r1, r2, r3)) := Lib.hid (by rw [HD1.out, ← scanT_blank hb, ← HD.out]; exact HT.out)
          by_cases h32 : c = 32
          · have t32 : ((a0[i].toNat : Int) == 32) = true := by rw [HC.out, h32]; rfl
            clear hb h32
            go_wp2
            go_roundw
            case rel => exact ⟨i + 1, out, by omega, by omega, by go_num, ⟨HT2.out⟩, HR, HB⟩
            case measure => simp [intOf]; omega
          · have h9 : c = 9 := hb.resolve_left h32
            have t32 : ((a0[i].toNat : Int) == 32) = false := by rw [HC.out, h9]; rfl
            have t9 : ((a0[i].toNat : Int) == 9) = true := by rw [HC.out, h9]; rfl
            clear hb h32 h9
            go_wp2
            go_roundw
            case rel => exact ⟨i + 1, out, by omega, by omega, by go_num, ⟨HT2.out⟩, HR, HB⟩
            case measure => simp [intOf]; omega
        · have t32 : ((a0[i].toNat : Int) == 32) = false := by
            rw [HC.out, beq_eq_false_iff_ne]; intro e; exact hb (.inl ((byte_is c 32 (by decide)).1 e))
          have t9 : ((a0[i].toNat : Int) == 9) = false := by
            rw [HC.out, beq_eq_false_iff_ne]; intro e; exact hb (.inr ((byte_is c 9 (by decide)).1 e))
          have HO : Hid (lex_one.f (a0.extract i a0.size) = some ((oneT c r).1, (oneT c r).2.1, (oneT c r).2.2.1, (oneT c r).2.2.2.1, (oneT c r).2.2.2.2.1, (oneT c r).2.2.2.2.2)) := Lib.hid (by rw [HX.out, one_list c r (by omega), oneT_eq])
          have C := fun W => lex_one.calls _ _ _ _ _ _ _ W HO.out
          have hn := nOf_le c r
          have hn1 := nOf_eq c r
          by_cases h0 : nOf (oneT c r) = 0
          · have HT2 : Hid (([], (i : Int), 30) = (r1, r2, r3)) := Lib.hid (by rw [← scanT_bad hb h0 i out, ← HD.out]; exact HT.out)
            have hq : (oneT c r).2.2.2.2.2 = 0 := by omega
            have tq : ((oneT c r).2.2.2.2.2 == 0) = true := beq_iff_eq.2 hq
            clear hb hn hn1 h0 hq HO
            generalize (oneT c r).1 = q1 at *
            generalize (oneT c r).2.1 = q2 at *
            generalize (oneT c r).2.2.1 = q3 at *
            generalize (oneT c r).2.2.2.1 = q4 at *
            generalize (oneT c r).2.2.2.2.1 = q5 at *
            generalize (oneT c r).2.2.2.2.2 = q6 at *
            go_wp2_with (go_at_call 38; (with_reducible refine (C _).mono ?_); rintro e w1 ⟨rfl, hb1⟩)
            go_ret3
            have e1 := HT2.out
            simp only [Prod.mk.injEq] at e1
            obtain ⟨rfl, rfl, rfl⟩ := e1
            exact ⟨_, rfl, Kd.R_nil _ _ _ _ _, below_alloc (below_step (by repeat (first | exact HB.out | apply pw_below_drewN | apply below_drew1)) hb1) _⟩
          · have HT2 : Hid (scanT (a0.data.toList.drop (i + nOf (oneT c r))) (i + nOf (oneT c r)) (out ++ [⟨(oneT c r).1, (oneT c r).2.1, (oneT c r).2.2.1, (oneT c r).2.2.2.1, (i : Int)⟩]) = (r1, r2, r3)) := Lib.hid (by
              show scanT _ _ (out ++ [tokOf (oneT c r) i]) = _
              rw [← List.drop_drop, HD.out, ← scanT_tok hb h0 i out, ← HD.out]; exact HT.out)
            have tq : ((oneT c r).2.2.2.2.2 == 0) = false := beq_eq_false_iff_ne.2 (by omega)
            have hq6 : (nOf (oneT c r) : Int) = (oneT c r).2.2.2.2.2 := hn1
            generalize hq : nOf (oneT c r) = q at *
            clear hb HO hq hn1
            generalize (oneT c r).1 = q1 at *
            generalize (oneT c r).2.1 = q2 at *
            generalize (oneT c r).2.2.1 = q3 at *
            generalize (oneT c r).2.2.2.1 = q4 at *
            generalize (oneT c r).2.2.2.2.1 = q5 at *
            generalize (oneT c r).2.2.2.2.2 = q6 at *
            subst hq6
            go_wp2_with (first | (go_at_call 38; (with_reducible refine (C _).mono ?_); rintro e w1 ⟨rfl, hb1⟩; have HB1 := Lib.hid (below_step HB.out hb1); have HR1 := Lib.hid (Kd.R_below HR.out hb1); clear hb1) | (at_builtin; refine Kd.R_append k39 (w0 := w) w.heap.size rfl (.tmp 40) (.tmp 42) 23 39 (.agg #[(.int .i64 0), (.string ⟨#[]⟩), (.int .i64 0), (.int .u64 0), (.int .i64 0)]) 48 rfl Tryd.underlying23 info39 rfl (by decide) (by omega) u5 out (⟨q1, q2, q3, q4, (i : Int)⟩ : S39) [.int .i64 q1, .string q2, .int .i64 q3, .int .u64 q4, .int .i64 i] (fun _ => True) (fun _ => False) rfl (by first | (go_simp; done) | (go_simp; rfl)) (k39_mkM _ _ _ (⟨q1, q2, q3, q4, (i : Int)⟩ : S39)) (fun _ hk => hk.elim) (fun _ _ => trivial) (Kd.R_alloc HR1.out _) (below_alloc HB1.out _) (below_size (below_alloc HB1.out _)) (by omega) ?_; intro v1 w2 ho2 hb2 hg2 hat2; clear hg2 hat2; have HO2 := Lib.hid ho2; have HB2 := Lib.hid hb2; clear ho2 hb2))
            go_roundw
            case rel => exact ⟨i + q, out ++ [⟨q1, q2, q3, q4, (i : Int)⟩], by omega, by simp; omega, by go_num, ⟨HT2.out⟩, ⟨HO2.out⟩, ⟨HB2.out⟩⟩
            case measure => simp [intOf]; omega
      · have HT2 : Hid ((out, (0 : Int), (0 : Int)) = (r1, r2, r3)) := Lib.hid (by
          have := HT.out
          rw [List.drop_eq_nil_of_le (by simp; omega), scanT_nil] at this
          exact this)
        clear HT
        go_wp2
        go_ret3
        have e1 := HT2.out
        simp only [Prod.mk.injEq] at e1
        obtain ⟨rfl, rfl, rfl⟩ := e1
        exact ⟨_, rfl, HR.out, HB.out⟩
  · rw [if_neg hs] at h
    have e1 := Option.some.inj h
    simp only [Prod.mk.injEq] at e1
    obtain ⟨rfl, rfl, rfl⟩ := e1
    clear h
    go_enter Tryd.func15, Tryd.ntmps15
    go_wp2
    go_ret3
    exact ⟨_, rfl, Kd.R_nil _ _ _ _ _, Below.refl _ _⟩

end Go.Proofs.YtfgfoofojofnmaaDoor.Q
