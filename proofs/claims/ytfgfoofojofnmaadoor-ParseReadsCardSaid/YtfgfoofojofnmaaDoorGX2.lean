/- lex.Write walked, where the table of powers is laid: tokens as a text. -/
import Derived.Lib.AppendIntMem
import Derived.Test.YtfgfoofojofnmaaDoorGX1
import Derived.Test.YtfgfoofojofnmaaDoorG6
import Derived.Test.YtfgfoofojofnmaaDoorGQF45
set_option linter.unusedVariables false
set_option linter.unusedSimpArgs false
namespace Go.Proofs.YtfgfoofojofnmaaDoor.Q
open Go.RowKit Go.Proofs.YtfgfoofojofnmaaDoorW.PrintWords Go.Proofs.YtfgfoofojofnmaaDoorW.PrintLast Go.Proofs.YtfgfoofojofnmaaDoorW.PrintMore
set_option linter.unusedVariables false
set_option linter.unusedSimpArgs false
open Go.Proofs.YtfgfoofojofnmaaDoor.Hand
theorem below_allocX (w : World) (o : Obj) : Below w.heap.size w (w.alloc o) := below_alloc (Below.refl _ _) o
theorem join_f' (L : List ByteArray) (s : ByteArray) (h1 : L.length ≤ 140737488355328) (h2 : (Lib.join (L.map fun x => x.data.toList) s.data.toList).length ≤ 140737488355328) : strings_Join.f L s = some (joinB L s) := by unfold strings_Join.f; rw [if_pos ⟨h1, h2⟩]
theorem join_call' (A : Option Addr) (c : Nat) (L : List ByteArray) (s J : ByteArray) (n : Nat) (hn : L.length = n) (hc : n ≤ c) (hj : strings_Join.f L s = some J) (W : World) (hC : Kd.C Kd.string W A n L) : Calls Tryd.prog 45 #[.slice A n c, .string s] W fun e w' => e = .returned (.string J) ∧ Below W.heap.size W w' := by
  subst hn
  exact strings_Join.calls A c L s J W hC hc hj
/-- The table of powers of ten is laid. -/
def GW (w : World) : Prop := Lib.TabIs Tryd.prog w "internal/strconv.uint64pow10" .u64 Lib.pow10Tab
theorem gw_below (W W' : World) (hB : Below W.heap.size W W') (h : GW W) : GW W' := by
  unfold GW Lib.TabIs World.var? at *
  cases hg : Tryd.prog.globalNamed "internal/strconv.uint64pow10" with
  | none => simp [hg] at h
  | some g =>
    simp only [hg, Option.bind_some] at h ⊢
    have hlt : g < W.heap.size := by
      rcases Nat.lt_or_ge g W.heap.size with h' | h'
      · exact h'
      · rw [Array.getElem?_eq_none h'] at h; simp at h
    rw [hB.block g hlt]
    exact h
theorem itoa_is (n : Int) (h : 0 ≤ n) : (⟨(Lib.itoa n).toArray⟩ : ByteArray) = itoaT n := by
  unfold itoaT Lib.itoa
  rw [if_neg (by omega)]
theorem itoa_any (W : World) (n : Int) (hg : GW W) (h0 : 0 ≤ n) (h9 : n < 1000000000) : Calls Tryd.prog 43 #[.int .i64 n] W fun e w' => e = .returned (.string (itoaT n)) ∧ Below W.heap.size W w' := by
  refine (Tryd.strconv_Itoa n (by omega) (by omega) W hg).mono ?_
  rintro e w' ⟨rfl, k, os, rfl⟩
  rw [itoa_is n h0]
  exact ⟨rfl, Lib.below_grow _ W (Nat.le_refl _) k os⟩
theorem itoa_size (n : Int) (h0 : 0 ≤ n) (h9 : n < 1000000000) : (itoaT n).size ≤ 9 := by
  have : (itoaT n).size = (Lib.decDigits n.toNat).length := by simp [itoaT, ByteArray.size]
  rw [this, Lib.decDigits_length]
  exact nDigits_le 9 _ (by decide) (by rw [show (10 : Nat) ^ 9 = 1000000000 from by decide]; omega)
def hexT (id : Int) : ByteArray := ⟨(Hx.digs id.toNat).toArray⟩
theorem hash_is (id : Int) : hashT id = (⟨#[35]⟩ : ByteArray) ++ hexT id := by
  apply ByteArray.ext
  apply Array.toList_inj.1
  simp [hashT, hexT, Hx.digs, Hx.hexDig, hexDig]
theorem hexT_any (W : World) (id : Int) (h0 : 0 ≤ id) (h1 : id < 18446744073709551616) : Calls Tryd.prog 44 #[.int .u64 id] W fun e w' => e = .returned (.string (hexT id)) ∧ Below W.heap.size W w' := by
  have h := Hx.hex_any id.toNat (by omega) W
  rw [Int.toNat_of_nonneg h0] at h
  exact h
theorem hexT_size (id : Int) : (hexT id).size = 16 := by simp [hexT, Hx.digs, ByteArray.size]
/-- Tokens as a text: each as itself, a blank between. -/
def writeT (l : List S39) : ByteArray := joinB (l.map wtok) (⟨#[32]⟩ : ByteArray)
theorem writeT_list (l : List S39) : (writeT l).data.toList = Lib.join (l.map fun t => (wtok t).data.toList) [32] := by
  simp [writeT, joinB, List.map_map, Function.comp_def]
theorem wtok_size {t : S39} (h : TokOk t) : (wtok t).size ≤ 1026 := by
  unfold wtok
  by_cases h2 : t.f0 = 2
  · rw [if_pos h2]
    rcases h with ⟨h0, _⟩ | ⟨h0, _, h6, h7, _⟩ | ⟨h0, _⟩ | ⟨h0, _⟩ | ⟨h0, _⟩
    all_goals first | (have := itoa_size t.f2 h6 h7; omega) | (rw [h2] at h0; exact absurd h0 (by decide))
  · rw [if_neg h2]
    by_cases h3 : t.f0 = 3
    · rw [if_pos h3]
      rcases h with ⟨h0, _⟩ | ⟨h0, _⟩ | ⟨h0, h6, _⟩ | ⟨h0, _⟩ | ⟨h0, _⟩
      all_goals first | (have := h6.2.2; simp only [ByteArray.size_append]; show 1 + _ + 1 ≤ _; omega) | (rw [h3] at h0; exact absurd h0 (by decide))
    · rw [if_neg h3]
      by_cases h4 : t.f0 = 4
      · rw [if_pos h4, hash_is, ByteArray.size_append, hexT_size]; decide
      · rw [if_neg h4]
        have sz : ∀ {s : ByteArray} {l : List UInt8}, s.data.toList = l → l.length ≤ 16 → s.size ≤ 1026 := fun {s l} e h => by
          have : s.data.toList.length = s.size := by simp
          rw [e] at this; omega
        rcases h with ⟨h0, ⟨c, r, h6, _, _, h7⟩, _⟩ | ⟨h0, _⟩ | ⟨h0, _⟩ | ⟨h0, _⟩ | ⟨h0, _, _, ⟨c, h6, _⟩ | h6 | h6⟩
        · exact sz h6 (by simpa using h7)
        · exact absurd h0 h2
        · exact absurd h0 h3
        · exact absurd h0 h4
        all_goals exact sz h6 (by simp)
theorem join_le (n : Nat) : ∀ l : List (List UInt8), (∀ x ∈ l, x.length ≤ n) → (Lib.join l [32]).length ≤ l.length * (n + 1)
  | [], _ => by simp [Lib.join_nil]
  | [x], h => by rw [Lib.join_one]; have := h x (by simp); simp; omega
  | x :: y :: r, h => by
    rw [join_two]
    have h1 := h x (by simp)
    have h2 := join_le n (y :: r) (fun z hz => h z (List.mem_cons_of_mem _ hz))
    simp only [List.length_append, List.length_cons, List.length_nil] at h2 ⊢
    rw [Nat.add_mul (r.length + 1) 1, Nat.one_mul]
    omega
theorem wt_2 {t : S39} (h : t.f0 = 2) : wtok t = itoaT t.f2 := by unfold wtok; rw [if_pos h]
theorem wt_3 {t : S39} (h : t.f0 = 3) : wtok t = ((⟨#[39]⟩ : ByteArray) ++ t.f1) ++ (⟨#[39]⟩ : ByteArray) := by unfold wtok; rw [if_neg (by rw [h]; decide), if_pos h]
theorem wt_4 {t : S39} (h : t.f0 = 4) : wtok t = (⟨#[35]⟩ : ByteArray) ++ hexT t.f3 := by unfold wtok; rw [if_neg (by rw [h]; decide), if_neg (by rw [h]; decide), if_pos h, hash_is]
theorem wt_5 {t : S39} (h2 : t.f0 ≠ 2) (h3 : t.f0 ≠ 3) (h4 : t.f0 ≠ 4) : wtok t = t.f1 := by unfold wtok; rw [if_neg h2, if_neg h3, if_neg h4]
theorem tok_2 {t : S39} (h : TokOk t) (h2 : t.f0 = 2) : 0 ≤ t.f2 ∧ t.f2 < 1000000000 := by
  rcases h with ⟨h0, _⟩ | ⟨h0, _, h6, h7, _⟩ | ⟨h0, _⟩ | ⟨h0, _⟩ | ⟨h0, _⟩
  all_goals first | exact ⟨h6, h7⟩ | (rw [h2] at h0; exact absurd h0 (by decide))
theorem tok_4 {t : S39} (h : TokOk t) (h2 : t.f0 = 4) : 0 ≤ t.f3 ∧ t.f3 < 18446744073709551616 := by
  rcases h with ⟨h0, _⟩ | ⟨h0, _⟩ | ⟨h0, _⟩ | ⟨h0, _, _, h6, h7⟩ | ⟨h0, _⟩
  all_goals first | exact ⟨h6, h7⟩ | (rw [h2] at h0; exact absurd h0 (by decide))
theorem rdT39 (l : List S39) (i : Nat) (h : i < l.length) : rd_T39 l (i : Int) = l[i] := by simp [rd_T39, List.getD_eq_getElem?_getD, List.getElem?_eq_getElem h]
theorem write_step (l : List S39) (i : Nat) (h : i < l.length) : (l.take (i + 1)).map wtok = (l.take i).map wtok ++ [wtok l[i]] := by
  rw [List.take_succ_eq_append_getElem h, List.map_append]; rfl
set_option maxHeartbeats 4000000 in
set_option maxRecDepth 100000 in
theorem write_any (l : List S39) (hl : ∀ t ∈ l, TokOk t) (hn : l.length ≤ 2000) (A : Option Addr) (c : Nat) (w : World) (hg : GW w) (hC : Kd.C k39 w A l.length l) (hc : l.length ≤ c) :
    Calls Tryd.prog 19 #[.slice A l.length c] w fun e w' => e = .returned (.string (writeT l)) ∧ Below w.heap.size w w' := by
  have HG := Lib.hid hg
  have HC := Lib.hid hC
  have HL := Lib.hid hl
  have HF := Lib.hid (join_f' (l.map wtok) (⟨#[32]⟩ : ByteArray) (by simp; omega) (by
    have := join_le 1026 ((l.map wtok).map fun x => x.data.toList) (fun x hx => by
      rw [List.map_map] at hx
      obtain ⟨t, ht, rfl⟩ := List.mem_map.1 hx
      have h1 := wtok_size (hl t ht)
      have h2 : (wtok t).data.toList.length = (wtok t).size := by simp
      show (wtok t).data.toList.length ≤ _
      omega)
    simp only [List.length_map] at this
    show (Lib.join _ [32]).length ≤ _
    omega))
  clear hg hC hl
  have HB0 := Lib.hid (Below.refl w.heap.size w)
  go_enter Tryd.func19, Tryd.ntmps19
  go_wp2
  go_loopw [3, 9] (fun v3 v9 wr => ∃ i : Nat, i ≤ l.length ∧ v9 = .int .i64 (i : Int) ∧ Aside0 (Kd.R Kd.string 9 wr w.heap.size (fun _ => True) v3 ((l.take i).map wtok)) ∧ Aside0 (Below w.heap.size w wr)) (fun _ v9 _ => l.length - (intOf v9).toNat)
  case atStart => exact ⟨0, Nat.zero_le _, rfl, ⟨Kd.R_nil _ _ _ _ _⟩, ⟨Below.refl _ _⟩⟩
  case round =>
    obtain ⟨i, hi, rfl, HR, HBw⟩ := hrel
    have hrl : ((l.take i).map wtok).length = i := by simp; omega
    obtain ⟨A3, c3, rfl⟩ : ∃ A c, u3 = Value.slice A i c := by obtain ⟨A3, c3, e3⟩ := Kd.R_slice HR.out; rw [hrl] at e3; exact ⟨A3, c3, e3⟩
    by_cases hlt : i < l.length
    · have HS := Lib.hid (write_step l i hlt)
      have ht := HL.out l[i] (List.getElem_mem hlt)
      obtain ⟨ad, rfl, x0, x1, x2, x3, x4⟩ := at_T39 (Kd.C_below HC.out HBw.out) (i : Int) (by omega) (by omega)
      rw [rdT39 l i hlt] at x0 x1 x2 x3 x4
      simp only [Int.toNat_natCast] at x0 x1 x2 x3 x4
      have HT := Lib.hid ht
      have hzs := wtok_size ht
      clear ht
      generalize l[i] = t at *
      by_cases h2 : t.f0 = 2
      · have HW := Lib.hid (wt_2 h2)
        have t2 : (t.f0 == 2) = true := by rw [h2]; rfl
        have hh := tok_2 HT.out h2
        have CI := fun W hg => itoa_any W t.f2 hg hh.1 hh.2
        clear h2 hh
        obtain ⟨z, hz⟩ : ∃ z, wtok t = z := ⟨_, rfl⟩
        rw [hz] at HS hzs HW
        clear hz
        rw [← HW.out] at CI
        clear HW
        go_wp2_with (first | (go_at_call 43; (with_reducible refine (CI _ (gw_below _ _ (below_step HBw.out (below_allocX wr (Obj.cells #[.int .i64 t.f0, .string t.f1, .int .i64 t.f2, .int .u64 t.f3, .int .i64 t.f4] 39))) HG.out)).mono ?_); rintro e_ w1 ⟨rfl, hB⟩; have hB2 := below_step (below_allocX wr (Obj.cells #[.int .i64 t.f0, .string t.f1, .int .i64 t.f2, .int .u64 t.f3, .int .i64 t.f4] 39)) hB; have HR1 := Lib.hid (Kd.R_below HR.out hB2); have HW1 := Lib.hid (below_step HBw.out hB2); have HN1 := Lib.hid (blk_belowU hB (blk_new wr (Obj.cells #[.int .i64 t.f0, .string t.f1, .int .i64 t.f2, .int .u64 t.f3, .int .i64 t.f4] 39))); clear hB hB2) | (at_builtin; refine Kd.R_append Kd.string (w0 := w) w.heap.size rfl (.tmp 34) (.tmp 36) 69 9 (.string ⟨#[]⟩) 16 rfl Tryd.underlying69 info9 rfl (by decide) (by omega) (.slice A3 i c3) ((l.take i).map wtok) z [.string z] (fun _ => True) (fun _ => False) rfl (by first | (go_simp; done) | (go_simp; rfl)) rfl (fun _ hk => hk.elim) (fun _ _ => trivial) HR1.out HW1.out HW1.out.size (by rw [hrl]; omega) ?_; intro v1 w5 ho hb5 hg5 hat5; clear hg5 hat5; have HR5 := Lib.hid ho; have HW5 := Lib.hid hb5; clear ho hb5))
        go_roundw
        case rel => exact ⟨i + 1, by omega, by go_num, ⟨by rw [HS.out]; exact HR5.out⟩, ⟨HW5.out⟩⟩
        case measure => simp [intOf]; omega
      by_cases h3 : t.f0 = 3
      · have HW := Lib.hid (wt_3 h3)
        have t2 : (t.f0 == 2) = false := beq_eq_false_iff_ne.2 h2
        have t3 : (t.f0 == 3) = true := by rw [h3]; rfl
        clear h2 h3
        obtain ⟨z, hz⟩ : ∃ z, wtok t = z := ⟨_, rfl⟩
        rw [hz] at HS hzs HW
        clear hz
        have hz1 : 1 + t.f1.size + 1 = z.size := by rw [HW.out]; simp only [ByteArray.size_append]; rfl
        have HR1 := Lib.hid (Kd.R_below HR.out (below_allocX wr (Obj.cells #[.int .i64 t.f0, .string t.f1, .int .i64 t.f2, .int .u64 t.f3, .int .i64 t.f4] 39)))
        have HW1 := Lib.hid (below_step HBw.out (below_allocX wr (Obj.cells #[.int .i64 t.f0, .string t.f1, .int .i64 t.f2, .int .u64 t.f3, .int .i64 t.f4] 39)))
        go_wp2_with ((at_builtin; refine Kd.R_append Kd.string (w0 := w) w.heap.size rfl (.tmp 34) (.tmp 36) 69 9 (.string ⟨#[]⟩) 16 rfl Tryd.underlying69 info9 rfl (by decide) (by omega) (.slice A3 i c3) ((l.take i).map wtok) (((⟨#[39]⟩ : ByteArray) ++ t.f1) ++ (⟨#[39]⟩ : ByteArray)) [.string (((⟨#[39]⟩ : ByteArray) ++ t.f1) ++ (⟨#[39]⟩ : ByteArray))] (fun _ => True) (fun _ => False) rfl (by first | (go_simp; done) | (go_simp; rfl)) rfl (fun _ hk => hk.elim) (fun _ _ => trivial) HR1.out HW1.out HW1.out.size (by rw [hrl]; omega) ?_; intro v1 w5 ho hb5 hg5 hat5; clear hg5 hat5; have HR5 := Lib.hid ho; have HW5 := Lib.hid hb5; clear ho hb5))
        go_roundw
        case rel => exact ⟨i + 1, by omega, by go_num, ⟨by rw [HS.out, HW.out]; exact HR5.out⟩, ⟨HW5.out⟩⟩
        case measure => simp [intOf]; omega
      by_cases h4 : t.f0 = 4
      · have HW := Lib.hid (wt_4 h4)
        have t2 : (t.f0 == 2) = false := beq_eq_false_iff_ne.2 h2
        have t3 : (t.f0 == 3) = false := beq_eq_false_iff_ne.2 h3
        have t4 : (t.f0 == 4) = true := by rw [h4]; rfl
        have hh := tok_4 HT.out h4
        have CI := fun W => hexT_any W t.f3 hh.1 hh.2
        have hx := hexT_size t.f3
        clear h2 h3 h4 hh
        generalize hexT t.f3 = hx1 at *
        obtain ⟨z, hz⟩ : ∃ z, wtok t = z := ⟨_, rfl⟩
        rw [hz] at HS hzs HW
        clear hz
        go_wp2_with (first | (go_at_call 44; (with_reducible refine (CI _).mono ?_); rintro e_ w1 ⟨rfl, hB⟩; have hB2 := below_step (below_allocX wr (Obj.cells #[.int .i64 t.f0, .string t.f1, .int .i64 t.f2, .int .u64 t.f3, .int .i64 t.f4] 39)) hB; have HR1 := Lib.hid (Kd.R_below HR.out hB2); have HW1 := Lib.hid (below_step HBw.out hB2); have HN1 := Lib.hid (blk_belowU hB (blk_new wr (Obj.cells #[.int .i64 t.f0, .string t.f1, .int .i64 t.f2, .int .u64 t.f3, .int .i64 t.f4] 39))); clear hB hB2) | (at_builtin; refine Kd.R_append Kd.string (w0 := w) w.heap.size rfl (.tmp 34) (.tmp 36) 69 9 (.string ⟨#[]⟩) 16 rfl Tryd.underlying69 info9 rfl (by decide) (by omega) (.slice A3 i c3) ((l.take i).map wtok) ((⟨#[35]⟩ : ByteArray) ++ hx1) [.string ((⟨#[35]⟩ : ByteArray) ++ hx1)] (fun _ => True) (fun _ => False) rfl (by first | (go_simp; done) | (go_simp; rfl)) rfl (fun _ hk => hk.elim) (fun _ _ => trivial) HR1.out HW1.out HW1.out.size (by rw [hrl]; omega) ?_; intro v1 w5 ho hb5 hg5 hat5; clear hg5 hat5; have HR5 := Lib.hid ho; have HW5 := Lib.hid hb5; clear ho hb5))
        go_roundw
        case rel => exact ⟨i + 1, by omega, by go_num, ⟨by rw [HS.out, HW.out]; exact HR5.out⟩, ⟨HW5.out⟩⟩
        case measure => simp [intOf]; omega
      have HW := Lib.hid (wt_5 h2 h3 h4)
      have t2 : (t.f0 == 2) = false := beq_eq_false_iff_ne.2 h2
      have t3 : (t.f0 == 3) = false := beq_eq_false_iff_ne.2 h3
      have t4 : (t.f0 == 4) = false := beq_eq_false_iff_ne.2 h4
      clear h2 h3 h4
      rw [HW.out] at HS hzs
      clear HW
      have HR1 := Lib.hid (Kd.R_below HR.out (below_allocX wr (Obj.cells #[.int .i64 t.f0, .string t.f1, .int .i64 t.f2, .int .u64 t.f3, .int .i64 t.f4] 39)))
      have HW1 := Lib.hid (below_step HBw.out (below_allocX wr (Obj.cells #[.int .i64 t.f0, .string t.f1, .int .i64 t.f2, .int .u64 t.f3, .int .i64 t.f4] 39)))
      go_wp2_with ((at_builtin; refine Kd.R_append Kd.string (w0 := w) w.heap.size rfl (.tmp 34) (.tmp 36) 69 9 (.string ⟨#[]⟩) 16 rfl Tryd.underlying69 info9 rfl (by decide) (by omega) (.slice A3 i c3) ((l.take i).map wtok) t.f1 [.string t.f1] (fun _ => True) (fun _ => False) rfl (by first | (go_simp; done) | (go_simp; rfl)) rfl (fun _ hk => hk.elim) (fun _ _ => trivial) HR1.out HW1.out HW1.out.size (by rw [hrl]; omega) ?_; intro v1 w5 ho hb5 hg5 hat5; clear hg5 hat5; have HR5 := Lib.hid ho; have HW5 := Lib.hid hb5; clear ho hb5))
      go_roundw
      case rel => exact ⟨i + 1, by omega, by go_num, ⟨by rw [HS.out]; exact HR5.out⟩, ⟨HW5.out⟩⟩
      case measure => simp [intOf]; omega
    · obtain rfl : i = l.length := by omega
      clear hlt
      obtain ⟨A5, c5, e5, hl5, hC5⟩ := Kd.R_reads HR.out
      rw [hrl] at e5 hl5 hC5
      injection e5 with ea eb ec
      subst ea
      subst ec
      rw [List.take_length] at HR hC5 hrl
      have CJ := join_call' A3 c3 (l.map wtok) (⟨#[32]⟩ : ByteArray) _ l.length hrl hl5 HF.out
      have HCJ := Lib.hid hC5
      clear hl5 hC5 HF
      obtain ⟨J, hJ⟩ : ∃ J, writeT l = J := ⟨_, rfl⟩
      have hJ2 : joinB (l.map wtok) (⟨#[32]⟩ : ByteArray) = J := hJ
      rw [hJ2] at CJ
      have HJ := Lib.hid hJ
      clear hJ hJ2
      go_wp2_with (go_at_call 45; (with_reducible refine (CJ _ HCJ.out).mono ?_); rintro e_ w7 ⟨rfl, hB⟩; have HB7 := Lib.hid (below_step HBw.out hB); clear hB)
      go_ret
      exact ⟨by rw [HJ.out]; rfl, HB7.out⟩
end Go.Proofs.YtfgfoofojofnmaaDoor.Q
