/- parse.Show walked. -/
import Derived.Outline
import Derived.Deep.RegionWith
import Derived.Test.YtfgfoofojofnmaaDoorGP4
import Derived.Test.YtfgfoofojofnmaaDoorGQF45
import Derived.Test.YtfgfoofojofnmaaDoorGP8
set_option linter.unusedVariables false
set_option linter.unusedSimpArgs false
namespace Go.Proofs.YtfgfoofojofnmaaDoor.Q
open Go.RowKit Go.Proofs.YtfgfoofojofnmaaDoorW.PrintWords Go.Proofs.YtfgfoofojofnmaaDoorW.PrintLast Go.Proofs.YtfgfoofojofnmaaDoorW.PrintMore
set_option linter.unusedVariables false
set_option linter.unusedSimpArgs false
open Go.Proofs.YtfgfoofojofnmaaDoor.Hand
theorem tok_row (W : World) (id : Int) : Kd.C k39 (W.alloc (.cells #[.int .i64 4, .string (⟨#[]⟩ : ByteArray), .int .i64 0, .int .u64 id, .int .i64 0] 39)) (some ⟨W.heap.size, 0, none⟩) 1 [(⟨4, ⟨#[]⟩, 0, id, 0⟩ : S39)] := by
  refine ⟨rfl, by decide, fun _ => ⟨_, rfl, fun j p hj => ?_⟩⟩
  cases j with
  | zero =>
    have e : p = (⟨4, ⟨#[]⟩, 0, id, 0⟩ : S39) := by simpa using hj.symm
    subst e
    refine ⟨_, rfl, k39_mk _ _, fun i u hu => ?_⟩
    have hb := blk_new W (Obj.cells #[.int .i64 4, .string (⟨#[]⟩ : ByteArray), .int .i64 0, .int .u64 id, .int .i64 0] 39)
    have hc := blk_cell hb i
    have e2 : (⟨W.heap.size, 0, none⟩ : Addr).add (0 * k39.sz + i) = ⟨W.heap.size, i, none⟩ := by
      simp only [Nat.zero_mul, Nat.zero_add, Addr.add]
      by_cases h : i = 0
      · subst h; rfl
      · rw [if_neg h]
    rw [e2, hc]
    simpa using hu
  | succ j => simp at hj
theorem join_size (l : List ByteArray) (s : ByteArray) : (joinB l s).size = (Lib.join (l.map fun x => x.data.toList) s.data.toList).length := by simp [joinB, ByteArray.size]
theorem call_is (x : S44) (hop : x.f0 = 5) : showT x = ((x.f1 ++ (⟨#[40]⟩ : ByteArray)) ++ joinB ((List.range x.f4.length).map fun i => kidAt (showM x.f4) i 1) (⟨#[44, 32]⟩ : ByteArray)) ++ (⟨#[41]⟩ : ByteArray) := by
  have hl : (showM x.f4).length = x.f4.length := by rw [showM_map, List.length_map]
  rw [showT_is, hop, ← hl]
  rfl
theorem call_size (x : S44) (b : Nat) (hop : x.f0 = 5) (h : (showT x).size ≤ b) : (Lib.join (((List.range x.f4.length).map fun i => kidAt (showM x.f4) i 1).map fun x => x.data.toList) (⟨#[44, 32]⟩ : ByteArray).data.toList).length ≤ b := by
  rw [call_is x hop] at h
  simp only [ByteArray.size_append] at h
  rw [join_size] at h
  omega
theorem join_f (L : List ByteArray) (s : ByteArray) (h1 : L.length ≤ 140737488355328) (h2 : (Lib.join (L.map fun x => x.data.toList) s.data.toList).length ≤ 140737488355328) : strings_Join.f L s = some (joinB L s) := by unfold strings_Join.f; rw [if_pos ⟨h1, h2⟩]
theorem join_call (A : Option Addr) (c : Nat) (L : List ByteArray) (s J : ByteArray) (n : Nat) (hn : L.length = n) (hc : n ≤ c) (hj : strings_Join.f L s = some J) (W : World) (hC : Kd.C Kd.string W A n L) : Calls Tryd.prog 45 #[.slice A n c, .string s] W fun e w' => e = .returned (.string J) ∧ Below W.heap.size W w' := by
  subst hn
  exact strings_Join.calls A c L s J W hC hc hj
set_option maxHeartbeats 6000000 in
set_option maxRecDepth 100000 in
theorem show_walk {G : World → Prop} {okN okI : Int → Prop} (HE : ShowEnv G okN okI) (b : Nat) (hb : b ≤ 1000000000) (n : Nat) : n ≤ 1000000 → ∀ (x : S44) (A : Option Addr) (c : Nat) (w : World), wt x ≤ n → G w → okT okN okI b x → Kd.C k44 w A x.f4.length x.f4 → x.f4.length ≤ c →
    Calls Tryd.prog 29 #[.agg #[.int .i64 x.f0, .string x.f1, .int .i64 x.f2, .int .u64 x.f3, .slice A x.f4.length c, .int .i64 x.f5]] w fun e w' => e = .returned (.string (showT x)) ∧ Below w.heap.size w w' := by
  induction n with
  | zero => exact fun _ x A c w h => absurd (wt_pos x) (by omega)
  | succ n ih0 =>
    intro hn x A c w hx hg hokx hCx hc
    have ih : ∀ (y : S44) (A : Option Addr) (c : Nat) (W : World), wt y ≤ n → G W → okT okN okI b y → Kd.C k44 W A y.f4.length y.f4 → y.f4.length ≤ c → Calls Tryd.prog 29 #[.agg #[.int .i64 y.f0, .string y.f1, .int .i64 y.f2, .int .u64 y.f3, .slice A y.f4.length c, .int .i64 y.f5]] W fun e w' => e = .returned (.string (showT y)) ∧ Below W.heap.size W w' := fun y A c W h1 h2 h3 h4 h5 => ih0 (by omega) y A c W h1 h2 h3 h4 h5
    clear ih0
    have HG := Lib.hid hg
    have HC := Lib.hid hCx
    have hlx : x.f4.length ≤ 1000000 := by have e1 := wt_is x; have e2 := wtM_len x.f4; omega
    rw [okT_is] at hokx
    obtain ⟨hI, hN, hsz, hsb, hok⟩ := hokx
    clear hg hCx
    go_enter Tryd.func29, Tryd.ntmps29
    go_upto_region 1 with (fail)
    have HN := Lib.hid (blk_new w (Obj.cells #[.int .i64 x.f0, .string x.f1, .int .i64 x.f2, .int .u64 x.f3, .slice A x.f4.length c, .int .i64 x.f5] 44))
    have HBA := Lib.hid (below_alloc (Below.refl w.heap.size w) (Obj.cells #[.int .i64 x.f0, .string x.f1, .int .i64 x.f2, .int .u64 x.f3, .slice A x.f4.length c, .int .i64 x.f5] 44))
    generalize w.alloc (Obj.cells #[.int .i64 x.f0, .string x.f1, .int .i64 x.f2, .int .u64 x.f3, .slice A x.f4.length c, .int .i64 x.f5] 44) = wA at *
    generalize hb3 : w.heap.size = b3 at *
    have HBA : Hid (Below w.heap.size w wA) := Lib.hid (by rw [hb3]; exact HBA.out)
    clear hb3
    have nc0 : wA.cell? ⟨b3, 0, none⟩ = some (.int .i64 x.f0) := (blk_cell HN.out 0).trans rfl
    have nc1 : wA.cell? ⟨b3, 1, none⟩ = some (.string x.f1) := (blk_cell HN.out 1).trans rfl
    have nc2 : wA.cell? ⟨b3, 2, none⟩ = some (.int .i64 x.f2) := (blk_cell HN.out 2).trans rfl
    have nc3 : wA.cell? ⟨b3, 3, none⟩ = some (.int .u64 x.f3) := (blk_cell HN.out 3).trans rfl
    have nc4 : wA.cell? ⟨b3, 4, none⟩ = some (.slice A x.f4.length c) := (blk_cell HN.out 4).trans rfl
    have nc5 : wA.cell? ⟨b3, 5, none⟩ = some (.int .i64 x.f5) := (blk_cell HN.out 5).trans rfl
    by_cases h2 : x.f0 = 2
    · have hop := h2
      clear h2
      have HV : Hid (showT x = hashT x.f3) := Lib.hid (by rw [showT_is, hop]; rfl)
      have HI := Lib.hid (hI hop)
      have t2 : (x.f0 == 2) = true := by rw [hop]; rfl
      have t3 : (x.f0 == 3) = false := by rw [hop]; rfl
      have t4 : (x.f0 == 4) = false := by rw [hop]; rfl
      have t5 : (x.f0 == 5) = false := by rw [hop]; rfl
      have t6 : (x.f0 == 6) = false := by rw [hop]; rfl
      have t7 : (x.f0 == 7) = false := by rw [hop]; rfl
      have t8 : (x.f0 == 8) = false := by rw [hop]; rfl
      have t9 : (x.f0 == 9) = false := by rw [hop]; rfl
      have t10 : (x.f0 == 10) = false := by rw [hop]; rfl
      have t11 : (x.f0 == 11) = false := by rw [hop]; rfl
      have t12 : (x.f0 == 12) = false := by rw [hop]; rfl
      clear hop hok ih hN
      go_wp2_with (go_at_call 19; (with_reducible refine (HE.hash _ x.f3 ⟨wA.heap.size, 0, none⟩ ?_ HI.out (tok_row wA x.f3)).mono ?_); exact HE.below _ _ (below_alloc HBA.out _) HG.out; rintro e_ w1 ⟨rfl, hB⟩; have HB1 := Lib.hid (below_step (below_alloc HBA.out _) hB); clear hB)
      go_ret
      exact ⟨by rw [HV.out] <;> rfl, HB1.out⟩
    by_cases h3 : x.f0 = 3
    · have hop := h3
      clear h3 h2
      have HV : Hid (showT x = itoaT x.f2) := Lib.hid (by rw [showT_is, hop]; rfl)
      have HI := Lib.hid (hN (.inl hop))
      have t2 : (x.f0 == 2) = false := by rw [hop]; rfl
      have t3 : (x.f0 == 3) = true := by rw [hop]; rfl
      have t4 : (x.f0 == 4) = false := by rw [hop]; rfl
      have t5 : (x.f0 == 5) = false := by rw [hop]; rfl
      have t6 : (x.f0 == 6) = false := by rw [hop]; rfl
      have t7 : (x.f0 == 7) = false := by rw [hop]; rfl
      have t8 : (x.f0 == 8) = false := by rw [hop]; rfl
      have t9 : (x.f0 == 9) = false := by rw [hop]; rfl
      have t10 : (x.f0 == 10) = false := by rw [hop]; rfl
      have t11 : (x.f0 == 11) = false := by rw [hop]; rfl
      have t12 : (x.f0 == 12) = false := by rw [hop]; rfl
      clear hop hok ih hI
      go_wp2_with (go_at_call 43; (with_reducible refine (HE.itoa _ x.f2 ?_ HI.out).mono ?_); exact HE.below _ _ HBA.out HG.out; rintro e_ w1 ⟨rfl, hB⟩; have HB1 := Lib.hid (below_step HBA.out hB); clear hB)
      go_ret
      exact ⟨by rw [HV.out] <;> rfl, HB1.out⟩
    by_cases h4 : x.f0 = 4
    · have hop := h4
      clear h4 h2 h3
      have HV : Hid (showT x = ((⟨#[39]⟩ : ByteArray) ++ x.f1) ++ (⟨#[39]⟩ : ByteArray)) := Lib.hid (by rw [showT_is, hop]; rfl)
      have t2 : (x.f0 == 2) = false := by rw [hop]; rfl
      have t3 : (x.f0 == 3) = false := by rw [hop]; rfl
      have t4 : (x.f0 == 4) = true := by rw [hop]; rfl
      have t5 : (x.f0 == 5) = false := by rw [hop]; rfl
      have t6 : (x.f0 == 6) = false := by rw [hop]; rfl
      have t7 : (x.f0 == 7) = false := by rw [hop]; rfl
      have t8 : (x.f0 == 8) = false := by rw [hop]; rfl
      have t9 : (x.f0 == 9) = false := by rw [hop]; rfl
      have t10 : (x.f0 == 10) = false := by rw [hop]; rfl
      have t11 : (x.f0 == 11) = false := by rw [hop]; rfl
      have t12 : (x.f0 == 12) = false := by rw [hop]; rfl
      clear hop hok ih hI hN
      go_wp2
      go_ret
      exact ⟨by rw [HV.out] <;> rfl, HBA.out⟩
    by_cases h5 : x.f0 = 5
    · have hop := h5
      clear h5 h2 h3 h4
      have HV : Hid (showT x = ((x.f1 ++ (⟨#[40]⟩ : ByteArray)) ++ joinB ((List.range x.f4.length).map fun i => kidAt (showM x.f4) i 1) (⟨#[44, 32]⟩ : ByteArray)) ++ (⟨#[41]⟩ : ByteArray)) := Lib.hid (call_is x hop)
      have hJ := call_size x b hop hsb
      have t2 : (x.f0 == 2) = false := by rw [hop]; rfl
      have t3 : (x.f0 == 3) = false := by rw [hop]; rfl
      have t4 : (x.f0 == 4) = false := by rw [hop]; rfl
      have t5 : (x.f0 == 5) = true := by rw [hop]; rfl
      have t6 : (x.f0 == 6) = false := by rw [hop]; rfl
      have t7 : (x.f0 == 7) = false := by rw [hop]; rfl
      have t8 : (x.f0 == 8) = false := by rw [hop]; rfl
      have t9 : (x.f0 == 9) = false := by rw [hop]; rfl
      have t10 : (x.f0 == 10) = false := by rw [hop]; rfl
      have t11 : (x.f0 == 11) = false := by rw [hop]; rfl
      have t12 : (x.f0 == 12) = false := by rw [hop]; rfl
      have KI := fun (i : Nat) (hi : i ≤ 1000000) W hg hC => kid_walk HE b n hb ih x A c i 1 W (by omega) hlx hi hg hok hC hc
      have KS : ∀ i, (kidAt (showM x.f4) i 1).size ≤ b + 2 := fun i => kidAt_size x.f4 i 1 b (fun k hk => okT_size (okM_mem hok k hk))
      clear hop hok ih hI hN
      go_wp2
      go_loopw [3, 30] (fun v3 v30 wr => ∃ i : Nat, i ≤ x.f4.length ∧ v30 = .int .i64 (i : Int) ∧ Aside0 (Kd.R Kd.string 9 wr wA.heap.size (fun _ => True) v3 ((List.range i).map fun i => kidAt (showM x.f4) i 1)) ∧ Aside0 (Below wA.heap.size wA wr)) (fun _ v30 _ => x.f4.length - (intOf v30).toNat)
      case atStart => exact ⟨0, Nat.zero_le _, rfl, ⟨Kd.R_nil _ _ _ _ _⟩, ⟨Below.refl _ _⟩⟩
      case round =>
        obtain ⟨i, hi, rfl, HR, HBw⟩ := hrel
        have HNr := Lib.hid (blk_belowU HBw.out HN.out)
        have HBr := Lib.hid (below_step HBA.out HBw.out)
        clear nc0 nc1 nc2 nc3 nc4 nc5
        have mc0 : wr.cell? ⟨b3, 0, none⟩ = some (.int .i64 x.f0) := (blk_cell HNr.out 0).trans rfl
        have mc1 : wr.cell? ⟨b3, 1, none⟩ = some (.string x.f1) := (blk_cell HNr.out 1).trans rfl
        have mc2 : wr.cell? ⟨b3, 2, none⟩ = some (.int .i64 x.f2) := (blk_cell HNr.out 2).trans rfl
        have mc3 : wr.cell? ⟨b3, 3, none⟩ = some (.int .u64 x.f3) := (blk_cell HNr.out 3).trans rfl
        have mc4 : wr.cell? ⟨b3, 4, none⟩ = some (.slice A x.f4.length c) := (blk_cell HNr.out 4).trans rfl
        have mc5 : wr.cell? ⟨b3, 5, none⟩ = some (.int .i64 x.f5) := (blk_cell HNr.out 5).trans rfl
        have hrl : ((List.range i).map fun i => kidAt (showM x.f4) i 1).length = i := by simp
        obtain ⟨A3, c3, rfl⟩ : ∃ A c, u3 = Value.slice A i c := by obtain ⟨A3, c3, e3⟩ := Kd.R_slice HR.out; rw [hrl] at e3; exact ⟨A3, c3, e3⟩
        by_cases hlt : i < x.f4.length
        · have K := fun W hg hC => KI i (by omega) W hg hC
          have hks := KS i
          have HRS : Hid ((List.range (i + 1)).map (fun i => kidAt (showM x.f4) i 1) = ((List.range i).map fun i => kidAt (showM x.f4) i 1) ++ [kidAt (showM x.f4) i 1]) := Lib.hid (by rw [List.range_succ, List.map_append]; rfl)
          generalize kidAt (showM x.f4) i 1 = z at *
          clear KI KS hJ
          go_wp2_with (first | (go_at_call 63; (with_reducible refine (K _ ?_ ?_).mono ?_); exact HE.below _ _ HBr.out HG.out; exact Kd.C_below HC.out HBr.out; rintro e_ w1 ⟨rfl, hB⟩; have HR1 := Lib.hid (Kd.R_below HR.out hB); have HW1 := Lib.hid (below_step HBw.out hB); clear hB) | (at_builtin; refine Kd.R_append Kd.string (w0 := wA) wA.heap.size rfl (.tmp 33) (.tmp 37) 69 9 (.string ⟨#[]⟩) 16 rfl Tryd.underlying69 info9 rfl (by decide) (by omega) (.slice A3 i c3) ((List.range i).map fun i => kidAt (showM x.f4) i 1) z [.string z] (fun _ => True) (fun _ => False) rfl (by first | (go_simp; done) | (go_simp; rfl)) rfl (fun _ hk => hk.elim) (fun _ _ => trivial) HR1.out HW1.out HW1.out.size (by rw [hrl]; omega) ?_; intro v1 w5 ho hb5 hg5 hat5; clear hg5 hat5; have HR5 := Lib.hid ho; have HW5 := Lib.hid hb5; clear ho hb5))
          go_roundw
          case rel => exact ⟨i + 1, by omega, by go_num, ⟨by rw [HRS.out]; exact HR5.out⟩, ⟨HW5.out⟩⟩
          case measure => simp [intOf]; omega
        · obtain rfl : i = x.f4.length := by omega
          clear KI KS hlt
          obtain ⟨A5, c5, e5, hl5, hC5⟩ := Kd.R_reads HR.out
          rw [hrl] at e5 hl5 hC5
          injection e5 with ea eb ec
          subst ea
          subst ec
          have HJF := Lib.hid (join_f ((List.range x.f4.length).map fun i => kidAt (showM x.f4) i 1) (⟨#[44, 32]⟩ : ByteArray) (by rw [hrl]; omega) (Nat.le_trans hJ (by omega)))
          have hjs := Nat.le_trans (Nat.le_of_eq (join_size ((List.range x.f4.length).map fun i => kidAt (showM x.f4) i 1) (⟨#[44, 32]⟩ : ByteArray))) hJ
          have CJ := join_call A3 c3 ((List.range x.f4.length).map fun i => kidAt (showM x.f4) i 1) (⟨#[44, 32]⟩ : ByteArray) _ x.f4.length hrl hl5 HJF.out
          have HCJ := Lib.hid hC5
          clear hl5 hC5 hJ HJF
          generalize joinB ((List.range x.f4.length).map fun i => kidAt (showM x.f4) i 1) (⟨#[44, 32]⟩ : ByteArray) = J at *
          generalize (List.range x.f4.length).map (fun i => kidAt (showM x.f4) i 1) = L at *
          go_upto_region 15 with (fail)
          go_region_with (go_at_call 45; (with_reducible refine (CJ _ ?_).mono ?_); (first | exact HCJ.out | exact Kd.C_below HCJ.out (below_drew1 (Below.refl _ _))); rintro e_ w7 ⟨rfl, hB⟩; have HB7 := Lib.hid (below_step (by first | exact HBr.out | exact below_drew1 HBr.out) hB); have HN7 := Lib.hid (blk_belowU hB (by first | exact HNr.out | exact blk_drew HNr.out | exact blk_drewN HNr.out _)); have v7c0 : w7.cell? ⟨b3, 0, none⟩ = some (.int .i64 x.f0) := (blk_cell HN7.out 0).trans rfl; have v7c1 : w7.cell? ⟨b3, 1, none⟩ = some (.string x.f1) := (blk_cell HN7.out 1).trans rfl; have v7c2 : w7.cell? ⟨b3, 2, none⟩ = some (.int .i64 x.f2) := (blk_cell HN7.out 2).trans rfl; have v7c3 : w7.cell? ⟨b3, 3, none⟩ = some (.int .u64 x.f3) := (blk_cell HN7.out 3).trans rfl; have v7c4 : w7.cell? ⟨b3, 4, none⟩ = some (.slice A x.f4.length c) := (blk_cell HN7.out 4).trans rfl; have v7c5 : w7.cell? ⟨b3, 5, none⟩ = some (.int .i64 x.f5) := (blk_cell HN7.out 5).trans rfl; clear hB)
          all_goals go_wp2
          all_goals go_ret
          all_goals exact ⟨by rw [HV.out] <;> rfl, HB7.out⟩
    by_cases h6 : x.f0 = 6
    · have hop := h6
      clear h6 h2 h3 h4 h5 hI hN
      have HV : Hid (showT x = (kidAt (showM x.f4) 0 1 ++ (⟨#[32, 124, 32]⟩ : ByteArray)) ++ kidAt (showM x.f4) 1 2) := Lib.hid (by rw [showT_is, hop]; rfl)
      have t2 : (x.f0 == 2) = false := by rw [hop]; rfl
      have t3 : (x.f0 == 3) = false := by rw [hop]; rfl
      have t4 : (x.f0 == 4) = false := by rw [hop]; rfl
      have t5 : (x.f0 == 5) = false := by rw [hop]; rfl
      have t6 : (x.f0 == 6) = true := by rw [hop]; rfl
      have t7 : (x.f0 == 7) = false := by rw [hop]; rfl
      have t8 : (x.f0 == 8) = false := by rw [hop]; rfl
      have t9 : (x.f0 == 9) = false := by rw [hop]; rfl
      have t10 : (x.f0 == 10) = false := by rw [hop]; rfl
      have t11 : (x.f0 == 11) = false := by rw [hop]; rfl
      have t12 : (x.f0 == 12) = false := by rw [hop]; rfl
      have K1 : ∀ W, G W → Kd.C k44 W A x.f4.length x.f4 → Calls Tryd.prog 63 #[.agg #[.int .i64 x.f0, .string x.f1, .int .i64 x.f2, .int .u64 x.f3, .slice A x.f4.length c, .int .i64 x.f5], .int .i64 0, .int .i64 1] W fun e_ w_ => e_ = .returned (.string (kidAt (showM x.f4) 0 1)) ∧ Below W.heap.size W w_ := fun W hg hC => kid_walk HE b n hb ih x A c 0 1 W (by omega) hlx (by omega) hg hok hC hc
      have K2 : ∀ W, G W → Kd.C k44 W A x.f4.length x.f4 → Calls Tryd.prog 63 #[.agg #[.int .i64 x.f0, .string x.f1, .int .i64 x.f2, .int .u64 x.f3, .slice A x.f4.length c, .int .i64 x.f5], .int .i64 1, .int .i64 2] W fun e_ w_ => e_ = .returned (.string (kidAt (showM x.f4) 1 2)) ∧ Below W.heap.size W w_ := fun W hg hC => kid_walk HE b n hb ih x A c 1 2 W (by omega) hlx (by omega) hg hok hC hc
      have s1 := kidAt_size x.f4 0 1 b (fun k hk => okT_size (okM_mem hok k hk))
      have s2 := kidAt_size x.f4 1 2 b (fun k hk => okT_size (okM_mem hok k hk))
      clear hop hok ih
      generalize kidAt (showM x.f4) 0 1 = k1 at *
      generalize kidAt (showM x.f4) 1 2 = k2 at *
      go_upto_region 17 with (fail)
      go_region_with (first | (go_at_call 63; (with_reducible refine (K1 _ ?_ ?_).mono ?_); exact HE.below _ _ (by first | exact HBA.out | exact below_drew1 HBA.out) HG.out; exact Kd.C_below HC.out (by first | exact HBA.out | exact below_drew1 HBA.out); rintro e_ w1 ⟨rfl, hB⟩; have HB1 := Lib.hid (below_step (by first | exact HBA.out | exact below_drew1 HBA.out) hB); have HN1 := Lib.hid (blk_belowU hB (by first | exact HN.out | exact blk_drew HN.out | exact blk_drewN HN.out _)); clear hB; have u1c0 : w1.cell? ⟨b3, 0, none⟩ = some (.int .i64 x.f0) := (blk_cell HN1.out 0).trans rfl; have u1c1 : w1.cell? ⟨b3, 1, none⟩ = some (.string x.f1) := (blk_cell HN1.out 1).trans rfl; have u1c2 : w1.cell? ⟨b3, 2, none⟩ = some (.int .i64 x.f2) := (blk_cell HN1.out 2).trans rfl; have u1c3 : w1.cell? ⟨b3, 3, none⟩ = some (.int .u64 x.f3) := (blk_cell HN1.out 3).trans rfl; have u1c4 : w1.cell? ⟨b3, 4, none⟩ = some (.slice A x.f4.length c) := (blk_cell HN1.out 4).trans rfl; have u1c5 : w1.cell? ⟨b3, 5, none⟩ = some (.int .i64 x.f5) := (blk_cell HN1.out 5).trans rfl) | (go_at_call 63; (with_reducible refine (K2 _ ?_ ?_).mono ?_); exact HE.below _ _ HB1.out HG.out; exact Kd.C_below HC.out HB1.out; rintro e_ w2 ⟨rfl, hB⟩; have HB2 := Lib.hid (below_step HB1.out hB); skip; clear hB; skip))
      all_goals go_wp2
      all_goals go_ret
      all_goals exact ⟨by rw [HV.out] <;> rfl, HB2.out⟩
    by_cases h7 : x.f0 = 7
    · have hop := h7
      clear h7 h6 h2 h3 h4 h5 hI hN
      have HV : Hid (showT x = (kidAt (showM x.f4) 0 1 ++ (⟨#[32, 45, 32]⟩ : ByteArray)) ++ kidAt (showM x.f4) 1 2) := Lib.hid (by rw [showT_is, hop]; rfl)
      have t2 : (x.f0 == 2) = false := by rw [hop]; rfl
      have t3 : (x.f0 == 3) = false := by rw [hop]; rfl
      have t4 : (x.f0 == 4) = false := by rw [hop]; rfl
      have t5 : (x.f0 == 5) = false := by rw [hop]; rfl
      have t6 : (x.f0 == 6) = false := by rw [hop]; rfl
      have t7 : (x.f0 == 7) = true := by rw [hop]; rfl
      have t8 : (x.f0 == 8) = false := by rw [hop]; rfl
      have t9 : (x.f0 == 9) = false := by rw [hop]; rfl
      have t10 : (x.f0 == 10) = false := by rw [hop]; rfl
      have t11 : (x.f0 == 11) = false := by rw [hop]; rfl
      have t12 : (x.f0 == 12) = false := by rw [hop]; rfl
      have K1 : ∀ W, G W → Kd.C k44 W A x.f4.length x.f4 → Calls Tryd.prog 63 #[.agg #[.int .i64 x.f0, .string x.f1, .int .i64 x.f2, .int .u64 x.f3, .slice A x.f4.length c, .int .i64 x.f5], .int .i64 0, .int .i64 1] W fun e_ w_ => e_ = .returned (.string (kidAt (showM x.f4) 0 1)) ∧ Below W.heap.size W w_ := fun W hg hC => kid_walk HE b n hb ih x A c 0 1 W (by omega) hlx (by omega) hg hok hC hc
      have K2 : ∀ W, G W → Kd.C k44 W A x.f4.length x.f4 → Calls Tryd.prog 63 #[.agg #[.int .i64 x.f0, .string x.f1, .int .i64 x.f2, .int .u64 x.f3, .slice A x.f4.length c, .int .i64 x.f5], .int .i64 1, .int .i64 2] W fun e_ w_ => e_ = .returned (.string (kidAt (showM x.f4) 1 2)) ∧ Below W.heap.size W w_ := fun W hg hC => kid_walk HE b n hb ih x A c 1 2 W (by omega) hlx (by omega) hg hok hC hc
      have s1 := kidAt_size x.f4 0 1 b (fun k hk => okT_size (okM_mem hok k hk))
      have s2 := kidAt_size x.f4 1 2 b (fun k hk => okT_size (okM_mem hok k hk))
      clear hop hok ih
      generalize kidAt (showM x.f4) 0 1 = k1 at *
      generalize kidAt (showM x.f4) 1 2 = k2 at *
      go_upto_region 19 with (fail)
      go_region_with (first | (go_at_call 63; (with_reducible refine (K1 _ ?_ ?_).mono ?_); exact HE.below _ _ (by first | exact HBA.out | exact below_drew1 HBA.out) HG.out; exact Kd.C_below HC.out (by first | exact HBA.out | exact below_drew1 HBA.out); rintro e_ w1 ⟨rfl, hB⟩; have HB1 := Lib.hid (below_step (by first | exact HBA.out | exact below_drew1 HBA.out) hB); have HN1 := Lib.hid (blk_belowU hB (by first | exact HN.out | exact blk_drew HN.out | exact blk_drewN HN.out _)); clear hB; have u1c0 : w1.cell? ⟨b3, 0, none⟩ = some (.int .i64 x.f0) := (blk_cell HN1.out 0).trans rfl; have u1c1 : w1.cell? ⟨b3, 1, none⟩ = some (.string x.f1) := (blk_cell HN1.out 1).trans rfl; have u1c2 : w1.cell? ⟨b3, 2, none⟩ = some (.int .i64 x.f2) := (blk_cell HN1.out 2).trans rfl; have u1c3 : w1.cell? ⟨b3, 3, none⟩ = some (.int .u64 x.f3) := (blk_cell HN1.out 3).trans rfl; have u1c4 : w1.cell? ⟨b3, 4, none⟩ = some (.slice A x.f4.length c) := (blk_cell HN1.out 4).trans rfl; have u1c5 : w1.cell? ⟨b3, 5, none⟩ = some (.int .i64 x.f5) := (blk_cell HN1.out 5).trans rfl) | (go_at_call 63; (with_reducible refine (K2 _ ?_ ?_).mono ?_); exact HE.below _ _ HB1.out HG.out; exact Kd.C_below HC.out HB1.out; rintro e_ w2 ⟨rfl, hB⟩; have HB2 := Lib.hid (below_step HB1.out hB); skip; clear hB; skip))
      all_goals go_wp2
      all_goals go_ret
      all_goals exact ⟨by rw [HV.out] <;> rfl, HB2.out⟩
    by_cases h8 : x.f0 = 8
    · have hop := h8
      clear h8 h7 h6 h2 h3 h4 h5 hI hN
      have HV : Hid (showT x = (kidAt (showM x.f4) 0 2 ++ (⟨#[32, 38, 32]⟩ : ByteArray)) ++ kidAt (showM x.f4) 1 3) := Lib.hid (by rw [showT_is, hop]; rfl)
      have t2 : (x.f0 == 2) = false := by rw [hop]; rfl
      have t3 : (x.f0 == 3) = false := by rw [hop]; rfl
      have t4 : (x.f0 == 4) = false := by rw [hop]; rfl
      have t5 : (x.f0 == 5) = false := by rw [hop]; rfl
      have t6 : (x.f0 == 6) = false := by rw [hop]; rfl
      have t7 : (x.f0 == 7) = false := by rw [hop]; rfl
      have t8 : (x.f0 == 8) = true := by rw [hop]; rfl
      have t9 : (x.f0 == 9) = false := by rw [hop]; rfl
      have t10 : (x.f0 == 10) = false := by rw [hop]; rfl
      have t11 : (x.f0 == 11) = false := by rw [hop]; rfl
      have t12 : (x.f0 == 12) = false := by rw [hop]; rfl
      have K1 : ∀ W, G W → Kd.C k44 W A x.f4.length x.f4 → Calls Tryd.prog 63 #[.agg #[.int .i64 x.f0, .string x.f1, .int .i64 x.f2, .int .u64 x.f3, .slice A x.f4.length c, .int .i64 x.f5], .int .i64 0, .int .i64 2] W fun e_ w_ => e_ = .returned (.string (kidAt (showM x.f4) 0 2)) ∧ Below W.heap.size W w_ := fun W hg hC => kid_walk HE b n hb ih x A c 0 2 W (by omega) hlx (by omega) hg hok hC hc
      have K2 : ∀ W, G W → Kd.C k44 W A x.f4.length x.f4 → Calls Tryd.prog 63 #[.agg #[.int .i64 x.f0, .string x.f1, .int .i64 x.f2, .int .u64 x.f3, .slice A x.f4.length c, .int .i64 x.f5], .int .i64 1, .int .i64 3] W fun e_ w_ => e_ = .returned (.string (kidAt (showM x.f4) 1 3)) ∧ Below W.heap.size W w_ := fun W hg hC => kid_walk HE b n hb ih x A c 1 3 W (by omega) hlx (by omega) hg hok hC hc
      have s1 := kidAt_size x.f4 0 2 b (fun k hk => okT_size (okM_mem hok k hk))
      have s2 := kidAt_size x.f4 1 3 b (fun k hk => okT_size (okM_mem hok k hk))
      clear hop hok ih
      generalize kidAt (showM x.f4) 0 2 = k1 at *
      generalize kidAt (showM x.f4) 1 3 = k2 at *
      go_upto_region 21 with (fail)
      go_region_with (first | (go_at_call 63; (with_reducible refine (K1 _ ?_ ?_).mono ?_); exact HE.below _ _ (by first | exact HBA.out | exact below_drew1 HBA.out) HG.out; exact Kd.C_below HC.out (by first | exact HBA.out | exact below_drew1 HBA.out); rintro e_ w1 ⟨rfl, hB⟩; have HB1 := Lib.hid (below_step (by first | exact HBA.out | exact below_drew1 HBA.out) hB); have HN1 := Lib.hid (blk_belowU hB (by first | exact HN.out | exact blk_drew HN.out | exact blk_drewN HN.out _)); clear hB; have u1c0 : w1.cell? ⟨b3, 0, none⟩ = some (.int .i64 x.f0) := (blk_cell HN1.out 0).trans rfl; have u1c1 : w1.cell? ⟨b3, 1, none⟩ = some (.string x.f1) := (blk_cell HN1.out 1).trans rfl; have u1c2 : w1.cell? ⟨b3, 2, none⟩ = some (.int .i64 x.f2) := (blk_cell HN1.out 2).trans rfl; have u1c3 : w1.cell? ⟨b3, 3, none⟩ = some (.int .u64 x.f3) := (blk_cell HN1.out 3).trans rfl; have u1c4 : w1.cell? ⟨b3, 4, none⟩ = some (.slice A x.f4.length c) := (blk_cell HN1.out 4).trans rfl; have u1c5 : w1.cell? ⟨b3, 5, none⟩ = some (.int .i64 x.f5) := (blk_cell HN1.out 5).trans rfl) | (go_at_call 63; (with_reducible refine (K2 _ ?_ ?_).mono ?_); exact HE.below _ _ HB1.out HG.out; exact Kd.C_below HC.out HB1.out; rintro e_ w2 ⟨rfl, hB⟩; have HB2 := Lib.hid (below_step HB1.out hB); skip; clear hB; skip))
      all_goals go_wp2
      all_goals go_ret
      all_goals exact ⟨by rw [HV.out] <;> rfl, HB2.out⟩
    by_cases h9 : x.f0 = 9
    · have hop := h9
      clear h9 h8 h7 h6 h2 h3 h4 h5 hI hN
      have HV : Hid (showT x = (kidAt (showM x.f4) 0 4 ++ (⟨#[46, 46]⟩ : ByteArray)) ++ kidAt (showM x.f4) 1 4) := Lib.hid (by rw [showT_is, hop]; rfl)
      have t2 : (x.f0 == 2) = false := by rw [hop]; rfl
      have t3 : (x.f0 == 3) = false := by rw [hop]; rfl
      have t4 : (x.f0 == 4) = false := by rw [hop]; rfl
      have t5 : (x.f0 == 5) = false := by rw [hop]; rfl
      have t6 : (x.f0 == 6) = false := by rw [hop]; rfl
      have t7 : (x.f0 == 7) = false := by rw [hop]; rfl
      have t8 : (x.f0 == 8) = false := by rw [hop]; rfl
      have t9 : (x.f0 == 9) = true := by rw [hop]; rfl
      have t10 : (x.f0 == 10) = false := by rw [hop]; rfl
      have t11 : (x.f0 == 11) = false := by rw [hop]; rfl
      have t12 : (x.f0 == 12) = false := by rw [hop]; rfl
      have K1 : ∀ W, G W → Kd.C k44 W A x.f4.length x.f4 → Calls Tryd.prog 63 #[.agg #[.int .i64 x.f0, .string x.f1, .int .i64 x.f2, .int .u64 x.f3, .slice A x.f4.length c, .int .i64 x.f5], .int .i64 0, .int .i64 4] W fun e_ w_ => e_ = .returned (.string (kidAt (showM x.f4) 0 4)) ∧ Below W.heap.size W w_ := fun W hg hC => kid_walk HE b n hb ih x A c 0 4 W (by omega) hlx (by omega) hg hok hC hc
      have K2 : ∀ W, G W → Kd.C k44 W A x.f4.length x.f4 → Calls Tryd.prog 63 #[.agg #[.int .i64 x.f0, .string x.f1, .int .i64 x.f2, .int .u64 x.f3, .slice A x.f4.length c, .int .i64 x.f5], .int .i64 1, .int .i64 4] W fun e_ w_ => e_ = .returned (.string (kidAt (showM x.f4) 1 4)) ∧ Below W.heap.size W w_ := fun W hg hC => kid_walk HE b n hb ih x A c 1 4 W (by omega) hlx (by omega) hg hok hC hc
      have s1 := kidAt_size x.f4 0 4 b (fun k hk => okT_size (okM_mem hok k hk))
      have s2 := kidAt_size x.f4 1 4 b (fun k hk => okT_size (okM_mem hok k hk))
      clear hop hok ih
      generalize kidAt (showM x.f4) 0 4 = k1 at *
      generalize kidAt (showM x.f4) 1 4 = k2 at *
      go_upto_region 23 with (fail)
      go_region_with (first | (go_at_call 63; (with_reducible refine (K1 _ ?_ ?_).mono ?_); exact HE.below _ _ (by first | exact HBA.out | exact below_drew1 HBA.out) HG.out; exact Kd.C_below HC.out (by first | exact HBA.out | exact below_drew1 HBA.out); rintro e_ w1 ⟨rfl, hB⟩; have HB1 := Lib.hid (below_step (by first | exact HBA.out | exact below_drew1 HBA.out) hB); have HN1 := Lib.hid (blk_belowU hB (by first | exact HN.out | exact blk_drew HN.out | exact blk_drewN HN.out _)); clear hB; have u1c0 : w1.cell? ⟨b3, 0, none⟩ = some (.int .i64 x.f0) := (blk_cell HN1.out 0).trans rfl; have u1c1 : w1.cell? ⟨b3, 1, none⟩ = some (.string x.f1) := (blk_cell HN1.out 1).trans rfl; have u1c2 : w1.cell? ⟨b3, 2, none⟩ = some (.int .i64 x.f2) := (blk_cell HN1.out 2).trans rfl; have u1c3 : w1.cell? ⟨b3, 3, none⟩ = some (.int .u64 x.f3) := (blk_cell HN1.out 3).trans rfl; have u1c4 : w1.cell? ⟨b3, 4, none⟩ = some (.slice A x.f4.length c) := (blk_cell HN1.out 4).trans rfl; have u1c5 : w1.cell? ⟨b3, 5, none⟩ = some (.int .i64 x.f5) := (blk_cell HN1.out 5).trans rfl) | (go_at_call 63; (with_reducible refine (K2 _ ?_ ?_).mono ?_); exact HE.below _ _ HB1.out HG.out; exact Kd.C_below HC.out HB1.out; rintro e_ w2 ⟨rfl, hB⟩; have HB2 := Lib.hid (below_step HB1.out hB); skip; clear hB; skip))
      all_goals go_wp2
      all_goals go_ret
      all_goals exact ⟨by rw [HV.out] <;> rfl, HB2.out⟩
    by_cases h10 : x.f0 = 10
    · have hop := h10
      clear h10 h9 h8 h7 h6 h2 h3 h4 h5 hI hN
      have HV : Hid (showT x = (kidAt (showM x.f4) 0 4 ++ (⟨#[58, 58]⟩ : ByteArray)) ++ kidAt (showM x.f4) 1 4) := Lib.hid (by rw [showT_is, hop]; rfl)
      have t2 : (x.f0 == 2) = false := by rw [hop]; rfl
      have t3 : (x.f0 == 3) = false := by rw [hop]; rfl
      have t4 : (x.f0 == 4) = false := by rw [hop]; rfl
      have t5 : (x.f0 == 5) = false := by rw [hop]; rfl
      have t6 : (x.f0 == 6) = false := by rw [hop]; rfl
      have t7 : (x.f0 == 7) = false := by rw [hop]; rfl
      have t8 : (x.f0 == 8) = false := by rw [hop]; rfl
      have t9 : (x.f0 == 9) = false := by rw [hop]; rfl
      have t10 : (x.f0 == 10) = true := by rw [hop]; rfl
      have t11 : (x.f0 == 11) = false := by rw [hop]; rfl
      have t12 : (x.f0 == 12) = false := by rw [hop]; rfl
      have K1 : ∀ W, G W → Kd.C k44 W A x.f4.length x.f4 → Calls Tryd.prog 63 #[.agg #[.int .i64 x.f0, .string x.f1, .int .i64 x.f2, .int .u64 x.f3, .slice A x.f4.length c, .int .i64 x.f5], .int .i64 0, .int .i64 4] W fun e_ w_ => e_ = .returned (.string (kidAt (showM x.f4) 0 4)) ∧ Below W.heap.size W w_ := fun W hg hC => kid_walk HE b n hb ih x A c 0 4 W (by omega) hlx (by omega) hg hok hC hc
      have K2 : ∀ W, G W → Kd.C k44 W A x.f4.length x.f4 → Calls Tryd.prog 63 #[.agg #[.int .i64 x.f0, .string x.f1, .int .i64 x.f2, .int .u64 x.f3, .slice A x.f4.length c, .int .i64 x.f5], .int .i64 1, .int .i64 4] W fun e_ w_ => e_ = .returned (.string (kidAt (showM x.f4) 1 4)) ∧ Below W.heap.size W w_ := fun W hg hC => kid_walk HE b n hb ih x A c 1 4 W (by omega) hlx (by omega) hg hok hC hc
      have s1 := kidAt_size x.f4 0 4 b (fun k hk => okT_size (okM_mem hok k hk))
      have s2 := kidAt_size x.f4 1 4 b (fun k hk => okT_size (okM_mem hok k hk))
      clear hop hok ih
      generalize kidAt (showM x.f4) 0 4 = k1 at *
      generalize kidAt (showM x.f4) 1 4 = k2 at *
      go_upto_region 25 with (fail)
      go_region_with (first | (go_at_call 63; (with_reducible refine (K1 _ ?_ ?_).mono ?_); exact HE.below _ _ (by first | exact HBA.out | exact below_drew1 HBA.out) HG.out; exact Kd.C_below HC.out (by first | exact HBA.out | exact below_drew1 HBA.out); rintro e_ w1 ⟨rfl, hB⟩; have HB1 := Lib.hid (below_step (by first | exact HBA.out | exact below_drew1 HBA.out) hB); have HN1 := Lib.hid (blk_belowU hB (by first | exact HN.out | exact blk_drew HN.out | exact blk_drewN HN.out _)); clear hB; have u1c0 : w1.cell? ⟨b3, 0, none⟩ = some (.int .i64 x.f0) := (blk_cell HN1.out 0).trans rfl; have u1c1 : w1.cell? ⟨b3, 1, none⟩ = some (.string x.f1) := (blk_cell HN1.out 1).trans rfl; have u1c2 : w1.cell? ⟨b3, 2, none⟩ = some (.int .i64 x.f2) := (blk_cell HN1.out 2).trans rfl; have u1c3 : w1.cell? ⟨b3, 3, none⟩ = some (.int .u64 x.f3) := (blk_cell HN1.out 3).trans rfl; have u1c4 : w1.cell? ⟨b3, 4, none⟩ = some (.slice A x.f4.length c) := (blk_cell HN1.out 4).trans rfl; have u1c5 : w1.cell? ⟨b3, 5, none⟩ = some (.int .i64 x.f5) := (blk_cell HN1.out 5).trans rfl) | (go_at_call 63; (with_reducible refine (K2 _ ?_ ?_).mono ?_); exact HE.below _ _ HB1.out HG.out; exact Kd.C_below HC.out HB1.out; rintro e_ w2 ⟨rfl, hB⟩; have HB2 := Lib.hid (below_step HB1.out hB); skip; clear hB; skip))
      all_goals go_wp2
      all_goals go_ret
      all_goals exact ⟨by rw [HV.out] <;> rfl, HB2.out⟩
    by_cases h11 : x.f0 = 11
    · have hop := h11
      clear h11 h10 h9 h8 h7 h6 h2 h3 h4 h5 hI hN
      have HV : Hid (showT x = (⟨#[33]⟩ : ByteArray) ++ kidAt (showM x.f4) 0 4) := Lib.hid (by rw [showT_is, hop]; rfl)
      have t2 : (x.f0 == 2) = false := by rw [hop]; rfl
      have t3 : (x.f0 == 3) = false := by rw [hop]; rfl
      have t4 : (x.f0 == 4) = false := by rw [hop]; rfl
      have t5 : (x.f0 == 5) = false := by rw [hop]; rfl
      have t6 : (x.f0 == 6) = false := by rw [hop]; rfl
      have t7 : (x.f0 == 7) = false := by rw [hop]; rfl
      have t8 : (x.f0 == 8) = false := by rw [hop]; rfl
      have t9 : (x.f0 == 9) = false := by rw [hop]; rfl
      have t10 : (x.f0 == 10) = false := by rw [hop]; rfl
      have t11 : (x.f0 == 11) = true := by rw [hop]; rfl
      have t12 : (x.f0 == 12) = false := by rw [hop]; rfl
      have K1 : ∀ W, G W → Kd.C k44 W A x.f4.length x.f4 → Calls Tryd.prog 63 #[.agg #[.int .i64 x.f0, .string x.f1, .int .i64 x.f2, .int .u64 x.f3, .slice A x.f4.length c, .int .i64 x.f5], .int .i64 0, .int .i64 4] W fun e_ w_ => e_ = .returned (.string (kidAt (showM x.f4) 0 4)) ∧ Below W.heap.size W w_ := fun W hg hC => kid_walk HE b n hb ih x A c 0 4 W (by omega) hlx (by omega) hg hok hC hc
      have s1 := kidAt_size x.f4 0 4 b (fun k hk => okT_size (okM_mem hok k hk))
      clear hop hok ih
      generalize kidAt (showM x.f4) 0 4 = k1 at *
      go_wp2_with (go_at_call 63; (with_reducible refine (K1 _ ?_ ?_).mono ?_); exact HE.below _ _ (by first | exact HBA.out | exact below_drew1 HBA.out) HG.out; exact Kd.C_below HC.out (by first | exact HBA.out | exact below_drew1 HBA.out); rintro e_ w1 ⟨rfl, hB⟩; have HB1 := Lib.hid (below_step (by first | exact HBA.out | exact below_drew1 HBA.out) hB); have HN1 := Lib.hid (blk_belowU hB (by first | exact HN.out | exact blk_drew HN.out | exact blk_drewN HN.out _)); clear hB; have u1c0 : w1.cell? ⟨b3, 0, none⟩ = some (.int .i64 x.f0) := (blk_cell HN1.out 0).trans rfl; have u1c1 : w1.cell? ⟨b3, 1, none⟩ = some (.string x.f1) := (blk_cell HN1.out 1).trans rfl; have u1c2 : w1.cell? ⟨b3, 2, none⟩ = some (.int .i64 x.f2) := (blk_cell HN1.out 2).trans rfl; have u1c3 : w1.cell? ⟨b3, 3, none⟩ = some (.int .u64 x.f3) := (blk_cell HN1.out 3).trans rfl; have u1c4 : w1.cell? ⟨b3, 4, none⟩ = some (.slice A x.f4.length c) := (blk_cell HN1.out 4).trans rfl; have u1c5 : w1.cell? ⟨b3, 5, none⟩ = some (.int .i64 x.f5) := (blk_cell HN1.out 5).trans rfl)
      go_ret
      exact ⟨by rw [HV.out] <;> rfl, HB1.out⟩
    by_cases h12 : x.f0 = 12
    · have hop := h12
      clear h12 h11 h10 h9 h8 h7 h6 h2 h3 h4 h5 hI
      have t2 : (x.f0 == 2) = false := by rw [hop]; rfl
      have t3 : (x.f0 == 3) = false := by rw [hop]; rfl
      have t4 : (x.f0 == 4) = false := by rw [hop]; rfl
      have t5 : (x.f0 == 5) = false := by rw [hop]; rfl
      have t6 : (x.f0 == 6) = false := by rw [hop]; rfl
      have t7 : (x.f0 == 7) = false := by rw [hop]; rfl
      have t8 : (x.f0 == 8) = false := by rw [hop]; rfl
      have t9 : (x.f0 == 9) = false := by rw [hop]; rfl
      have t10 : (x.f0 == 10) = false := by rw [hop]; rfl
      have t11 : (x.f0 == 11) = false := by rw [hop]; rfl
      have t12 : (x.f0 == 12) = true := by rw [hop]; rfl
      have K1 : ∀ W, G W → Kd.C k44 W A x.f4.length x.f4 → Calls Tryd.prog 63 #[.agg #[.int .i64 x.f0, .string x.f1, .int .i64 x.f2, .int .u64 x.f3, .slice A x.f4.length c, .int .i64 x.f5], .int .i64 0, .int .i64 5] W fun e_ w_ => e_ = .returned (.string (kidAt (showM x.f4) 0 5)) ∧ Below W.heap.size W w_ := fun W hg hC => kid_walk HE b n hb ih x A c 0 5 W (by omega) hlx (by omega) hg hok hC hc
      have s1 := kidAt_size x.f4 0 5 b (fun k hk => okT_size (okM_mem hok k hk))
      by_cases hz : x.f2 = 0
      · have tz : (x.f2 == 0) = true := beq_iff_eq.2 hz
        have HV : Hid (showT x = kidAt (showM x.f4) 0 5 ++ (⟨#[94]⟩ : ByteArray)) := Lib.hid (by rw [showT_is, hop, hz]; rfl)
        clear hop hok ih hN hz
        generalize kidAt (showM x.f4) 0 5 = k1 at *
        go_wp2_with (go_at_call 63; (with_reducible refine (K1 _ ?_ ?_).mono ?_); exact HE.below _ _ (by first | exact HBA.out | exact below_drew1 HBA.out) HG.out; exact Kd.C_below HC.out (by first | exact HBA.out | exact below_drew1 HBA.out); rintro e_ w1 ⟨rfl, hB⟩; have HB1 := Lib.hid (below_step (by first | exact HBA.out | exact below_drew1 HBA.out) hB); have HN1 := Lib.hid (blk_belowU hB (by first | exact HN.out | exact blk_drew HN.out | exact blk_drewN HN.out _)); clear hB; have u1c0 : w1.cell? ⟨b3, 0, none⟩ = some (.int .i64 x.f0) := (blk_cell HN1.out 0).trans rfl; have u1c1 : w1.cell? ⟨b3, 1, none⟩ = some (.string x.f1) := (blk_cell HN1.out 1).trans rfl; have u1c2 : w1.cell? ⟨b3, 2, none⟩ = some (.int .i64 x.f2) := (blk_cell HN1.out 2).trans rfl; have u1c3 : w1.cell? ⟨b3, 3, none⟩ = some (.int .u64 x.f3) := (blk_cell HN1.out 3).trans rfl; have u1c4 : w1.cell? ⟨b3, 4, none⟩ = some (.slice A x.f4.length c) := (blk_cell HN1.out 4).trans rfl; have u1c5 : w1.cell? ⟨b3, 5, none⟩ = some (.int .i64 x.f5) := (blk_cell HN1.out 5).trans rfl)
        go_ret
        exact ⟨by rw [HV.out] <;> rfl, HB1.out⟩
      · have tz : (x.f2 == 0) = false := beq_eq_false_iff_ne.2 hz
        have HV : Hid (showT x = (kidAt (showM x.f4) 0 5 ++ (⟨#[94]⟩ : ByteArray)) ++ itoaT x.f2) := Lib.hid (by rw [showT_is, hop]; exact if_neg hz)
        have HI := Lib.hid (hN (.inr ⟨hop, hz⟩))
        have s2 := HE.itoaS _ HI.out
        have K2 := fun W (hg : G W) => HE.itoa W x.f2 hg HI.out
        clear hop hok ih hN hz
        generalize kidAt (showM x.f4) 0 5 = k1 at *
        generalize itoaT x.f2 = k2 at *
        go_upto_region 31 with (fail)
        go_region_with (first | (go_at_call 63; (with_reducible refine (K1 _ ?_ ?_).mono ?_); exact HE.below _ _ (by first | exact HBA.out | exact below_drew1 HBA.out) HG.out; exact Kd.C_below HC.out (by first | exact HBA.out | exact below_drew1 HBA.out); rintro e_ w1 ⟨rfl, hB⟩; have HB1 := Lib.hid (below_step (by first | exact HBA.out | exact below_drew1 HBA.out) hB); have HN1 := Lib.hid (blk_belowU hB (by first | exact HN.out | exact blk_drew HN.out | exact blk_drewN HN.out _)); clear hB; have u1c0 : w1.cell? ⟨b3, 0, none⟩ = some (.int .i64 x.f0) := (blk_cell HN1.out 0).trans rfl; have u1c1 : w1.cell? ⟨b3, 1, none⟩ = some (.string x.f1) := (blk_cell HN1.out 1).trans rfl; have u1c2 : w1.cell? ⟨b3, 2, none⟩ = some (.int .i64 x.f2) := (blk_cell HN1.out 2).trans rfl; have u1c3 : w1.cell? ⟨b3, 3, none⟩ = some (.int .u64 x.f3) := (blk_cell HN1.out 3).trans rfl; have u1c4 : w1.cell? ⟨b3, 4, none⟩ = some (.slice A x.f4.length c) := (blk_cell HN1.out 4).trans rfl; have u1c5 : w1.cell? ⟨b3, 5, none⟩ = some (.int .i64 x.f5) := (blk_cell HN1.out 5).trans rfl) | (go_at_call 43; (with_reducible refine (K2 _ ?_).mono ?_); exact HE.below _ _ HB1.out HG.out; rintro e_ w2 ⟨rfl, hB⟩; have HB2 := Lib.hid (below_step HB1.out hB); clear hB))
        all_goals go_wp2
        all_goals go_ret
        all_goals exact ⟨by rw [HV.out] <;> rfl, HB2.out⟩
    have HV : Hid (showT x = x.f1) := Lib.hid (by rw [showT_is]; unfold showB; rw [if_neg h2, if_neg h3, if_neg h4, if_neg h5, if_neg h6, if_neg h7, if_neg h8, if_neg h9, if_neg h10, if_neg h11, if_neg h12])
    have t2 : (x.f0 == 2) = false := beq_eq_false_iff_ne.2 h2
    have t3 : (x.f0 == 3) = false := beq_eq_false_iff_ne.2 h3
    have t4 : (x.f0 == 4) = false := beq_eq_false_iff_ne.2 h4
    have t5 : (x.f0 == 5) = false := beq_eq_false_iff_ne.2 h5
    have t6 : (x.f0 == 6) = false := beq_eq_false_iff_ne.2 h6
    have t7 : (x.f0 == 7) = false := beq_eq_false_iff_ne.2 h7
    have t8 : (x.f0 == 8) = false := beq_eq_false_iff_ne.2 h8
    have t9 : (x.f0 == 9) = false := beq_eq_false_iff_ne.2 h9
    have t10 : (x.f0 == 10) = false := beq_eq_false_iff_ne.2 h10
    have t11 : (x.f0 == 11) = false := beq_eq_false_iff_ne.2 h11
    have t12 : (x.f0 == 12) = false := beq_eq_false_iff_ne.2 h12
    clear h2 h3 h4 h5 h6 h7 h8 h9 h10 h11 h12 hI hN hok ih
    go_wp2
    go_ret
    exact ⟨by rw [HV.out] <;> rfl, HBA.out⟩
end Go.Proofs.YtfgfoofojofnmaaDoor.Q
