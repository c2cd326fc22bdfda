/- parse.Show, level and kid, walked: what is shown is showT, in every world where numbers and hashes are shown. -/
import Derived.Outline
import Derived.Deep.RegionWith
import Derived.Test.YtfgfoofojofnmaaDoorGP4
import Derived.Test.YtfgfoofojofnmaaDoorGQF45
set_option linter.unusedVariables false
set_option linter.unusedSimpArgs false
namespace Go.Proofs.YtfgfoofojofnmaaDoor.Q
open Go.RowKit Go.Proofs.YtfgfoofojofnmaaDoorW.PrintWords Go.Proofs.YtfgfoofojofnmaaDoorW.PrintLast Go.Proofs.YtfgfoofojofnmaaDoorW.PrintMore
set_option linter.unusedVariables false
set_option linter.unusedSimpArgs false
open Go.Proofs.YtfgfoofojofnmaaDoor.Hand
/-- How tightly a node holds together. -/
def levelT (op : Int) : Int := if op = 6 ∨ op = 7 then 1 else if op = 8 then 2 else if op = 9 ∨ op = 10 then 3 else if op = 11 then 4 else if op = 12 then 5 else 6
def itoaT (n : Int) : ByteArray := ⟨(Lib.decDigits n.toNat).toArray⟩
def hexDig (d : Nat) : UInt8 := if d < 10 then UInt8.ofNat (48 + d) else UInt8.ofNat (87 + d)
def hashT (id : Int) : ByteArray := ⟨(35 :: (List.range 16).map fun i => hexDig (id.toNat / 16 ^ (15 - i) % 16)).toArray⟩
/-- A kid's text, in brackets where it must. -/
def kidAt (l : List (Int × ByteArray)) (i : Nat) (want : Int) : ByteArray := match l[i]? with
  | none => ⟨#[]⟩
  | some p => if p.1 < want then ((⟨#[40]⟩ : ByteArray) ++ p.2) ++ (⟨#[41]⟩ : ByteArray) else p.2
/-- A node's text, its kids' being there. -/
def showB (op : Int) (s : ByteArray) (n id : Int) (l : List (Int × ByteArray)) : ByteArray :=
  if op = 2 then hashT id else if op = 3 then itoaT n else if op = 4 then ((⟨#[39]⟩ : ByteArray) ++ s) ++ (⟨#[39]⟩ : ByteArray)
  else if op = 5 then ((s ++ (⟨#[40]⟩ : ByteArray)) ++ joinB ((List.range l.length).map fun i => kidAt l i 1) (⟨#[44, 32]⟩ : ByteArray)) ++ (⟨#[41]⟩ : ByteArray)
  else if op = 6 then (kidAt l 0 1 ++ (⟨#[32, 124, 32]⟩ : ByteArray)) ++ kidAt l 1 2 else if op = 7 then (kidAt l 0 1 ++ (⟨#[32, 45, 32]⟩ : ByteArray)) ++ kidAt l 1 2
  else if op = 8 then (kidAt l 0 2 ++ (⟨#[32, 38, 32]⟩ : ByteArray)) ++ kidAt l 1 3 else if op = 9 then (kidAt l 0 4 ++ (⟨#[46, 46]⟩ : ByteArray)) ++ kidAt l 1 4
  else if op = 10 then (kidAt l 0 4 ++ (⟨#[58, 58]⟩ : ByteArray)) ++ kidAt l 1 4 else if op = 11 then (⟨#[33]⟩ : ByteArray) ++ kidAt l 0 4
  else if op = 12 then (if n = 0 then kidAt l 0 5 ++ (⟨#[94]⟩ : ByteArray) else (kidAt l 0 5 ++ (⟨#[94]⟩ : ByteArray)) ++ itoaT n) else s
mutual
/-- The text of a tree. -/
def showT : S44 → ByteArray
  | ⟨op, s, n, id, ks, _⟩ => showB op s n id (showM ks)
def showM : List S44 → List (Int × ByteArray)
  | [] => []
  | k :: ks => (levelT k.f0, showT k) :: showM ks
end
theorem showT_is (x : S44) : showT x = showB x.f0 x.f1 x.f2 x.f3 (showM x.f4) := by obtain ⟨a, b, c, d, ks, e⟩ := x; rw [showT]
theorem showM_map (ks : List S44) : showM ks = ks.map fun k => (levelT k.f0, showT k) := by
  induction ks with
  | nil => rw [showM]; rfl
  | cons k ks ih => rw [showM, ih]; rfl
theorem kidAt_in (ks : List S44) (i : Nat) (h : i < ks.length) (want : Int) : kidAt (showM ks) i want = if levelT ks[i].f0 < want then ((⟨#[40]⟩ : ByteArray) ++ showT ks[i]) ++ (⟨#[41]⟩ : ByteArray) else showT ks[i] := by
  unfold kidAt
  rw [showM_map, List.getElem?_map, List.getElem?_eq_getElem h]
  rfl
theorem kidAt_out (ks : List S44) (i : Nat) (h : ¬ i < ks.length) (want : Int) : kidAt (showM ks) i want = ⟨#[]⟩ := by
  unfold kidAt
  rw [showM_map, List.getElem?_map, List.getElem?_eq_none (by omega)]
  rfl
theorem kidAt_size (ks : List S44) (i : Nat) (want : Int) (b : Nat) (hb : ∀ k ∈ ks, (showT k).size ≤ b) : (kidAt (showM ks) i want).size ≤ b + 2 := by
  by_cases h : i < ks.length
  · rw [kidAt_in ks i h want]
    have := hb _ (List.getElem_mem h)
    split
    · simp only [ByteArray.size_append]
      show 1 + _ + 1 ≤ _
      omega
    · omega
  · rw [kidAt_out ks i h want]; show 0 ≤ _; omega
/-- Where numbers and hashes are shown. -/
structure ShowEnv (G : World → Prop) (okN okI : Int → Prop) : Prop where
  below : ∀ W W', Below W.heap.size W W' → G W → G W'
  itoa : ∀ W n, G W → okN n → Calls Tryd.prog 43 #[.int .i64 n] W fun e w' => e = .returned (.string (itoaT n)) ∧ Below W.heap.size W w'
  itoaS : ∀ n, okN n → (itoaT n).size ≤ 100
  hash : ∀ W id ad, G W → okI id → Kd.C k39 W (some ad) 1 [(⟨4, ⟨#[]⟩, 0, id, 0⟩ : S39)] → Calls Tryd.prog 19 #[.slice (some ad) 1 1] W fun e w' => e = .returned (.string (hashT id)) ∧ Below W.heap.size W w'
mutual
/-- A tree whose text can be told, by at most b bytes. -/
def okT (okN okI : Int → Prop) (b : Nat) : S44 → Prop
  | ⟨op, s, n, id, ks, _⟩ => (op = 2 → okI id) ∧ ((op = 3 ∨ (op = 12 ∧ n ≠ 0)) → okN n) ∧ s.size ≤ 1048576 ∧ (showB op s n id (showM ks)).size ≤ b ∧ okM okN okI b ks
def okM (okN okI : Int → Prop) (b : Nat) : List S44 → Prop
  | [] => True
  | k :: ks => okT okN okI b k ∧ okM okN okI b ks
end
theorem okT_is (okN okI : Int → Prop) (b : Nat) (x : S44) : okT okN okI b x = ((x.f0 = 2 → okI x.f3) ∧ ((x.f0 = 3 ∨ (x.f0 = 12 ∧ x.f2 ≠ 0)) → okN x.f2) ∧ x.f1.size ≤ 1048576 ∧ (showT x).size ≤ b ∧ okM okN okI b x.f4) := by obtain ⟨a, b', c, d, ks, e⟩ := x; rw [okT, showT]
theorem okM_mem {okN okI : Int → Prop} {b : Nat} : ∀ {ks : List S44}, okM okN okI b ks → ∀ k ∈ ks, okT okN okI b k
  | k :: ks, h, y, hy => by
    rw [okM] at h
    rcases List.mem_cons.1 hy with rfl | hy
    · exact h.1
    · exact okM_mem h.2 y hy
theorem okT_size {okN okI : Int → Prop} {b : Nat} {x : S44} (h : okT okN okI b x) : (showT x).size ≤ b := by rw [okT_is] at h; exact h.2.2.2.1
theorem blk_belowU {W w' : World} {g : Nat} {o : Obj} (h : Below W.heap.size W w') (hb : W.heap[g]? = some o) : w'.heap[g]? = some o := (h.block g (blk_lt hb)).trans hb
theorem wt_kid (x : S44) (i : Nat) (h : i < x.f4.length) : wt (x.f4[i]) + 1 ≤ wt x := by
  have drop : ∀ (l : List S44) (j : Nat), wtM (l.drop j) ≤ wtM l := by
    intro l
    induction l with
    | nil => intro j; simp
    | cons a l ih =>
      intro j
      cases j with
      | zero => simp
      | succ j => rw [List.drop_succ_cons, wtM_cons]; have := ih j; omega
  have h1 := drop x.f4 i
  rw [List.drop_eq_getElem_cons h, wtM_cons] at h1
  have := wt_is x
  omega
theorem rdT44 (l : List S44) (i : Nat) (h : i < l.length) : rd_T44 l (i : Int) = l[i] := by simp [rd_T44, List.getD_eq_getElem?_getD, List.getElem?_eq_getElem h]
set_option maxHeartbeats 2000000 in
set_option maxRecDepth 100000 in
theorem level_any (x : S44) (A : Option Addr) (c : Nat) (w : World) : Calls Tryd.prog 84 #[.agg #[.int .i64 x.f0, .string x.f1, .int .i64 x.f2, .int .u64 x.f3, .slice A x.f4.length c, .int .i64 x.f5]] w fun e w' => e = .returned (.int .i64 (levelT x.f0)) ∧ Below w.heap.size w w' := by
  by_cases h6 : x.f0 = 6
  · have h := h6
    clear h6
    have HV : Hid (levelT x.f0 = 1) := Lib.hid (by rw [h]; rfl)
    have t6 : (x.f0 == 6) = true := by rw [h]; rfl
    have t7 : (x.f0 == 7) = false := by rw [h]; rfl
    have t8 : (x.f0 == 8) = false := by rw [h]; rfl
    have t9 : (x.f0 == 9) = false := by rw [h]; rfl
    have t10 : (x.f0 == 10) = false := by rw [h]; rfl
    have t11 : (x.f0 == 11) = false := by rw [h]; rfl
    have t12 : (x.f0 == 12) = false := by rw [h]; rfl
    clear h
    go_enter Tryd.func84, Tryd.ntmps84
    go_wp2
    go_ret
    exact ⟨by rw [HV.out] <;> rfl, below_alloc (Below.refl _ _) _⟩
  by_cases h7 : x.f0 = 7
  · have h := h7
    clear h7 h6
    have HV : Hid (levelT x.f0 = 1) := Lib.hid (by rw [h]; rfl)
    have t6 : (x.f0 == 6) = false := by rw [h]; rfl
    have t7 : (x.f0 == 7) = true := by rw [h]; rfl
    have t8 : (x.f0 == 8) = false := by rw [h]; rfl
    have t9 : (x.f0 == 9) = false := by rw [h]; rfl
    have t10 : (x.f0 == 10) = false := by rw [h]; rfl
    have t11 : (x.f0 == 11) = false := by rw [h]; rfl
    have t12 : (x.f0 == 12) = false := by rw [h]; rfl
    clear h
    go_enter Tryd.func84, Tryd.ntmps84
    go_wp2
    go_ret
    exact ⟨by rw [HV.out] <;> rfl, below_alloc (Below.refl _ _) _⟩
  by_cases h8 : x.f0 = 8
  · have h := h8
    clear h8 h6 h7
    have HV : Hid (levelT x.f0 = 2) := Lib.hid (by rw [h]; rfl)
    have t6 : (x.f0 == 6) = false := by rw [h]; rfl
    have t7 : (x.f0 == 7) = false := by rw [h]; rfl
    have t8 : (x.f0 == 8) = true := by rw [h]; rfl
    have t9 : (x.f0 == 9) = false := by rw [h]; rfl
    have t10 : (x.f0 == 10) = false := by rw [h]; rfl
    have t11 : (x.f0 == 11) = false := by rw [h]; rfl
    have t12 : (x.f0 == 12) = false := by rw [h]; rfl
    clear h
    go_enter Tryd.func84, Tryd.ntmps84
    go_wp2
    go_ret
    exact ⟨by rw [HV.out] <;> rfl, below_alloc (Below.refl _ _) _⟩
  by_cases h9 : x.f0 = 9
  · have h := h9
    clear h9 h6 h7 h8
    have HV : Hid (levelT x.f0 = 3) := Lib.hid (by rw [h]; rfl)
    have t6 : (x.f0 == 6) = false := by rw [h]; rfl
    have t7 : (x.f0 == 7) = false := by rw [h]; rfl
    have t8 : (x.f0 == 8) = false := by rw [h]; rfl
    have t9 : (x.f0 == 9) = true := by rw [h]; rfl
    have t10 : (x.f0 == 10) = false := by rw [h]; rfl
    have t11 : (x.f0 == 11) = false := by rw [h]; rfl
    have t12 : (x.f0 == 12) = false := by rw [h]; rfl
    clear h
    go_enter Tryd.func84, Tryd.ntmps84
    go_wp2
    go_ret
    exact ⟨by rw [HV.out] <;> rfl, below_alloc (Below.refl _ _) _⟩
  by_cases h10 : x.f0 = 10
  · have h := h10
    clear h10 h6 h7 h8 h9
    have HV : Hid (levelT x.f0 = 3) := Lib.hid (by rw [h]; rfl)
    have t6 : (x.f0 == 6) = false := by rw [h]; rfl
    have t7 : (x.f0 == 7) = false := by rw [h]; rfl
    have t8 : (x.f0 == 8) = false := by rw [h]; rfl
    have t9 : (x.f0 == 9) = false := by rw [h]; rfl
    have t10 : (x.f0 == 10) = true := by rw [h]; rfl
    have t11 : (x.f0 == 11) = false := by rw [h]; rfl
    have t12 : (x.f0 == 12) = false := by rw [h]; rfl
    clear h
    go_enter Tryd.func84, Tryd.ntmps84
    go_wp2
    go_ret
    exact ⟨by rw [HV.out] <;> rfl, below_alloc (Below.refl _ _) _⟩
  by_cases h11 : x.f0 = 11
  · have h := h11
    clear h11 h6 h7 h8 h9 h10
    have HV : Hid (levelT x.f0 = 4) := Lib.hid (by rw [h]; rfl)
    have t6 : (x.f0 == 6) = false := by rw [h]; rfl
    have t7 : (x.f0 == 7) = false := by rw [h]; rfl
    have t8 : (x.f0 == 8) = false := by rw [h]; rfl
    have t9 : (x.f0 == 9) = false := by rw [h]; rfl
    have t10 : (x.f0 == 10) = false := by rw [h]; rfl
    have t11 : (x.f0 == 11) = true := by rw [h]; rfl
    have t12 : (x.f0 == 12) = false := by rw [h]; rfl
    clear h
    go_enter Tryd.func84, Tryd.ntmps84
    go_wp2
    go_ret
    exact ⟨by rw [HV.out] <;> rfl, below_alloc (Below.refl _ _) _⟩
  by_cases h12 : x.f0 = 12
  · have h := h12
    clear h12 h6 h7 h8 h9 h10 h11
    have HV : Hid (levelT x.f0 = 5) := Lib.hid (by rw [h]; rfl)
    have t6 : (x.f0 == 6) = false := by rw [h]; rfl
    have t7 : (x.f0 == 7) = false := by rw [h]; rfl
    have t8 : (x.f0 == 8) = false := by rw [h]; rfl
    have t9 : (x.f0 == 9) = false := by rw [h]; rfl
    have t10 : (x.f0 == 10) = false := by rw [h]; rfl
    have t11 : (x.f0 == 11) = false := by rw [h]; rfl
    have t12 : (x.f0 == 12) = true := by rw [h]; rfl
    clear h
    go_enter Tryd.func84, Tryd.ntmps84
    go_wp2
    go_ret
    exact ⟨by rw [HV.out] <;> rfl, below_alloc (Below.refl _ _) _⟩
  have HV : Hid (levelT x.f0 = 6) := Lib.hid (by unfold levelT; rw [if_neg (by omega), if_neg (by omega), if_neg (by omega), if_neg (by omega), if_neg (by omega)])
  have t6 : (x.f0 == 6) = false := beq_eq_false_iff_ne.2 h6
  have t7 : (x.f0 == 7) = false := beq_eq_false_iff_ne.2 h7
  have t8 : (x.f0 == 8) = false := beq_eq_false_iff_ne.2 h8
  have t9 : (x.f0 == 9) = false := beq_eq_false_iff_ne.2 h9
  have t10 : (x.f0 == 10) = false := beq_eq_false_iff_ne.2 h10
  have t11 : (x.f0 == 11) = false := beq_eq_false_iff_ne.2 h11
  have t12 : (x.f0 == 12) = false := beq_eq_false_iff_ne.2 h12
  clear h6 h7 h8 h9 h10 h11 h12
  go_enter Tryd.func84, Tryd.ntmps84
  go_wp2
  go_ret
  exact ⟨by rw [HV.out] <;> rfl, below_alloc (Below.refl _ _) _⟩
set_option maxHeartbeats 2000000 in
set_option maxRecDepth 100000 in
theorem kid_walk {G : World → Prop} {okN okI : Int → Prop} (HE : ShowEnv G okN okI) (b n : Nat) (hb : b ≤ 1000000000)
    (ih : ∀ (y : S44) (A : Option Addr) (c : Nat) (W : World), wt y ≤ n → G W → okT okN okI b y → Kd.C k44 W A y.f4.length y.f4 → y.f4.length ≤ c → Calls Tryd.prog 29 #[.agg #[.int .i64 y.f0, .string y.f1, .int .i64 y.f2, .int .u64 y.f3, .slice A y.f4.length c, .int .i64 y.f5]] W fun e w' => e = .returned (.string (showT y)) ∧ Below W.heap.size W w')
    (x : S44) (A : Option Addr) (c i : Nat) (want : Int) (w : World) (hx : wt x ≤ n + 1) (hlx : x.f4.length ≤ 1000000) (hI : i ≤ 1000000) (hg : G w) (hok : okM okN okI b x.f4) (hC : Kd.C k44 w A x.f4.length x.f4) (hc : x.f4.length ≤ c) :
    Calls Tryd.prog 63 #[.agg #[.int .i64 x.f0, .string x.f1, .int .i64 x.f2, .int .u64 x.f3, .slice A x.f4.length c, .int .i64 x.f5], .int .i64 (i : Int), .int .i64 want] w fun e w' => e = .returned (.string (kidAt (showM x.f4) i want)) ∧ Below w.heap.size w w' := by
  have HG := Lib.hid hg
  clear hg
  go_enter Tryd.func63, Tryd.ntmps63
  go_upto_region 1 with (fail)
  have HN := Lib.hid (blk_new w (Obj.cells #[.int .i64 x.f0, .string x.f1, .int .i64 x.f2, .int .u64 x.f3, .slice A x.f4.length c, .int .i64 x.f5] 44))
  have HBA := Lib.hid (below_alloc (Below.refl w.heap.size w) (Obj.cells #[.int .i64 x.f0, .string x.f1, .int .i64 x.f2, .int .u64 x.f3, .slice A x.f4.length c, .int .i64 x.f5] 44))
  have HXA := Lib.hid (Kd.C_below hC HBA.out)
  clear hC
  generalize w.alloc (Obj.cells #[.int .i64 x.f0, .string x.f1, .int .i64 x.f2, .int .u64 x.f3, .slice A x.f4.length c, .int .i64 x.f5] 44) = wA at *
  generalize hb3 : w.heap.size = b3 at *
  have HBA : Hid (Below w.heap.size w wA) := Lib.hid (by rw [hb3]; exact HBA.out)
  clear hb3
  have nc0 : wA.cell? ⟨b3, 0, none⟩ = some (.int .i64 x.f0) := (blk_cell HN.out 0).trans rfl
  have nc1 : wA.cell? ⟨b3, 1, none⟩ = some (.string x.f1) := (blk_cell HN.out 1).trans rfl
  have nc2 : wA.cell? ⟨b3, 2, none⟩ = some (.int .i64 x.f2) := (blk_cell HN.out 2).trans rfl
  have nc3 : wA.cell? ⟨b3, 3, none⟩ = some (.int .u64 x.f3) := (blk_cell HN.out 3).trans rfl
  have nc4 : wA.cell? ⟨b3, 4, none⟩ = some (.slice A x.f4.length c) := (blk_cell HN.out 4).trans rfl
  have nc5 : wA.cell? ⟨b3, 5, none⟩ = some (.int .i64 x.f5) := (blk_cell HN.out 5).trans rfl
  have hlen := hlx
  by_cases hi : i < x.f4.length
  · have HK := Lib.hid (kidAt_in x.f4 i hi want)
    obtain ⟨ad, A4, c4, eA, x0, x1, x2, x3, x4, x5, hl4, hC4⟩ := at_T44 HXA.out (i : Int) (by omega) (by omega)
    subst eA
    rw [rdT44 x.f4 i hi] at x0 x1 x2 x3 x4 x5 hl4 hC4
    have HOK := Lib.hid (okM_mem hok _ (List.getElem_mem hi))
    have hwk := wt_kid x i hi
    have CS := fun W (hg : G W) (hW : Kd.C k44 W A4 x.f4[i].f4.length x.f4[i].f4) => ih x.f4[i] A4 c4 W (by omega) hg HOK.out hW hl4
    have hsz := okT_size HOK.out
    generalize x.f4[i] = y at *
    have CL := fun W => level_any y A4 c4 W
    have HC4 := Lib.hid hC4
    clear hC4 hok
    simp only [Int.toNat_natCast] at x0 x1 x2 x3 x4 x5
    by_cases hlv : levelT y.f0 < want
    · have HK2 := Lib.hid (HK.out.trans (if_pos hlv))
      go_wp2_with (first | (go_at_call 84; (with_reducible refine (CL _).mono ?_); rintro e w1 ⟨rfl, hB⟩; have HB1 := Lib.hid hB; have HBA1 := Lib.hid (below_step HBA.out hB); have HN1 := Lib.hid (blk_belowU hB HN.out); have yx0 := (hB.cell (World.block_lt_of_cell? wA _ x0)).trans x0; have yx1 := (hB.cell (World.block_lt_of_cell? wA _ x1)).trans x1; have yx2 := (hB.cell (World.block_lt_of_cell? wA _ x2)).trans x2; have yx3 := (hB.cell (World.block_lt_of_cell? wA _ x3)).trans x3; have yx4 := (hB.cell (World.block_lt_of_cell? wA _ x4)).trans x4; have yx5 := (hB.cell (World.block_lt_of_cell? wA _ x5)).trans x5; clear hB; have uc0 : w1.cell? ⟨b3, 0, none⟩ = some (.int .i64 x.f0) := (blk_cell HN1.out 0).trans rfl; have uc1 : w1.cell? ⟨b3, 1, none⟩ = some (.string x.f1) := (blk_cell HN1.out 1).trans rfl; have uc2 : w1.cell? ⟨b3, 2, none⟩ = some (.int .i64 x.f2) := (blk_cell HN1.out 2).trans rfl; have uc3 : w1.cell? ⟨b3, 3, none⟩ = some (.int .u64 x.f3) := (blk_cell HN1.out 3).trans rfl; have uc4 : w1.cell? ⟨b3, 4, none⟩ = some (.slice (some ad) x.f4.length c) := (blk_cell HN1.out 4).trans rfl; have uc5 : w1.cell? ⟨b3, 5, none⟩ = some (.int .i64 x.f5) := (blk_cell HN1.out 5).trans rfl) | (go_at_call 29; (with_reducible refine (CS _ ?_ ?_).mono ?_); exact HE.below _ _ HB1.out (HE.below _ _ HBA.out HG.out); exact Kd.C_below HC4.out HB1.out; rintro e w2 ⟨rfl, hB⟩; have HB2 := Lib.hid (below_step HBA1.out hB); clear hB))
      go_ret
      exact ⟨by rw [HK2.out] <;> rfl, HB2.out⟩
    · have HK2 := Lib.hid (HK.out.trans (if_neg hlv))
      go_wp2_with (first | (go_at_call 84; (with_reducible refine (CL _).mono ?_); rintro e w1 ⟨rfl, hB⟩; have HB1 := Lib.hid hB; have HBA1 := Lib.hid (below_step HBA.out hB); have HN1 := Lib.hid (blk_belowU hB HN.out); have yx0 := (hB.cell (World.block_lt_of_cell? wA _ x0)).trans x0; have yx1 := (hB.cell (World.block_lt_of_cell? wA _ x1)).trans x1; have yx2 := (hB.cell (World.block_lt_of_cell? wA _ x2)).trans x2; have yx3 := (hB.cell (World.block_lt_of_cell? wA _ x3)).trans x3; have yx4 := (hB.cell (World.block_lt_of_cell? wA _ x4)).trans x4; have yx5 := (hB.cell (World.block_lt_of_cell? wA _ x5)).trans x5; clear hB; have uc0 : w1.cell? ⟨b3, 0, none⟩ = some (.int .i64 x.f0) := (blk_cell HN1.out 0).trans rfl; have uc1 : w1.cell? ⟨b3, 1, none⟩ = some (.string x.f1) := (blk_cell HN1.out 1).trans rfl; have uc2 : w1.cell? ⟨b3, 2, none⟩ = some (.int .i64 x.f2) := (blk_cell HN1.out 2).trans rfl; have uc3 : w1.cell? ⟨b3, 3, none⟩ = some (.int .u64 x.f3) := (blk_cell HN1.out 3).trans rfl; have uc4 : w1.cell? ⟨b3, 4, none⟩ = some (.slice (some ad) x.f4.length c) := (blk_cell HN1.out 4).trans rfl; have uc5 : w1.cell? ⟨b3, 5, none⟩ = some (.int .i64 x.f5) := (blk_cell HN1.out 5).trans rfl) | (go_at_call 29; (with_reducible refine (CS _ ?_ ?_).mono ?_); exact HE.below _ _ HB1.out (HE.below _ _ HBA.out HG.out); exact Kd.C_below HC4.out HB1.out; rintro e w2 ⟨rfl, hB⟩; have HB2 := Lib.hid (below_step HBA1.out hB); clear hB))
      go_ret
      exact ⟨by rw [HK2.out] <;> rfl, HB2.out⟩
  · have HK := Lib.hid (kidAt_out x.f4 i hi want)
    have hni : (x.f4.length : Int) ≤ (i : Int) := by omega
    go_wp2
    go_ret
    exact ⟨by rw [HK.out] <;> rfl, HBA.out⟩
end Go.Proofs.YtfgfoofojofnmaaDoor.Q
