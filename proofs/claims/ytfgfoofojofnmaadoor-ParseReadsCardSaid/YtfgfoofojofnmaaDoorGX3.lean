/- parse.Show of what was read, where the table of powers is laid; trees alike but for their places. -/
import Derived.Test.YtfgfoofojofnmaaDoorGX2
import Derived.Test.YtfgfoofojofnmaaDoorG7
import Derived.Test.YtfgfoofojofnmaaDoorGP9
import Derived.Test.YtfgfoofojofnmaaDoorG8
set_option linter.unusedVariables false
set_option linter.unusedSimpArgs false
namespace Go.Proofs.YtfgfoofojofnmaaDoor.Q
open Go.RowKit Go.Proofs.YtfgfoofojofnmaaDoorW.PrintWords Go.Proofs.YtfgfoofojofnmaaDoorW.PrintLast Go.Proofs.YtfgfoofojofnmaaDoorW.PrintMore
set_option linter.unusedVariables false
set_option linter.unusedSimpArgs false
open Go.Proofs.YtfgfoofojofnmaaDoor.Hand
theorem writeT_one (t : S39) : writeT [t] = wtok t := by
  apply ByteArray.ext
  apply Array.toList_inj.1
  rw [writeT_list]
  exact Lib.join_one _ _
theorem show_env : ShowEnv GW (fun n => 0 ≤ n ∧ n < 1000000000) (fun id => 0 ≤ id ∧ id < 18446744073709551616) where
  below := gw_below
  itoa := fun W n hg h => itoa_any W n hg h.1 h.2
  itoaS := fun n h => Nat.le_trans (itoa_size n h.1 h.2) (by decide)
  hash := fun W id ad hg h hC => by
    have hw := write_any [(⟨4, ⟨#[]⟩, 0, id, 0⟩ : S39)] (fun t ht => by
      rw [List.mem_singleton] at ht
      rw [ht]
      right; right; right; left
      exact ⟨rfl, rfl, rfl, h.1, h.2⟩) (by simp) (some ad) 1 W hg hC (by simp)
    rw [writeT_one] at hw
    exact hw
theorem join_sum : ∀ ks : List S44, (Lib.join (ks.map fun k => kidL k 1) [44, 32]).length ≤ (ks.map fun k => (showT k).size + 4).sum := by
  have kl : ∀ k : S44, (kidL k 1).length ≤ (showT k).size + 2 := by
    intro k
    have e : (showT k).data.toList.length = (showT k).size := by simp
    unfold kidL
    split
    · simp only [List.length_cons, List.length_append, List.length_nil]; omega
    · omega
  have go : ∀ ks : List S44, ∀ k, (Lib.join (kidL k 1 :: ks.map fun k => kidL k 1) [44, 32]).length ≤ ((k :: ks).map fun k => (showT k).size + 4).sum := by
    intro ks
    induction ks with
    | nil => intro k; rw [List.map_nil, Lib.join_one]; have := kl k; simp only [List.map_cons, List.map_nil, List.sum_cons, List.sum_nil]; omega
    | cons k2 ks ih =>
      intro k
      rw [List.map_cons, join_two]
      have h1 := kl k
      have h2 := ih k2
      simp only [List.map_cons, List.sum_cons] at h2 ⊢
      simp only [List.length_append, List.length_cons, List.length_nil]
      omega
  intro ks
  cases ks with
  | nil => rw [List.map_nil, Lib.join_nil]; simp
  | cons k ks => exact go ks k
theorem wtM_sum (ks : List S44) (h : ∀ k ∈ ks, (showT k).size + 100 ≤ 2000 * wt k) : (ks.map fun k => (showT k).size + 4).sum ≤ 2000 * wtM ks := by
  induction ks with
  | nil => simp
  | cons k ks ih =>
    have h1 := h k (by simp)
    have h2 := ih (fun x hx => h x (List.mem_cons_of_mem _ hx))
    simp only [List.map_cons, List.sum_cons]
    rw [wtM_cons]
    omega
theorem name_size {s : ByteArray} (h : NameOk s) : s.size ≤ 16 := by
  obtain ⟨c, r, h1, _, _, h4⟩ := h
  have : s.data.toList.length = s.size := by simp
  rw [h1] at this
  simp only [List.length_cons] at this
  omega
theorem wf_size {x : S44} (h : Wf x) : (showT x).size + 100 ≤ 2000 * wt x := by
  have kb : ∀ (ks : List S44) (i : Nat) (w : Int) (b : Nat) (k : S44), ks[i]? = some k → (showT k).size ≤ b → (kidAt (showM ks) i w).size ≤ b + 2 := by
    intro ks i w b k hk hb
    have hi := (List.getElem?_eq_some_iff.1 hk)
    obtain ⟨hi, e⟩ := hi
    rw [kidAt_in ks i hi w, e]
    split
    · simp only [ByteArray.size_append]; show 1 + _ + 1 ≤ _; omega
    · omega
  induction h with
  | name s p h => rw [wt_mk, wtM_nil]; have := name_size h; show s.size + 100 ≤ _; omega
  | hash id p h0 h1 => rw [wt_mk, wtM_nil]; show (hashT id).size + 100 ≤ _; rw [hash_is, ByteArray.size_append, hexT_size]; decide
  | num n p h0 h1 => rw [wt_mk, wtM_nil]; show (itoaT n).size + 100 ≤ _; have := itoa_size n h0 h1; omega
  | text s p h => rw [wt_mk, wtM_nil]; show (((⟨#[39]⟩ : ByteArray) ++ s) ++ (⟨#[39]⟩ : ByteArray)).size + 100 ≤ _; have := h.2.2; simp only [ByteArray.size_append]; show 1 + s.size + 1 + 100 ≤ _; omega
  | call s ks p hs _ ih =>
    have e : (showT ⟨5, s, 0, 0, ks, p⟩).size = (showT ⟨5, s, 0, 0, ks, p⟩).data.toList.length := by simp
    rw [e, call_list, wt_mk]
    have h1 := join_sum ks
    have h2 := wtM_sum ks ih
    have h3 := name_size hs
    have h4 : s.data.toList.length = s.size := by simp
    simp only [List.length_append, List.length_cons, List.length_nil]
    omega
  | two op a b p ho _ _ iha ihb =>
    have k0 := fun w => kb [a, b] 0 w _ a rfl (Nat.le_refl _)
    have k1 := fun w => kb [a, b] 1 w _ b rfl (Nat.le_refl _)
    have e : showT (nd op [a, b] p) = showB op ⟨#[]⟩ 0 0 (showM [a, b]) := by unfold nd; rw [showT]
    rw [e, wt_nd2]
    rcases ho with rfl | rfl | rfl | rfl | rfl
    · show ((kidAt (showM [a, b]) 0 1 ++ (⟨#[32, 124, 32]⟩ : ByteArray)) ++ kidAt (showM [a, b]) 1 2).size + 100 ≤ _
      have := k0 1; have := k1 2; simp only [ByteArray.size_append]; show _ + 3 + _ + 100 ≤ _; omega
    · show ((kidAt (showM [a, b]) 0 1 ++ (⟨#[32, 45, 32]⟩ : ByteArray)) ++ kidAt (showM [a, b]) 1 2).size + 100 ≤ _
      have := k0 1; have := k1 2; simp only [ByteArray.size_append]; show _ + 3 + _ + 100 ≤ _; omega
    · show ((kidAt (showM [a, b]) 0 2 ++ (⟨#[32, 38, 32]⟩ : ByteArray)) ++ kidAt (showM [a, b]) 1 3).size + 100 ≤ _
      have := k0 2; have := k1 3; simp only [ByteArray.size_append]; show _ + 3 + _ + 100 ≤ _; omega
    · show ((kidAt (showM [a, b]) 0 4 ++ (⟨#[46, 46]⟩ : ByteArray)) ++ kidAt (showM [a, b]) 1 4).size + 100 ≤ _
      have := k0 4; have := k1 4; simp only [ByteArray.size_append]; show _ + 2 + _ + 100 ≤ _; omega
    · show ((kidAt (showM [a, b]) 0 4 ++ (⟨#[58, 58]⟩ : ByteArray)) ++ kidAt (showM [a, b]) 1 4).size + 100 ≤ _
      have := k0 4; have := k1 4; simp only [ByteArray.size_append]; show _ + 2 + _ + 100 ≤ _; omega
  | not a p _ ih =>
    have k0 := fun w => kb [a] 0 w _ a rfl (Nat.le_refl _)
    have e : showT (nd 11 [a] p) = (⟨#[33]⟩ : ByteArray) ++ kidAt (showM [a]) 0 4 := by unfold nd; rw [showT]; rfl
    rw [e, wt_nd1]
    have := k0 4; simp only [ByteArray.size_append]; show 1 + _ + 100 ≤ _; omega
  | up n a p h0 h9 _ ih =>
    have k0 := fun w => kb [a] 0 w _ a rfl (Nat.le_refl _)
    have h5 := k0 5
    rw [showT, wt_mk, wtM_cons, wtM_nil]
    by_cases hn : n = 0
    · have e : showB 12 ⟨#[]⟩ n 0 (showM [a]) = kidAt (showM [a]) 0 5 ++ (⟨#[94]⟩ : ByteArray) := by
        show (if n = 0 then _ else _) = _
        rw [if_pos hn]
      rw [e]; simp only [ByteArray.size_append]; show _ + 1 + 100 ≤ _; omega
    · have e : showB 12 ⟨#[]⟩ n 0 (showM [a]) = (kidAt (showM [a]) 0 5 ++ (⟨#[94]⟩ : ByteArray)) ++ itoaT n := by
        show (if n = 0 then _ else _) = _
        rw [if_neg hn]
      have := itoa_size n h0 h9
      rw [e]; simp only [ByteArray.size_append]; show _ + 1 + _ + 100 ≤ _; omega
theorem okM_all {okN okI : Int → Prop} {b : Nat} : ∀ {ks : List S44}, (∀ k ∈ ks, okT okN okI b k) → okM okN okI b ks
  | [], _ => by rw [okM]; trivial
  | k :: ks, h => by rw [okM]; exact ⟨h k (by simp), okM_all (fun x hx => h x (List.mem_cons_of_mem _ hx))⟩
theorem wt_mem {ks : List S44} {k : S44} (h : k ∈ ks) : wt k ≤ wtM ks := by
  induction ks with
  | nil => simp at h
  | cons a ks ih =>
    rw [wtM_cons]
    rcases List.mem_cons.1 h with rfl | h
    · omega
    · have := ih h; omega
theorem wf_ok {x : S44} (h : Wf x) (hw : wt x ≤ 100000) : okT (fun n => 0 ≤ n ∧ n < 1000000000) (fun id => 0 ≤ id ∧ id < 18446744073709551616) 1000000000 x := by
  have sz : ∀ {x : S44}, Wf x → wt x ≤ 100000 → (showT x).size ≤ 1000000000 := fun {x} h hw => by have := wf_size h; omega
  have z : ((⟨#[]⟩ : ByteArray)).size ≤ 1048576 := by decide
  induction h with
  | name s p h => rw [okT_is]; exact ⟨fun e => absurd e (by show ¬ (1 : Int) = 2; decide), fun e => absurd e (by show ¬ ((1 : Int) = 3 ∨ ((1 : Int) = 12 ∧ _)); simp), Nat.le_trans (name_size h) (by decide), sz (Wf.name s p h) hw, by rw [okM]; trivial⟩
  | hash id p h0 h1 => rw [okT_is]; exact ⟨fun _ => ⟨h0, h1⟩, fun e => absurd e (by show ¬ ((2 : Int) = 3 ∨ ((2 : Int) = 12 ∧ _)); simp), z, sz (Wf.hash id p h0 h1) hw, by rw [okM]; trivial⟩
  | num n p h0 h1 => rw [okT_is]; exact ⟨fun e => absurd e (by show ¬ (3 : Int) = 2; decide), fun _ => ⟨h0, h1⟩, z, sz (Wf.num n p h0 h1) hw, by rw [okM]; trivial⟩
  | text s p h => rw [okT_is]; exact ⟨fun e => absurd e (by show ¬ (4 : Int) = 2; decide), fun e => absurd e (by show ¬ ((4 : Int) = 3 ∨ ((4 : Int) = 12 ∧ _)); simp), Nat.le_trans h.2.2 (by decide), sz (Wf.text s p h) hw, by rw [okM]; trivial⟩
  | call s ks p hs hk ih =>
    have h0 := sz (Wf.call s ks p hs hk) hw
    rw [okT_is]
    rw [wt_mk] at hw
    exact ⟨fun e => absurd e (by show ¬ (5 : Int) = 2; decide), fun e => absurd e (by show ¬ ((5 : Int) = 3 ∨ ((5 : Int) = 12 ∧ _)); simp), Nat.le_trans (name_size hs) (by decide), h0, okM_all (fun k hk => ih k hk (by have : wt k ≤ wtM ks := wt_mem hk; omega))⟩
  | two op a b p ho ha hb iha ihb =>
    have h0 := sz (Wf.two op a b p ho ha hb) hw
    rw [wt_nd2] at hw
    rw [okT_is]
    refine ⟨fun e => absurd e (by show ¬ op = 2; omega), fun e => absurd e (by show ¬ (op = 3 ∨ (op = 12 ∧ _)); omega), z, h0, ?_⟩
    exact okM_all (fun k hk => by
      have hk : k = a ∨ k = b := by simpa [nd] using hk
      rcases hk with rfl | rfl
      · exact iha (by omega)
      · exact ihb (by omega))
  | not a p ha ih =>
    have h0 := sz (Wf.not a p ha) hw
    rw [wt_nd1] at hw
    rw [okT_is]
    refine ⟨fun e => absurd e (by show ¬ (11 : Int) = 2; decide), fun e => absurd e (by show ¬ ((11 : Int) = 3 ∨ ((11 : Int) = 12 ∧ _)); simp), z, h0, ?_⟩
    exact okM_all (fun k hk => by
      have hk : k = a := by simpa [nd] using hk
      rw [hk]; exact ih (by omega))
  | up n a p h1 h9 ha ih =>
    have h0 := sz (Wf.up n a p h1 h9 ha) hw
    rw [wt_mk, wtM_cons, wtM_nil] at hw
    rw [okT_is]
    refine ⟨fun e => absurd e (by show ¬ (12 : Int) = 2; decide), fun _ => ⟨h1, h9⟩, z, h0, ?_⟩
    exact okM_all (fun k hk => by
      have hk : k = a := by simpa using hk
      rw [hk]; exact ih (by omega))
/-- parse.Show of such a tree. -/
theorem show_any {x : S44} (h : Wf x) (hw : wt x ≤ 100000) (A : Option Addr) (c : Nat) (w : World) (hg : GW w) (hC : Kd.C k44 w A x.f4.length x.f4) (hc : x.f4.length ≤ c) :
    Calls Tryd.prog 29 #[.agg #[.int .i64 x.f0, .string x.f1, .int .i64 x.f2, .int .u64 x.f3, .slice A x.f4.length c, .int .i64 x.f5]] w fun e w' => e = .returned (.string (showT x)) ∧ Below w.heap.size w w' :=
  show_walk show_env 1000000000 (Nat.le_refl _) 100000 (by decide) x A c w hw hg (wf_ok h hw) hC hc
end Go.Proofs.YtfgfoofojofnmaaDoor.Q
