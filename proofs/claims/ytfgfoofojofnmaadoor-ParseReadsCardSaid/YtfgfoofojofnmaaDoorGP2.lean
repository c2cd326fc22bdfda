/- Plain words and laws for the parser's walks: its functions' steps, and the rows of its trees in memory. -/
import Derived.Deep.RegionWith
import Derived.Test.YtfgfoofojofnmaaDoorGP1
set_option linter.unusedVariables false
set_option linter.unusedSimpArgs false
namespace Go.Proofs.YtfgfoofojofnmaaDoor.Q
open Go.RowKit Go.Proofs.YtfgfoofojofnmaaDoorW.PrintWords Go.Proofs.YtfgfoofojofnmaaDoorW.PrintLast Go.Proofs.YtfgfoofojofnmaaDoorW.PrintMore
set_option linter.unusedVariables false
set_option linter.unusedSimpArgs false
open Go.Proofs.YtfgfoofojofnmaaDoor.Hand
/-- What a function of the reader answers and leaves. -/
def NdPost (W0 : World) (g : Nat) (ev : Int) (r : S44 × St) (w : World) (e : Ending) (w' : World) : Prop :=
  ∃ v, e = .returned (.agg #[.int .i64 r.1.f0, .string r.1.f1, .int .i64 r.1.f2, .int .u64 r.1.f3, v, .int .i64 r.1.f5]) ∧ k44.R 44 w' w.heap.size (fun _ => True) v r.1.f4 ∧ RdAt W0 g ev r.2 w' ∧ Frm g w w'
def FnC (n : Nat) (F : Int → Nat → St → S44 × St) (add k : Nat) : Prop := ∀ (W0 : World) (g : Nat) (ev : Int) (st : St) (w : World), (6 * st.ts.length + add ≤ k ∧ k ≤ 1000000) → RdAt W0 g ev st w → Calls Tryd.prog n #[.pointer (some ⟨g, 0, none⟩)] w (NdPost W0 g ev (F ev k st) w)
theorem FnC.use {n add k : Nat} {F : Int → Nat → St → S44 × St} (h : FnC n F add k) {W0 : World} {g : Nat} {ev : Int} {st : St} (hf : 6 * st.ts.length + add ≤ k ∧ k ≤ 1000000) (w : World) (hr : RdAt W0 g ev st w) :
    Calls Tryd.prog n #[.pointer (some ⟨g, 0, none⟩)] w fun e w' => ∃ A c, e = .returned (.agg #[.int .i64 (F ev k st).1.f0, .string (F ev k st).1.f1, .int .i64 (F ev k st).1.f2, .int .u64 (F ev k st).1.f3, .slice A (F ev k st).1.f4.length c, .int .i64 (F ev k st).1.f5]) ∧ k44.R 44 w' w.heap.size (fun _ => True) (.slice A (F ev k st).1.f4.length c) (F ev k st).1.f4 ∧ RdAt W0 g ev (F ev k st).2 w' ∧ Frm g w w' := by
  refine (h W0 g ev st w hf hr).mono ?_
  rintro e w' ⟨v, rfl, h1, h2, h3⟩
  obtain ⟨A, c, rfl⟩ := Kd.R_slice h1
  exact ⟨A, c, rfl, h1, h2, h3⟩
theorem signAt_len {s : ByteArray} {st s1 : St} {p : Int} (h : signAt s st = some (p, s1)) : st.ts.length = s1.ts.length + 1 := by
  unfold signAt at h
  split at h
  · exact absurd h (by simp)
  · rename_i t r e
    split at h
    · injection h with h; injection h with h1 h2
      rw [← h2, e]; rfl
    · exact absurd h (by simp)
theorem sgn_none {s : ByteArray} {st : St} (h : signAt s st = none) : sgn s st = (0, false, st) := by unfold sgn; rw [h]
theorem sgn_some {s : ByteArray} {st s1 : St} {p : Int} (h : signAt s st = some (p, s1)) : sgn s st = (p, true, s1) := by unfold sgn; rw [h]
theorem sign_no {W0 : World} {g : Nat} {ev : Int} {s : ByteArray} {st : St} (hn : signAt s st = none) (w : World) (h : RdAt W0 g ev st w) :
    Calls Tryd.prog 83 #[.pointer (some ⟨g, 0, none⟩), .string s] w fun e w' => e = .returned (.tuple #[.int .i64 0, .bool false]) ∧ RdAt W0 g ev st w' ∧ Frm g w w' := by
  have := sign_any W0 g ev s st w h
  rw [sgn_none hn] at this
  exact this
theorem sign_yes {W0 : World} {g : Nat} {ev p : Int} {s : ByteArray} {st s1 : St} (hn : signAt s st = some (p, s1)) (w : World) (h : RdAt W0 g ev st w) :
    Calls Tryd.prog 83 #[.pointer (some ⟨g, 0, none⟩), .string s] w fun e w' => e = .returned (.tuple #[.int .i64 p, .bool true]) ∧ RdAt W0 g ev s1 w' ∧ Frm g w w' := by
  have := sign_any W0 g ev s st w h
  rw [sgn_some hn] at this
  exact this
/-- How many tokens the reader holds: a measure. -/
def tokLen (g : Nat) (w : World) : Nat := match w.heap[g]? with
  | some (.cells cs _ _) => match cs[0]? with
    | some (Value.slice _ n _) => n
    | _ => 0
  | _ => 0
theorem RdAt.len {W0 w : World} {g : Nat} {ev : Int} {st : St} (h : RdAt W0 g ev st w) : tokLen g w = st.ts.length := by
  obtain ⟨A, c, hl, hC, hb⟩ := h.cells
  unfold tokLen
  rw [hb]
  rfl
/-- A literal of nodes: its row. -/
theorem R_kids {W : World} {base : Nat} {ok : Nat → Prop} (cs : List Value) (xs : List S44) (hr : Reps (k44.M W base ok) 6 xs cs) (hb : base ≤ W.heap.size) (hx : xs.length ≤ 9223372036854775807) (ok' : Nat → Prop) (h1 : ∀ k, ok k → ok' k) (h2 : ok' W.heap.size) :
    k44.R 44 (W.alloc (.cells cs.toArray 44)) base ok' (.slice (some ⟨W.heap.size, 0, none⟩) xs.length xs.length) xs := by
  refine ⟨fun k hk => ?_, cs, ?_, ?_⟩
  · have : W.heap.size = k := by simpa [Value.ownBlock] using hk
    rw [← this]; exact h2
  · exact World.ownsRow_lit (base := base) (e := 44) (size := 6) W cs.toArray xs.length hb hx (by simpa using hr.1)
  · refine hr.imp_ (fun p c hp => ?_)
    have h3 := k44.M_bound (Kd.M_step (w1 := W.alloc (.cells cs.toArray 44)) (k44.M_bound hp) (fun k _ hk => Below.heap_alloc _ _ _ hk))
    refine k44.M_mono (fun k hk => ⟨h1 k hk.1.1, ?_⟩) h3
    have := hk.1.2.2.1
    simp only [Value.ownBlock]
    intro e
    have e2 : k = W.heap.size := by simpa using e
    omega
theorem M_of {W : World} {base : Nat} {ok : Nat → Prop} {x : S44} {v : Value} (h : k44.R 44 W base ok v x.f4) : k44.M W base ok x [.int .i64 x.f0, .string x.f1, .int .i64 x.f2, .int .u64 x.f3, v, .int .i64 x.f5] := k44_mkM W base ok x h
theorem reps_two {W : World} {base : Nat} {ok : Nat → Prop} {a b : S44} {u v : Value} (ha : k44.R 44 W base ok u a.f4) (hb : k44.R 44 W base ok v b.f4) :
    Reps (k44.M W base ok) 6 [a, b] [.int .i64 a.f0, .string a.f1, .int .i64 a.f2, .int .u64 a.f3, u, .int .i64 a.f5, .int .i64 b.f0, .string b.f1, .int .i64 b.f2, .int .u64 b.f3, v, .int .i64 b.f5] := by
  have h1 := (Reps.snoc (Reps.none (k44.M W base ok) 6) (M_of ha) rfl)
  exact Reps.snoc h1 (M_of hb) rfl
theorem reps_one {W : World} {base : Nat} {ok : Nat → Prop} {a : S44} {u : Value} (ha : k44.R 44 W base ok u a.f4) :
    Reps (k44.M W base ok) 6 [a] [.int .i64 a.f0, .string a.f1, .int .i64 a.f2, .int .u64 a.f3, u, .int .i64 a.f5] :=
  Reps.snoc (Reps.none (k44.M W base ok) 6) (M_of ha) rfl
theorem interL_none {ev : Int} {k : Nat} {a : S44} {st : St} (h : signAt (str1 38) st = none) : interL ev k a st = (a, st) := by
  cases k with
  | zero => rfl
  | succ k => simp only [interL, h]
theorem interL_some {ev p : Int} {k : Nat} {a : S44} {st s1 : St} (h : signAt (str1 38) st = some (p, s1)) : interL ev (k + 1) a st = interL ev k (nd 8 [a, (rangedF ev k s1).1] p) (rangedF ev k s1).2 := by simp only [interL, h]
theorem ndPost_of {W0 w w' : World} {g : Nat} {ev : Int} {r : S44 × St} {a : S44} {s : St} {e : Ending} (hr : r = (a, s)) (h : ∃ v, e = .returned (.agg #[.int .i64 a.f0, .string a.f1, .int .i64 a.f2, .int .u64 a.f3, v, .int .i64 a.f5]) ∧ k44.R 44 w' w.heap.size (fun _ => True) v a.f4 ∧ RdAt W0 g ev s w' ∧ Frm g w w') : NdPost W0 g ev r w e w' := by
  rw [hr]; exact h
theorem R_set6 {w1 : World} {base b : Nat} {ok : Nat → Prop} {v : Value} {xs : List S44} (h : k44.R 44 w1 base ok v xs) (hb : ∀ k, ok k → k ≠ b) (v0 v1 v2 v3 v4 v5 : Value) : k44.R 44 ((((((w1.setCell ⟨b, 0, none⟩ v0).setCell ⟨b, 1, none⟩ v1).setCell ⟨b, 2, none⟩ v2).setCell ⟨b, 3, none⟩ v3).setCell ⟨b, 4, none⟩ v4).setCell ⟨b, 5, none⟩ v5) base ok v xs :=
  Kd.R_far (Kd.R_far (Kd.R_far (Kd.R_far (Kd.R_far (Kd.R_far h hb _) hb _) hb _) hb _) hb _) hb _
theorem R_true {w1 : World} {base : Nat} {ok : Nat → Prop} {v : Value} {xs : List S44} (h : k44.R 44 w1 base ok v xs) : k44.R 44 w1 base (fun _ => True) v xs := Kd.R_mono h (fun _ _ => trivial)
/-- What a call made, beside a block b2 that was there and a block b3 that is new behind it. -/
theorem R_between {W w1 : World} {base b2 b3 : Nat} {v : Value} {xs : List S44} (h : k44.R 44 w1 W.heap.size (fun _ => True) v xs) (hb : base ≤ W.heap.size) (h2 : b2 < W.heap.size) (h3 : w1.heap.size ≤ b3) : k44.R 44 w1 base (fun q => q ≠ b2 ∧ q ≠ b3) v xs :=
  Kd.R_lower (Kd.R_mono (Kd.R_bound h) (fun k hk => ⟨by have := hk.2.1; omega, by have := hk.2.2.1; omega⟩)) hb
theorem alloc_size (w : World) (o : Obj) : (w.alloc o).heap.size = w.heap.size + 1 := Array.size_push _
theorem set6_size (w3 : World) (b3 : Nat) (v0 v1 v2 v3 v4 v5 : Value) : ((((((w3.setCell ⟨b3, 0, none⟩ v0).setCell ⟨b3, 1, none⟩ v1).setCell ⟨b3, 2, none⟩ v2).setCell ⟨b3, 3, none⟩ v3).setCell ⟨b3, 4, none⟩ v4).setCell ⟨b3, 5, none⟩ v5).heap.size = w3.heap.size := by simp [World.setCell]
theorem blk_far6 {w3 : World} {b b3 : Nat} {o : Obj} (h : w3.heap[b]? = some o) (hne : b ≠ b3) (v0 v1 v2 v3 v4 v5 : Value) : ((((((w3.setCell ⟨b3, 0, none⟩ v0).setCell ⟨b3, 1, none⟩ v1).setCell ⟨b3, 2, none⟩ v2).setCell ⟨b3, 3, none⟩ v3).setCell ⟨b3, 4, none⟩ v4).setCell ⟨b3, 5, none⟩ v5).heap[b]? = some o := blk_far (blk_far (blk_far (blk_far (blk_far (blk_far h hne _ _) hne _ _) hne _ _) hne _ _) hne _ _) hne _ _
/-- A tree's rows where nothing but g has turned: they are new. -/
theorem R_frm' {w w1 : World} {g base : Nat} {ok : Nat → Prop} {v : Value} {xs : List S44} (h : k44.R 44 w base ok v xs) (hf : Frm g w w1) (hg : ∀ k, ok k → base ≤ k → k ≠ g) : k44.R 44 w1 base ok v xs :=
  Kd.R_mono (Kd.R_move (Kd.R_bound h) (fun k hk => hf.block k hk.2.2.1 (hg k hk.1 hk.2.1))) (fun _ hk => hk.1)
theorem R_new2 {W w' : World} {base b2 b3 : Nat} {v : Value} {xs : List S44} (h : k44.R 44 w' W.heap.size (fun _ => True) v xs) (hb : base = b2) (h2 : b2 < W.heap.size) (h3 : b3 < W.heap.size) : k44.R 44 w' base (fun q => q ≠ b2 ∧ q ≠ b3) v xs :=
  Kd.R_lower (Kd.R_mono (Kd.R_bound h) (fun k hk => ⟨by have := hk.2.1; omega, by have := hk.2.1; omega⟩)) (by omega)
/-- Two nodes in a literal, the literal stored: its row. -/
theorem R_pair {w3 : World} {base b2 b3 : Nat} {a b : S44} {u v : Value} (ha : k44.R 44 w3 base (fun q => q ≠ b2 ∧ q ≠ b3) u a.f4) (hb : k44.R 44 w3 base (fun q => q ≠ b2 ∧ q ≠ b3) v b.f4) (hbase : base = b2) (h2 : b2 < w3.heap.size) (h3 : b3 < w3.heap.size) (v0 v1 v2 v3 v4 v5 : Value) :
    k44.R 44 (((((((w3.setCell ⟨b3, 0, none⟩ v0).setCell ⟨b3, 1, none⟩ v1).setCell ⟨b3, 2, none⟩ v2).setCell ⟨b3, 3, none⟩ v3).setCell ⟨b3, 4, none⟩ v4).setCell ⟨b3, 5, none⟩ v5).alloc (.cells #[.int .i64 a.f0, .string a.f1, .int .i64 a.f2, .int .u64 a.f3, u, .int .i64 a.f5, .int .i64 b.f0, .string b.f1, .int .i64 b.f2, .int .u64 b.f3, v, .int .i64 b.f5] 44)) base (fun q => q ≠ b2 ∧ q ≠ b3) (.slice (some ⟨w3.heap.size, 0, none⟩) 2 2) [a, b] := by
  have h := R_kids (W := ((((((w3.setCell ⟨b3, 0, none⟩ v0).setCell ⟨b3, 1, none⟩ v1).setCell ⟨b3, 2, none⟩ v2).setCell ⟨b3, 3, none⟩ v3).setCell ⟨b3, 4, none⟩ v4).setCell ⟨b3, 5, none⟩ v5)) (base := base) (ok := fun q => q ≠ b2 ∧ q ≠ b3) _ [a, b] (reps_two (R_set6 ha (fun q hq => hq.2) v0 v1 v2 v3 v4 v5) (R_set6 hb (fun q hq => hq.2) v0 v1 v2 v3 v4 v5)) (by rw [set6_size]; omega) (by simp) (fun q => q ≠ b2 ∧ q ≠ b3) (fun _ hq => hq) (by rw [set6_size]; omega)
  rw [set6_size] at h
  exact h
theorem R_single {w3 : World} {base b2 b3 : Nat} {a : S44} {u : Value} (ha : k44.R 44 w3 base (fun q => q ≠ b2 ∧ q ≠ b3) u a.f4) (hbase : base = b2) (h2 : b2 < w3.heap.size) (h3 : b3 < w3.heap.size) (v0 v1 v2 v3 v4 v5 : Value) :
    k44.R 44 (((((((w3.setCell ⟨b3, 0, none⟩ v0).setCell ⟨b3, 1, none⟩ v1).setCell ⟨b3, 2, none⟩ v2).setCell ⟨b3, 3, none⟩ v3).setCell ⟨b3, 4, none⟩ v4).setCell ⟨b3, 5, none⟩ v5).alloc (.cells #[.int .i64 a.f0, .string a.f1, .int .i64 a.f2, .int .u64 a.f3, u, .int .i64 a.f5] 44)) base (fun q => q ≠ b2 ∧ q ≠ b3) (.slice (some ⟨w3.heap.size, 0, none⟩) 1 1) [a] := by
  have h := R_kids (W := ((((((w3.setCell ⟨b3, 0, none⟩ v0).setCell ⟨b3, 1, none⟩ v1).setCell ⟨b3, 2, none⟩ v2).setCell ⟨b3, 3, none⟩ v3).setCell ⟨b3, 4, none⟩ v4).setCell ⟨b3, 5, none⟩ v5)) (base := base) (ok := fun q => q ≠ b2 ∧ q ≠ b3) _ [a] (reps_one (R_set6 ha (fun q hq => hq.2) v0 v1 v2 v3 v4 v5)) (by rw [set6_size]; omega) (by simp) (fun q => q ≠ b2 ∧ q ≠ b3) (fun _ hq => hq) (by rw [set6_size]; omega)
  rw [set6_size] at h
  exact h
theorem exprL_none {ev : Int} {k : Nat} {a : S44} {st : St} (h : signAt (str1 124) st = none) (h2 : signAt (str1 45) st = none) : exprL ev k a st = (a, st) := by
  cases k with
  | zero => rfl
  | succ k => simp only [exprL, h, h2]
theorem exprL_or {ev p : Int} {k : Nat} {a : S44} {st s1 : St} (h : signAt (str1 124) st = some (p, s1)) : exprL ev (k + 1) a st = exprL ev k (nd 6 [a, (interF ev k s1).1] p) (interF ev k s1).2 := by simp only [exprL, h]
theorem exprL_minus {ev p : Int} {k : Nat} {a : S44} {st s1 : St} (h : signAt (str1 124) st = none) (h2 : signAt (str1 45) st = some (p, s1)) : exprL ev (k + 1) a st = exprL ev k (nd 7 [a, (interF ev k s1).1] p) (interF ev k s1).2 := by simp only [exprL, h, h2]
theorem idx2_0 (a b : ByteArray) (w : World) : (Instr.index 133 (.agg #[.string a, .string b]) (.int .i64 0)).run Tryd.prog w = .ok (.string a) w := by kernel_rfl
theorem idx2_1 (a b : ByteArray) (w : World) : (Instr.index 133 (.agg #[.string a, .string b]) (.int .i64 1)).run Tryd.prog w = .ok (.string b) w := by kernel_rfl
theorem fail_z {W0 : World} {g : Nat} {ev : Int} {st : St} (w : World) (h : RdAt W0 g ev st w) :
    Calls Tryd.prog 50 #[.pointer (some ⟨g, 0, none⟩)] w fun e w' => e = .returned (.agg #[.int .i64 0, .string (⟨#[]⟩ : ByteArray), .int .i64 0, .int .u64 0, .slice none 0 0, .int .i64 0]) ∧ RdAt W0 g ev (failS ev st) w' ∧ Frm g w w' := fail_any W0 g ev st w h
theorem slt_if {W0 : World} {ad : Addr} {t : S39} {r : List S39} {c : Nat} (hC : Kd.C k39 W0 (some ad) (t :: r).length (t :: r)) (hl : r.length + 1 ≤ c) : SlT W0 (.slice (if c = 1 then some ad else some ⟨ad.block, ad.off + 5, none⟩) r.length (c - 1)) r := by
  by_cases h : c = 1
  · rw [if_pos h, h]; exact slt_one hC hl h
  · rw [if_neg h]; exact slt_more hC hl
theorem rangedF_none {ev : Int} {k : Nat} {st : St} (h : signAt (str2 46 46) (unaryF ev k st).2 = none) (h2 : signAt (str2 58 58) (unaryF ev k st).2 = none) : rangedF ev (k + 1) st = ((unaryF ev k st).1, (unaryF ev k st).2) := by simp only [rangedF, h, h2]
theorem rangedF_dots {ev p : Int} {k : Nat} {st s1 : St} (h : signAt (str2 46 46) (unaryF ev k st).2 = some (p, s1)) : rangedF ev (k + 1) st = (nd 9 [(unaryF ev k st).1, (unaryF ev k s1).1] p, (unaryF ev k s1).2) := by simp only [rangedF, h]
theorem rangedF_colons {ev p : Int} {k : Nat} {st s1 : St} (h : signAt (str2 46 46) (unaryF ev k st).2 = none) (h2 : signAt (str2 58 58) (unaryF ev k st).2 = some (p, s1)) : rangedF ev (k + 1) st = (nd 10 [(unaryF ev k st).1, (unaryF ev k s1).1] p, (unaryF ev k s1).2) := by simp only [rangedF, h, h2]
theorem R_pair2 {w3 : World} {base b2 b3 : Nat} {a b : S44} {u v : Value} (ha : k44.R 44 w3 base (fun q => q ≠ b2 ∧ q ≠ b3) u a.f4) (hb : k44.R 44 w3 base (fun q => q ≠ b2 ∧ q ≠ b3) v b.f4) (hbase : base = b2) (h2 : b2 < w3.heap.size) (h3 : b3 < w3.heap.size) (v0 v1 v2 v3 v4 v5 : Value) :
    k44.R 44 (((((((w3.setCell ⟨b2, 0, none⟩ v0).setCell ⟨b2, 1, none⟩ v1).setCell ⟨b2, 2, none⟩ v2).setCell ⟨b2, 3, none⟩ v3).setCell ⟨b2, 4, none⟩ v4).setCell ⟨b2, 5, none⟩ v5).alloc (.cells #[.int .i64 a.f0, .string a.f1, .int .i64 a.f2, .int .u64 a.f3, u, .int .i64 a.f5, .int .i64 b.f0, .string b.f1, .int .i64 b.f2, .int .u64 b.f3, v, .int .i64 b.f5] 44)) base (fun q => q ≠ b2 ∧ q ≠ b3) (.slice (some ⟨w3.heap.size, 0, none⟩) 2 2) [a, b] := by
  have h := R_kids (W := ((((((w3.setCell ⟨b2, 0, none⟩ v0).setCell ⟨b2, 1, none⟩ v1).setCell ⟨b2, 2, none⟩ v2).setCell ⟨b2, 3, none⟩ v3).setCell ⟨b2, 4, none⟩ v4).setCell ⟨b2, 5, none⟩ v5)) (base := base) (ok := fun q => q ≠ b2 ∧ q ≠ b3) _ [a, b] (reps_two (R_set6 ha (fun q hq => hq.1) v0 v1 v2 v3 v4 v5) (R_set6 hb (fun q hq => hq.1) v0 v1 v2 v3 v4 v5)) (by rw [set6_size]; omega) (by simp) (fun q => q ≠ b2 ∧ q ≠ b3) (fun _ hq => hq) (by rw [set6_size]; omega)
  rw [set6_size] at h
  exact h
theorem unaryF_not {ev p : Int} {k : Nat} {st s1 : St} (h : signAt (str1 33) st = some (p, s1)) : unaryF ev (k + 1) st = (nd 11 [(unaryF ev k s1).1] p, (unaryF ev k s1).2) := by simp only [unaryF, h]
theorem unaryF_atom {ev : Int} {k : Nat} {st : St} (h : signAt (str1 33) st = none) : unaryF ev (k + 1) st = upL ev k (atomF ev k st).1 (atomF ev k st).2 := by simp only [unaryF, h]
theorem upL_none {ev : Int} {k : Nat} {a : S44} {st : St} (h : signAt (str1 94) st = none) : upL ev k a st = (a, st) := by
  cases k with
  | zero => rfl
  | succ k => simp only [upL, h]
theorem upL_nil {ev p pos : Int} {k : Nat} {a : S44} {st : St} {bad : Bool} (h : signAt (str1 94) st = some (p, ⟨[], bad, pos⟩)) : upL ev (k + 1) a st = upL ev k (nd 12 [a] p) ⟨[], bad, pos⟩ := by simp only [upL, h]
theorem upL_other {ev p pos : Int} {k : Nat} {a : S44} {st : St} {bad : Bool} {t : S39} {r : List S39} (h : signAt (str1 94) st = some (p, ⟨t :: r, bad, pos⟩)) (h2 : t.f0 ≠ 2) : upL ev (k + 1) a st = upL ev k (nd 12 [a] p) ⟨t :: r, bad, pos⟩ := by simp only [upL, h, if_neg h2]
theorem upL_zero {ev p pos : Int} {k : Nat} {a : S44} {st : St} {bad : Bool} {t : S39} {r : List S39} (h : signAt (str1 94) st = some (p, ⟨t :: r, bad, pos⟩)) (h2 : t.f0 = 2) (h3 : t.f2 = 0) : upL ev (k + 1) a st = (z44, failS ev ⟨t :: r, bad, pos⟩) := by simp only [upL, h, if_pos h2, if_pos h3]
theorem upL_num {ev p pos : Int} {k : Nat} {a : S44} {st : St} {bad : Bool} {t : S39} {r : List S39} (h : signAt (str1 94) st = some (p, ⟨t :: r, bad, pos⟩)) (h2 : t.f0 = 2) (h3 : t.f2 ≠ 0) : upL ev (k + 1) a st = upL ev k ⟨12, ⟨#[]⟩, t.f2, 0, [a], p⟩ ⟨r, bad, pos⟩ := by simp only [upL, h, if_pos h2, if_neg h3]
theorem R_new1 {W w' : World} {base b2 : Nat} {v : Value} {xs : List S44} (h : k44.R 44 w' W.heap.size (fun _ => True) v xs) (hb : base = b2) (h2 : b2 < W.heap.size) : k44.R 44 w' base (fun q => q ≠ b2 ∧ q ≠ b2) v xs := R_new2 h hb h2 h2
theorem R_single2 {w3 : World} {base b2 : Nat} {a : S44} {u : Value} (ha : k44.R 44 w3 base (fun q => q ≠ b2 ∧ q ≠ b2) u a.f4) (hbase : base = b2) (h2 : b2 < w3.heap.size) (v0 v1 v2 v3 v4 v5 : Value) :
    k44.R 44 (((((((w3.setCell ⟨b2, 0, none⟩ v0).setCell ⟨b2, 1, none⟩ v1).setCell ⟨b2, 2, none⟩ v2).setCell ⟨b2, 3, none⟩ v3).setCell ⟨b2, 4, none⟩ v4).setCell ⟨b2, 5, none⟩ v5).alloc (.cells #[.int .i64 a.f0, .string a.f1, .int .i64 a.f2, .int .u64 a.f3, u, .int .i64 a.f5] 44)) base (fun q => q ≠ b2 ∧ q ≠ b2) (.slice (some ⟨w3.heap.size, 0, none⟩) 1 1) [a] := R_single ha hbase h2 h2 v0 v1 v2 v3 v4 v5
theorem R_notg {w3 : World} {base g : Nat} {ok : Nat → Prop} {u : Value} {xs : List S44} (h : k44.R 44 w3 base ok u xs) (hg : ∀ q, ok q → base ≤ q → q ≠ g) : k44.R 44 w3 base (fun q => ok q ∧ q ≠ g) u xs := Kd.R_mono (Kd.R_bound h) (fun q hq => ⟨hq.1, hg q hq.1 hq.2.1⟩)
/-- What a call's brackets hold: function call, entered behind '('. -/
def callS (ev : Int) (k : Nat) (t : S39) (s1 : St) : S44 × St := match signAt (str1 41) s1 with
  | some (_, s2) => (⟨5, t.f1, t.f2, t.f3, [], t.f4⟩, s2)
  | none => callL ev k t [] s1
def CallC (k : Nat) : Prop := ∀ (W0 : World) (g : Nat) (ev : Int) (t : S39) (op : Int) (st : St) (w : World), (6 * st.ts.length + 8 ≤ k ∧ k ≤ 1000000) → RdAt W0 g ev st w → Calls Tryd.prog 145 #[.pointer (some ⟨g, 0, none⟩), .agg #[.int .i64 op, .string t.f1, .int .i64 t.f2, .int .u64 t.f3, .slice none 0 0, .int .i64 t.f4]] w (NdPost W0 g ev (callS ev k t st) w)
theorem atomF_br {ev p p2 : Int} {k : Nat} {st s1 s2 : St} (h : signAt (str1 40) st = some (p, s1)) (h2 : signAt (str1 41) (exprF ev k s1).2 = some (p2, s2)) : atomF ev (k + 1) st = ((exprF ev k s1).1, s2) := by simp only [atomF, h, h2]
theorem atomF_br_no {ev p : Int} {k : Nat} {st s1 : St} (h : signAt (str1 40) st = some (p, s1)) (h2 : signAt (str1 41) (exprF ev k s1).2 = none) : atomF ev (k + 1) st = (z44, failS ev (exprF ev k s1).2) := by simp only [atomF, h, h2]
theorem atomF_nil {ev : Int} {k : Nat} {bad : Bool} {pos : Int} (h : signAt (str1 40) ⟨[], bad, pos⟩ = none) : atomF ev (k + 1) ⟨[], bad, pos⟩ = (z44, failS ev ⟨[], bad, pos⟩) := by simp only [atomF, h]
theorem atomF_sign {ev : Int} {k : Nat} {bad : Bool} {pos : Int} {t : S39} {r : List S39} (h : signAt (str1 40) ⟨t :: r, bad, pos⟩ = none) (h2 : t.f0 = 5) : atomF ev (k + 1) ⟨t :: r, bad, pos⟩ = (z44, failS ev ⟨t :: r, bad, pos⟩) := by simp only [atomF, h, if_pos h2]
theorem atomF_leaf {ev : Int} {k : Nat} {bad : Bool} {pos : Int} {t : S39} {r : List S39} (h : signAt (str1 40) ⟨t :: r, bad, pos⟩ = none) (h2 : t.f0 ≠ 5) (h3 : t.f0 = 4 ∨ t.f0 = 2 ∨ t.f0 = 3) : atomF ev (k + 1) ⟨t :: r, bad, pos⟩ = (leafN t, ⟨r, bad, pos⟩) := by simp only [atomF, h, if_neg h2, if_pos h3]
theorem atomF_name {ev : Int} {k : Nat} {bad : Bool} {pos : Int} {t : S39} {r : List S39} (h : signAt (str1 40) ⟨t :: r, bad, pos⟩ = none) (h2 : t.f0 ≠ 5) (h3 : ¬ (t.f0 = 4 ∨ t.f0 = 2 ∨ t.f0 = 3)) (h4 : signAt (str1 40) ⟨r, bad, pos⟩ = none) : atomF ev (k + 1) ⟨t :: r, bad, pos⟩ = (leafN t, ⟨r, bad, pos⟩) := by simp only [atomF, h, if_neg h2, if_neg h3, h4]
theorem atomF_call {ev p : Int} {k : Nat} {bad : Bool} {pos : Int} {t : S39} {r : List S39} {s1 : St} (h : signAt (str1 40) ⟨t :: r, bad, pos⟩ = none) (h2 : t.f0 ≠ 5) (h3 : ¬ (t.f0 = 4 ∨ t.f0 = 2 ∨ t.f0 = 3)) (h4 : signAt (str1 40) ⟨r, bad, pos⟩ = some (p, s1)) : atomF ev (k + 1) ⟨t :: r, bad, pos⟩ = callS ev k t s1 := by
  simp only [atomF, h, if_neg h2, if_neg h3, h4, callS]
  rfl
theorem blk_new2 (w : World) (o1 o2 : Obj) (n : Nat) (h : n = w.heap.size + 1) : ((w.alloc o1).alloc o2).heap[n]? = some o2 := by
  have := blk_new (w.alloc o1) o2
  rw [alloc_size] at this
  rw [h]; exact this
theorem leaf_is {t : S39} {k : Int} (h : (if t.f0 = 4 then 2 else if t.f0 = 2 then 3 else if t.f0 = 3 then 4 else 1) = k) : leafN t = ⟨k, t.f1, t.f2, t.f3, [], t.f4⟩ := by unfold leafN; rw [h]
theorem CallC.use {k : Nat} (h : CallC k) {W0 : World} {g : Nat} {ev : Int} {t : S39} {op : Int} {st : St} (hf : 6 * st.ts.length + 8 ≤ k ∧ k ≤ 1000000) (w : World) (hr : RdAt W0 g ev st w) : Calls Tryd.prog 145 #[.pointer (some ⟨g, 0, none⟩), .agg #[.int .i64 op, .string t.f1, .int .i64 t.f2, .int .u64 t.f3, .slice none 0 0, .int .i64 t.f4]] w fun e w' => ∃ A c, e = .returned (.agg #[.int .i64 (callS ev k t st).1.f0, .string (callS ev k t st).1.f1, .int .i64 (callS ev k t st).1.f2, .int .u64 (callS ev k t st).1.f3, .slice A (callS ev k t st).1.f4.length c, .int .i64 (callS ev k t st).1.f5]) ∧ k44.R 44 w' w.heap.size (fun _ => True) (.slice A (callS ev k t st).1.f4.length c) (callS ev k t st).1.f4 ∧ RdAt W0 g ev (callS ev k t st).2 w' ∧ Frm g w w' := by
  refine (h W0 g ev t op st w hf hr).mono ?_
  rintro e w' ⟨v, rfl, h1, h2, h3⟩
  obtain ⟨A, c, rfl⟩ := Kd.R_slice h1
  exact ⟨A, c, rfl, h1, h2, h3⟩
theorem R_new1' {W w' : World} {base b2 : Nat} {v : Value} {xs : List S44} (h : k44.R 44 w' W.heap.size (fun _ => True) v xs) (hb : base = b2) (h2 : b2 < W.heap.size) : k44.R 44 w' base (fun q => q ≠ b2 ∧ q ≠ b2) v xs := R_new2 h hb h2 h2
theorem callL_comma {ev p : Int} {k : Nat} {t : S39} {ks : List S44} {st s2 : St} (h : signAt (str1 44) (exprF ev k st).2 = some (p, s2)) : callL ev (k + 1) t ks st = callL ev k t (ks ++ [(exprF ev k st).1]) s2 := by simp only [callL, h]
theorem callL_end {ev p : Int} {k : Nat} {t : S39} {ks : List S44} {st s2 : St} (h : signAt (str1 44) (exprF ev k st).2 = none) (h2 : signAt (str1 41) (exprF ev k st).2 = some (p, s2)) : callL ev (k + 1) t ks st = (⟨5, t.f1, t.f2, t.f3, ks ++ [(exprF ev k st).1], t.f4⟩, s2) := by simp only [callL, h, h2]
theorem callL_bad {ev : Int} {k : Nat} {t : S39} {ks : List S44} {st : St} (h : signAt (str1 44) (exprF ev k st).2 = none) (h2 : signAt (str1 41) (exprF ev k st).2 = none) : callL ev (k + 1) t ks st = (z44, failS ev (exprF ev k st).2) := by simp only [callL, h, h2]
theorem callS_none {ev : Int} {k : Nat} {t : S39} {s1 : St} (h : signAt (str1 41) s1 = none) : callS ev k t s1 = callL ev k t [] s1 := by simp only [callS, h]
theorem callS_some {ev p : Int} {k : Nat} {t : S39} {s1 s2 : St} (h : signAt (str1 41) s1 = some (p, s2)) : callS ev k t s1 = (⟨5, t.f1, t.f2, t.f3, [], t.f4⟩, s2) := by simp only [callS, h]
theorem R_sliceN {w : World} {base n : Nat} {ok : Nat → Prop} {v : Value} {xs : List S44} (h : k44.R 44 w base ok v xs) (hn : xs.length = n) : ∃ A c, v = .slice A n c := by
  obtain ⟨A, c, e⟩ := Kd.R_slice h
  exact ⟨A, c, by rw [e, hn]⟩
theorem RdAt.below {W0 w w1 : World} {g B : Nat} {ev : Int} {st : St} (h : RdAt W0 g ev st w) (hb : Below B w w1) (hg : g < B) : RdAt W0 g ev st w1 := by
  obtain ⟨⟨u, hu, hh⟩, ho, hs⟩ := h
  exact ⟨⟨u, hu, (hb.block g hg).trans hh⟩, ho.trans (hb.mono (Nat.le_of_lt hg)), hs⟩
theorem Frm.below {g B : Nat} {w w1 w2 : World} (h : Frm g w w1) (hb : Below B w1 w2) (hB : w.heap.size ≤ B) : Frm g w w2 := ⟨Nat.le_trans h.size hb.size, fun k hk hg => (hb.block k (by omega)).trans (h.block k hk hg)⟩
theorem blk_belowB {w w1 : World} {b B : Nat} {o : Obj} (h : w.heap[b]? = some o) (hb : Below B w w1) (hB : b < B) : w1.heap[b]? = some o := (hb.block b hB).trans h
/-- A call's rows beside an elder row. -/
theorem M_apart {W w' : World} {base : Nat} {b : S44} {u v : Value} {xs : List S44} (h : k44.R 44 w' W.heap.size (fun _ => True) u b.f4) (hb : base ≤ W.heap.size) (hv : k44.R 44 W base (fun _ => True) v xs) :
    k44.M w' base (fun q => True ∧ some q ≠ v.ownBlock) b [.int .i64 b.f0, .string b.f1, .int .i64 b.f2, .int .u64 b.f3, u, .int .i64 b.f5] := by
  refine M_of (Kd.R_lower (Kd.R_mono (Kd.R_bound h) (fun q hq => ⟨trivial, fun e => ?_⟩)) hb)
  have h1 := (Kd.R_bound hv).1 q e.symm
  have := h1.2.2.1
  have := hq.2.1
  omega
theorem R_frm2 {w w1 : World} {g base : Nat} {v : Value} {xs : List S44} (h : k44.R 44 w base (fun _ => True) v xs) (hf : Frm g w w1) (hg : g < base) : k44.R 44 w1 base (fun _ => True) v xs := R_frm' h hf (fun k _ hk => by omega)
theorem failS_ts (ev : Int) (st : St) : (failS ev st).ts = [] := by unfold failS; split <;> rfl
/-- No function of the reader leaves more tokens than there were. -/
theorem ts_all (ev : Int) : ∀ n : Nat, (∀ st, (exprF ev n st).2.ts.length ≤ st.ts.length) ∧ (∀ a st, (exprL ev n a st).2.ts.length ≤ st.ts.length) ∧ (∀ st, (interF ev n st).2.ts.length ≤ st.ts.length) ∧ (∀ a st, (interL ev n a st).2.ts.length ≤ st.ts.length) ∧ (∀ st, (rangedF ev n st).2.ts.length ≤ st.ts.length) ∧ (∀ st, (unaryF ev n st).2.ts.length ≤ st.ts.length) ∧ (∀ a st, (upL ev n a st).2.ts.length ≤ st.ts.length) ∧ (∀ st, (atomF ev n st).2.ts.length ≤ st.ts.length) ∧ (∀ t ks st, (callL ev n t ks st).2.ts.length ≤ st.ts.length)
  | 0 => ⟨fun _ => Nat.le_refl _, fun _ _ => Nat.le_refl _, fun _ => Nat.le_refl _, fun _ _ => Nat.le_refl _, fun _ => Nat.le_refl _, fun _ => Nat.le_refl _, fun _ _ => Nat.le_refl _, fun _ => Nat.le_refl _, fun _ _ _ => Nat.le_refl _⟩
  | n + 1 => by
    obtain ⟨hE, hEL, hI, hIL, hR, hU, hUL, hA, hC⟩ := ts_all ev n
    have hcS : ∀ t st, (callS ev n t st).2.ts.length ≤ st.ts.length := by
      intro t st
      rcases h : signAt (str1 41) st with _ | ⟨p, s1⟩
      · rw [callS_none h]; exact hC _ _ _
      · rw [callS_some h]; have := signAt_len h; exact (by omega : s1.ts.length ≤ st.ts.length)
    refine ⟨fun st => Nat.le_trans (hEL _ _) (hI st), fun a st => ?_, fun st => Nat.le_trans (hIL _ _) (hR st), fun a st => ?_, fun st => ?_, fun st => ?_, fun a st => ?_, fun st => ?_, fun t ks st => ?_⟩
    · rcases h : signAt (str1 124) st with _ | ⟨p, s1⟩
      · rcases h2 : signAt (str1 45) st with _ | ⟨p, s1⟩
        · rw [exprL_none h h2]; exact Nat.le_refl _
        · rw [exprL_minus h h2]; have h3 := signAt_len h2; have h4 := hI s1; exact Nat.le_trans (hEL _ _) (by omega)
      · rw [exprL_or h]; have h3 := signAt_len h; have h4 := hI s1; exact Nat.le_trans (hEL _ _) (by omega)
    · rcases h : signAt (str1 38) st with _ | ⟨p, s1⟩
      · rw [interL_none h]; exact Nat.le_refl _
      · rw [interL_some h]; have h3 := signAt_len h; have h4 := hR s1; exact Nat.le_trans (hIL _ _) (by omega)
    · have h5 := hU st
      rcases h : signAt (str2 46 46) (unaryF ev n st).2 with _ | ⟨p, s1⟩
      · rcases h2 : signAt (str2 58 58) (unaryF ev n st).2 with _ | ⟨p, s1⟩
        · rw [rangedF_none h h2]; exact h5
        · rw [rangedF_colons h h2]; have h3 := signAt_len h2; have h4 := hU s1; exact (by omega : (unaryF ev n s1).2.ts.length ≤ st.ts.length)
      · rw [rangedF_dots h]; have h3 := signAt_len h; have h4 := hU s1; exact (by omega : (unaryF ev n s1).2.ts.length ≤ st.ts.length)
    · rcases h : signAt (str1 33) st with _ | ⟨p, s1⟩
      · rw [unaryF_atom h]; exact Nat.le_trans (hUL _ _) (hA st)
      · rw [unaryF_not h]; have h3 := signAt_len h; have h4 := hU s1; exact (by omega : (unaryF ev n s1).2.ts.length ≤ st.ts.length)
    · rcases h : signAt (str1 94) st with _ | ⟨p, ts, bad, pos⟩
      · rw [upL_none h]; exact Nat.le_refl _
      · have h3 := signAt_len h
        cases ts with
        | nil => rw [upL_nil h]; exact Nat.le_trans (hUL _ _) (Nat.zero_le _)
        | cons t r =>
          simp only [List.length_cons] at h3
          by_cases h2 : t.f0 = 2
          · by_cases h4 : t.f2 = 0
            · rw [upL_zero h h2 h4]; show (failS ev _).ts.length ≤ _; rw [failS_ts]; exact Nat.zero_le _
            · rw [upL_num h h2 h4]; exact Nat.le_trans (hUL _ _) (by show r.length ≤ _; omega)
          · rw [upL_other h h2]; exact Nat.le_trans (hUL _ _) (by show (t :: r).length ≤ _; simp only [List.length_cons]; omega)
    · rcases h : signAt (str1 40) st with _ | ⟨p, s1⟩
      · obtain ⟨ts, bad, pos⟩ := st
        cases ts with
        | nil => rw [atomF_nil h]; show (failS ev _).ts.length ≤ _; rw [failS_ts]; exact Nat.zero_le _
        | cons t r =>
          by_cases h2 : t.f0 = 5
          · rw [atomF_sign h h2]; show (failS ev _).ts.length ≤ _; rw [failS_ts]; exact Nat.zero_le _
          · by_cases h3 : t.f0 = 4 ∨ t.f0 = 2 ∨ t.f0 = 3
            · rw [atomF_leaf h h2 h3]; show r.length ≤ (t :: r).length; simp
            · rcases h4 : signAt (str1 40) ⟨r, bad, pos⟩ with _ | ⟨p, s1⟩
              · rw [atomF_name h h2 h3 h4]; show r.length ≤ (t :: r).length; simp
              · rw [atomF_call h h2 h3 h4]; have h5 := signAt_len h4; have h6 := hcS t s1; show _ ≤ (t :: r).length; simp only [List.length_cons] at *; omega
      · have h3 := signAt_len h
        have h4 := hE s1
        rcases h5 : signAt (str1 41) (exprF ev n s1).2 with _ | ⟨p2, s2⟩
        · rw [atomF_br_no h h5]; show (failS ev _).ts.length ≤ _; rw [failS_ts]; exact Nat.zero_le _
        · rw [atomF_br h h5]; have h6 := signAt_len h5; exact (by omega : s2.ts.length ≤ st.ts.length)
    · have h4 := hE st
      rcases h : signAt (str1 44) (exprF ev n st).2 with _ | ⟨p, s2⟩
      · rcases h2 : signAt (str1 41) (exprF ev n st).2 with _ | ⟨p, s2⟩
        · rw [callL_bad h h2]; show (failS ev _).ts.length ≤ _; rw [failS_ts]; exact Nat.zero_le _
        · rw [callL_end h h2]; have h6 := signAt_len h2; exact (by omega : s2.ts.length ≤ st.ts.length)
      · rw [callL_comma h]; have h6 := signAt_len h; exact Nat.le_trans (hC _ _ _) (by omega)
theorem ts_le (ev : Int) (n : Nat) : (∀ st, (exprF ev n st).2.ts.length ≤ st.ts.length) ∧ (∀ st, (interF ev n st).2.ts.length ≤ st.ts.length) ∧ (∀ st, (rangedF ev n st).2.ts.length ≤ st.ts.length) ∧ (∀ st, (unaryF ev n st).2.ts.length ≤ st.ts.length) ∧ (∀ st, (atomF ev n st).2.ts.length ≤ st.ts.length) := by
  obtain ⟨hE, hEL, hI, hIL, hR, hU, hUL, hA, hC⟩ := ts_all ev n
  exact ⟨hE, hI, hR, hU, hA⟩
end Go.Proofs.YtfgfoofojofnmaaDoor.Q
