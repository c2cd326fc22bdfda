/- The parser's reader: what it holds; what may turn; sign and fail, walked. -/
import Derived.Outline
import Derived.Deep.DeepCutAuto
import Derived.Deep.CutBlock
import Derived.Test.YtfgfoofojofnmaaDoorGQ0
set_option linter.unusedVariables false
set_option linter.unusedSimpArgs false
namespace Go.Proofs.YtfgfoofojofnmaaDoor.Q
open Go.RowKit Go.Proofs.YtfgfoofojofnmaaDoorW.PrintWords Go.Proofs.YtfgfoofojofnmaaDoorW.PrintLast Go.Proofs.YtfgfoofojofnmaaDoorW.PrintMore
set_option linter.unusedVariables false
set_option linter.unusedSimpArgs false
open Go.Proofs.YtfgfoofojofnmaaDoor.Hand
/-! ### the parser in plain words -/
/-- The reader: what is left of the tokens; whether it has failed, and where. -/
structure St where
  ts : List S39
  bad : Bool
  pos : Int

abbrev str1 (a : UInt8) : ByteArray := ⟨#[a]⟩
abbrev str2 (a b : UInt8) : ByteArray := ⟨#[a, b]⟩
/-- Is the next token this sign? Then it is passed over. -/
def signAt (s : ByteArray) (st : St) : Option (Int × St) :=
  match st.ts with
  | [] => none
  | t :: r => if (t.f0 == 5) && (t.f1.toList == s.toList) then some (t.f4, ⟨r, st.bad, st.pos⟩) else none
def failS (ev : Int) (st : St) : St :=
  if st.bad then ⟨[], true, st.pos⟩ else ⟨[], true, match st.ts with | [] => ev | t :: _ => t.f4⟩
def nd (op : Int) (kids : List S44) (p : Int) : S44 := ⟨op, ⟨#[]⟩, 0, 0, kids, p⟩
def leafN (t : S39) : S44 := ⟨if t.f0 = 4 then 2 else if t.f0 = 2 then 3 else if t.f0 = 3 then 4 else 1, t.f1, t.f2, t.f3, [], t.f4⟩
mutual
def exprF (ev : Int) : Nat → St → S44 × St
  | 0, st => (z44, st)
  | n + 1, st => exprL ev n (interF ev n st).1 (interF ev n st).2
def exprL (ev : Int) : Nat → S44 → St → S44 × St
  | 0, a, st => (a, st)
  | n + 1, a, st =>
    match signAt (str1 124) st with
    | some (p, s1) => exprL ev n (nd 6 [a, (interF ev n s1).1] p) (interF ev n s1).2
    | none =>
      match signAt (str1 45) st with
      | some (p, s1) => exprL ev n (nd 7 [a, (interF ev n s1).1] p) (interF ev n s1).2
      | none => (a, st)
def interF (ev : Int) : Nat → St → S44 × St
  | 0, st => (z44, st)
  | n + 1, st => interL ev n (rangedF ev n st).1 (rangedF ev n st).2
def interL (ev : Int) : Nat → S44 → St → S44 × St
  | 0, a, st => (a, st)
  | n + 1, a, st =>
    match signAt (str1 38) st with
    | some (p, s1) => interL ev n (nd 8 [a, (rangedF ev n s1).1] p) (rangedF ev n s1).2
    | none => (a, st)
def rangedF (ev : Int) : Nat → St → S44 × St
  | 0, st => (z44, st)
  | n + 1, st =>
    match signAt (str2 46 46) (unaryF ev n st).2 with
    | some (p, s1) => (nd 9 [(unaryF ev n st).1, (unaryF ev n s1).1] p, (unaryF ev n s1).2)
    | none =>
      match signAt (str2 58 58) (unaryF ev n st).2 with
      | some (p, s1) => (nd 10 [(unaryF ev n st).1, (unaryF ev n s1).1] p, (unaryF ev n s1).2)
      | none => ((unaryF ev n st).1, (unaryF ev n st).2)
def unaryF (ev : Int) : Nat → St → S44 × St
  | 0, st => (z44, st)
  | n + 1, st =>
    match signAt (str1 33) st with
    | some (p, s1) => (nd 11 [(unaryF ev n s1).1] p, (unaryF ev n s1).2)
    | none => upL ev n (atomF ev n st).1 (atomF ev n st).2
def upL (ev : Int) : Nat → S44 → St → S44 × St
  | 0, a, st => (a, st)
  | n + 1, a, st =>
    match signAt (str1 94) st with
    | some (p, s1) =>
      match s1.ts with
      | t :: r =>
        if t.f0 = 2 then
          if t.f2 = 0 then (z44, failS ev s1) else upL ev n ⟨12, ⟨#[]⟩, t.f2, 0, [a], p⟩ ⟨r, s1.bad, s1.pos⟩
        else upL ev n (nd 12 [a] p) s1
      | [] => upL ev n (nd 12 [a] p) s1
    | none => (a, st)
def atomF (ev : Int) : Nat → St → S44 × St
  | 0, st => (z44, st)
  | n + 1, st =>
    match signAt (str1 40) st with
    | some (_, s1) =>
      match signAt (str1 41) (exprF ev n s1).2 with
      | some (_, s2) => ((exprF ev n s1).1, s2)
      | none => (z44, failS ev (exprF ev n s1).2)
    | none =>
      match st.ts with
      | [] => (z44, failS ev st)
      | t :: r =>
        if t.f0 = 5 then (z44, failS ev st)
        else if t.f0 = 4 ∨ t.f0 = 2 ∨ t.f0 = 3 then (leafN t, ⟨r, st.bad, st.pos⟩)
        else
          match signAt (str1 40) ⟨r, st.bad, st.pos⟩ with
          | some (_, s1) =>
            match signAt (str1 41) s1 with
            | some (_, s2) => (⟨5, t.f1, t.f2, t.f3, [], t.f4⟩, s2)
            | none => callL ev n t [] s1
          | none => (leafN t, ⟨r, st.bad, st.pos⟩)
def callL (ev : Int) : Nat → S39 → List S44 → St → S44 × St
  | 0, _, _, st => (z44, st)
  | n + 1, t, ks, st =>
    match signAt (str1 44) (exprF ev n st).2 with
    | some (_, s2) => callL ev n t (ks ++ [(exprF ev n st).1]) s2
    | none =>
      match signAt (str1 41) (exprF ev n st).2 with
      | some (_, s2) => (⟨5, t.f1, t.f2, t.f3, ks ++ [(exprF ev n st).1], t.f4⟩, s2)
      | none => (z44, failS ev (exprF ev n st).2)
end
mutual
/-- How deep a tree is. -/
def depthT : S44 → Nat
  | ⟨_, _, _, _, ks, _⟩ => depthM ks + 1
def depthM : List S44 → Nat
  | [] => 0
  | k :: ks => max (depthT k) (depthM ks)
end
/-- From w to w' no block but g (of those that there were) has turned. -/
structure Frm (g : Nat) (w w' : World) : Prop where
  size : w.heap.size ≤ w'.heap.size
  block : ∀ k, k < w.heap.size → k ≠ g → w'.heap[k]? = w.heap[k]?
namespace Frm
variable {g : Nat} {w w1 w2 : World}
theorem refl (g : Nat) (w : World) : Frm g w w := ⟨Nat.le_refl _, fun _ _ _ => rfl⟩
theorem trans (h : Frm g w w1) (k : Frm g w1 w2) : Frm g w w2 := ⟨Nat.le_trans h.size k.size, fun i hi hg => (k.block i (Nat.lt_of_lt_of_le hi h.size) hg).trans (h.block i hi hg)⟩
theorem drewN (h : Frm g w w1) (n : Nat) : Frm g w (w1.drewN n) := ⟨h.size, h.block⟩
theorem drew (h : Frm g w w1) : Frm g w w1.drew := ⟨h.size, h.block⟩
theorem alloc (h : Frm g w w1) (o : Obj) : Frm g w (w1.alloc o) := ⟨by show w.heap.size ≤ (w1.heap.push o).size; rw [Array.size_push]; have := h.size; omega, fun k hk hg => (Below.heap_alloc _ _ _ (Nat.lt_of_lt_of_le hk h.size)).trans (h.block k hk hg)⟩
theorem set (h : Frm g w w1) (o : Nat) (u : Value) : Frm g w (w1.setCell ⟨g, o, none⟩ u) := ⟨by simpa [World.setCell] using h.size, fun k hk hg => (Below.heap_setCell _ _ _ _ hg).trans (h.block k hk hg)⟩
/-- A store into a block that is new. -/
theorem setNew (h : Frm g w w1) {b : Nat} (hb : w.heap.size ≤ b) (o : Nat) (u : Value) : Frm g w (w1.setCell ⟨b, o, none⟩ u) := ⟨by simpa [World.setCell] using h.size, fun k hk hg => (Below.heap_setCell _ _ _ _ (by show k ≠ b; omega)).trans (h.block k hk hg)⟩
theorem at_ (h : Frm g w w1) {b : Nat} (hb : b ≠ g) {o : Obj} (ho : w.heap[b]? = some o) : w1.heap[b]? = some o := (h.block b (by
  rcases Nat.lt_or_ge b w.heap.size with hl | hl
  · exact hl
  · rw [Array.getElem?_eq_none hl] at ho; exact absurd ho (by simp)) hb).trans ho
end Frm
/-- A slice's value that holds these tokens (they lie in an elder world). -/
def SlT (W0 : World) (v : Value) (ts : List S39) : Prop := ∃ A c, v = .slice A ts.length c ∧ ts.length ≤ c ∧ Kd.C k39 W0 A ts.length ts
/-- The reader, at block g: what it holds in w. -/
structure RdAt (W0 : World) (g : Nat) (ev : Int) (st : St) (w : World) : Prop where
  cut : ∃ v, SlT W0 v st.ts ∧ w.heap[g]? = some (.cells #[v, .int .i64 ev, .bool st.bad, .int .i64 st.pos] 89 (0, 0))
  old : Below g W0 w
  sz : W0.heap.size ≤ g
theorem add_add (ad : Addr) (n m : Nat) (hn : n ≠ 0) : (ad.add n).add m = ad.add (n + m) := by
  simp only [Addr.add]
  by_cases hm : m = 0
  · subst hm; simp
  · rw [if_neg hm, if_neg hn, if_neg (show ¬ n + m = 0 by omega)]
    simp [Nat.add_assoc]
theorem C_tail {W : World} {A : Option Addr} {x : S39} {xs : List S39} (h : Kd.C k39 W A (x :: xs).length (x :: xs)) : ∃ ad, A = some ad ∧ ∀ e, (e = ad.add 5 ∨ xs = []) → Kd.C k39 W (some e) xs.length xs := by
  obtain ⟨h1, h2, h3⟩ := h
  obtain ⟨ad, rfl, hc⟩ := h3 (by simp)
  refine ⟨ad, rfl, fun e he => ⟨rfl, by simp at h2; omega, fun hn => ⟨e, rfl, fun j p hj => ?_⟩⟩⟩
  rcases he with rfl | rfl
  · obtain ⟨c, hl, hR, hcell⟩ := hc (j + 1) p (by simpa using hj)
    refine ⟨c, hl, hR, fun i u hu => ?_⟩
    have := hcell i u hu
    have e1 : (ad.add 5).add (j * k39.sz + i) = ad.add ((j + 1) * k39.sz + i) := by
      have e2 : k39.sz = 5 := rfl
      rw [e2, add_add _ _ _ (by decide)]
      congr 1
      omega
    rw [e1]
    exact this
  · simp at hn
/-- What sign answers, and leaves. -/
def sgn (s : ByteArray) (st : St) : Int × Bool × St := match signAt s st with
  | none => (0, false, st)
  | some (p, s1) => (p, true, s1)
theorem RdAt.cells {W0 w : World} {g : Nat} {ev : Int} {st : St} (h : RdAt W0 g ev st w) : ∃ A c, st.ts.length ≤ c ∧ Kd.C k39 W0 A st.ts.length st.ts ∧ w.heap[g]? = some (.cells #[.slice A st.ts.length c, .int .i64 ev, .bool st.bad, .int .i64 st.pos] 89 (0, 0)) := by
  obtain ⟨⟨v, ⟨A, c, rfl, hl, hC⟩, hb⟩, _, _⟩ := h
  exact ⟨A, c, hl, hC, hb⟩
theorem slt_one {W0 : World} {ad : Addr} {t : S39} {r : List S39} {c : Nat} (hC : Kd.C k39 W0 (some ad) (t :: r).length (t :: r)) (hl : r.length + 1 ≤ c) (h1 : c = 1) : SlT W0 (.slice (some ad) r.length 0) r := by
  have hr : r = [] := List.eq_nil_of_length_eq_zero (by omega)
  obtain ⟨ad', e, hc⟩ := C_tail hC
  cases e
  exact ⟨some ad, 0, rfl, by rw [hr]; simp, hc ad (.inr hr)⟩
theorem slt_more {W0 : World} {ad : Addr} {t : S39} {r : List S39} {c : Nat} (hC : Kd.C k39 W0 (some ad) (t :: r).length (t :: r)) (hl : r.length + 1 ≤ c) : SlT W0 (.slice (some ⟨ad.block, ad.off + 5, none⟩) r.length (c - 1)) r := by
  obtain ⟨ad', e, hc⟩ := C_tail hC
  cases e
  exact ⟨_, _, rfl, by omega, hc _ (.inl rfl)⟩
theorem slt_nil (W0 : World) : SlT W0 (.slice none 0 0) [] := ⟨none, 0, rfl, by simp, rfl, by simp, fun h => absurd h (by simp)⟩
theorem RdAt.set0 {W0 w : World} {g : Nat} {ev : Int} {st : St} (h : RdAt W0 g ev st w) {r : List S39} {v : Value} (hv : SlT W0 v r) : RdAt W0 g ev ⟨r, st.bad, st.pos⟩ (w.setCell ⟨g, 0, none⟩ v) := by
  obtain ⟨⟨u, hu, hb⟩, ho, hs⟩ := h
  exact ⟨⟨v, hv, blk_put hb 0 _ rfl⟩, ho.setCell (Nat.le_refl _) _, hs⟩
theorem RdAt.setBad {W0 w : World} {g : Nat} {ev : Int} {st : St} (h : RdAt W0 g ev st w) (b : Bool) : RdAt W0 g ev ⟨st.ts, b, st.pos⟩ (w.setCell ⟨g, 2, none⟩ (.bool b)) := by
  obtain ⟨⟨u, hu, hb⟩, ho, hs⟩ := h
  exact ⟨⟨u, hu, blk_put hb 2 _ rfl⟩, ho.setCell (Nat.le_refl _) _, hs⟩
theorem RdAt.setPos {W0 w : World} {g : Nat} {ev : Int} {st : St} (h : RdAt W0 g ev st w) (p : Int) : RdAt W0 g ev ⟨st.ts, st.bad, p⟩ (w.setCell ⟨g, 3, none⟩ (.int .i64 p)) := by
  obtain ⟨⟨u, hu, hb⟩, ho, hs⟩ := h
  exact ⟨⟨u, hu, blk_put hb 3 _ rfl⟩, ho.setCell (Nat.le_refl _) _, hs⟩
theorem RdAt.alloc {W0 w : World} {g : Nat} {ev : Int} {st : St} (h : RdAt W0 g ev st w) (o : Obj) : RdAt W0 g ev st (w.alloc o) := by
  have hl : g < w.heap.size := by obtain ⟨⟨u, hu, hb⟩, ho, hs⟩ := h; exact blk_lt hb
  obtain ⟨⟨u, hu, hb⟩, ho, hs⟩ := h
  exact ⟨⟨u, hu, (Below.heap_alloc _ _ _ hl).trans hb⟩, ho.alloc (Nat.le_of_lt hl) o, hs⟩
theorem RdAt.drewN {W0 w : World} {g : Nat} {ev : Int} {st : St} (h : RdAt W0 g ev st w) (n : Nat) : RdAt W0 g ev st (w.drewN n) := by
  obtain ⟨⟨u, hu, hb⟩, ho, hs⟩ := h
  exact ⟨⟨u, hu, hb⟩, pw_below_drewN ho n, hs⟩
theorem RdAt.drew {W0 w : World} {g : Nat} {ev : Int} {st : St} (h : RdAt W0 g ev st w) : RdAt W0 g ev st w.drew := by
  obtain ⟨⟨u, hu, hb⟩, ho, hs⟩ := h
  exact ⟨⟨u, hu, hb⟩, ho.drew, hs⟩
/-- A store into another block, a new one. -/
theorem RdAt.setFar {W0 w : World} {g : Nat} {ev : Int} {st : St} (h : RdAt W0 g ev st w) {b : Nat} (hb : g < b) (o : Nat) (x : Value) : RdAt W0 g ev st (w.setCell ⟨b, o, none⟩ x) := by
  obtain ⟨⟨u, hu, hh⟩, ho, hs⟩ := h
  exact ⟨⟨u, hu, (Below.heap_setCell _ _ _ _ (by show g ≠ b; omega)).trans hh⟩, ho.setCell (by show g ≤ b; omega) _, hs⟩
theorem RdAt.lt {W0 w : World} {g : Nat} {ev : Int} {st : St} (h : RdAt W0 g ev st w) : g < w.heap.size := by obtain ⟨⟨u, hu, hb⟩, ho, hs⟩ := h; exact blk_lt hb
set_option maxHeartbeats 2000000 in
set_option maxRecDepth 100000 in
theorem sign_any (W0 : World) (g : Nat) (ev : Int) (s : ByteArray) (st : St) (w : World) (h : RdAt W0 g ev st w) :
    Calls Tryd.prog 83 #[.pointer (some ⟨g, 0, none⟩), .string s] w fun e w' => e = .returned (.tuple #[.int .i64 (sgn s st).1, .bool (sgn s st).2.1]) ∧ RdAt W0 g ev (sgn s st).2.2 w' ∧ Frm g w w' := by
  have HR := Lib.hid h
  obtain ⟨A, c, hl, hC, hb⟩ := h.cells
  have HOLD := Lib.hid h.old
  have HSZ := Lib.hid h.sz
  have HBX := Lib.hid hb
  clear h hb
  obtain ⟨ts, bad, pos⟩ := st
  cases ts with
  | nil =>
    simp only [List.length_nil] at HBX
    have hc0 : w.cell? ⟨g, 0, none⟩ = some (.slice A 0 c) := (blk_cell HBX.out 0).trans rfl
    clear hC hl
    go_enter Tryd.func83, Tryd.ntmps83
    go_wp2
    go_ret2
    exact ⟨rfl, HR.out, Frm.refl _ _⟩
  | cons t r =>
    have HC := Lib.hid hC
    obtain ⟨ad, e0, x0, x1, x2, x3, x4⟩ := at_T39 hC (0 : Int) (by omega) (by simp)
    cases e0
    have hxb : ad.block < W0.heap.size := by have := World.block_lt_of_cell? W0 _ x0; first | rwa [add_block] at this | exact this
    clear hC
    have et : rd_T39 (t :: r) 0 = t := rfl
    rw [et] at x0 x1 x2 x3 x4
    simp only [Int.toNat_zero, Nat.zero_mul, Addr.add, if_true] at x0 x1 x2 x3 x4
    have hlt := HSZ.out
    replace x0 := (HOLD.out.cell (by show ad.block < g; omega)).trans x0
    replace x1 := (HOLD.out.cell (by show ad.block < g; omega)).trans x1
    replace x4 := (HOLD.out.cell (by show ad.block < g; omega)).trans x4
    clear x2 x3 et
    have hne : ad.block ≠ g := by omega
    have hc0 : w.cell? ⟨g, 0, none⟩ = some (.slice (some ad) (t :: r).length c) := (blk_cell HBX.out 0).trans rfl
    have hf0 := blk_frozen HBX.out 0
    simp only [List.length_cons] at hc0 hl
    obtain ⟨t0, t1, t2, t3, t4⟩ := t
    by_cases hk : t0 = 5
    · have tk : (t0 != 5) = false := by rw [hk]; rfl
      by_cases hs : (t1.toList == s.toList) = true
      · have ts2 : (t1.toList != s.toList) = false := by rw [bne, hs]; rfl
        have HS : Hid (sgn s ⟨⟨t0, t1, t2, t3, t4⟩ :: r, bad, pos⟩ = (t4, true, ⟨r, bad, pos⟩)) := Lib.hid (by simp only [sgn, signAt, hs, hk]; rfl)
        have hs1 : (!(t1.toList == s.toList)) = false := by rw [hs]; rfl
        have hl0 : ((r.length : Int) + 1 == 0) = false := beq_eq_false_iff_ne.2 (by omega)
        clear hk ts2
        go_enter Tryd.func83, Tryd.ntmps83
        go_wp2
        all_goals go_ret2
        all_goals rw [HS.out]
        · exact ⟨rfl, HR.out.set0 (slt_one HC.out hl (by assumption)), (Frm.refl _ _).set _ _⟩
        · exact ⟨rfl, HR.out.set0 (slt_more HC.out hl), (Frm.refl _ _).set _ _⟩
      · have hs' : (t1.toList == s.toList) = false := by simpa using hs
        have ts2 : (t1.toList != s.toList) = true := by rw [bne, hs']; rfl
        have HS : Hid (sgn s ⟨⟨t0, t1, t2, t3, t4⟩ :: r, bad, pos⟩ = (0, false, ⟨⟨t0, t1, t2, t3, t4⟩ :: r, bad, pos⟩)) := Lib.hid (by simp only [sgn, signAt, hs', hk]; rfl)
        have hs1 : (!(t1.toList == s.toList)) = true := by rw [hs']; rfl
        have hl0 : ((r.length : Int) + 1 == 0) = false := beq_eq_false_iff_ne.2 (by omega)
        clear hk hs ts2
        go_enter Tryd.func83, Tryd.ntmps83
        go_wp2
        go_ret2
        rw [HS.out]
        exact ⟨rfl, HR.out, Frm.refl _ _⟩
    · have tk : (t0 != 5) = true := bne_iff_ne.2 hk
      have hk' : (t0 == 5) = false := beq_eq_false_iff_ne.2 hk
      have HS : Hid (sgn s ⟨⟨t0, t1, t2, t3, t4⟩ :: r, bad, pos⟩ = (0, false, ⟨⟨t0, t1, t2, t3, t4⟩ :: r, bad, pos⟩)) := Lib.hid (by simp only [sgn, signAt, hk']; rfl)
      have hl0 : ((r.length : Int) + 1 == 0) = false := beq_eq_false_iff_ne.2 (by omega)
      clear hk hk'
      go_enter Tryd.func83, Tryd.ntmps83
      go_wp2
      go_ret2
      rw [HS.out]
      exact ⟨rfl, HR.out, Frm.refl _ _⟩
/-- A node's value: its rows in v. -/
def ndV (x : S44) (v : Value) : Value := .agg #[.int .i64 x.f0, .string x.f1, .int .i64 x.f2, .int .u64 x.f3, v, .int .i64 x.f5]
theorem results_c {P : Program} {fn : Func} {p : Tmp} {ty : TypeId} (h : fn.results = #[.cell p ty]) (tmps : Array Value) (w : World) (g : Nat) (t : TypeId) (cs : Array Value) (fr : Nat × Nat) (d : TypeDesc)
    (hp : tmps.getD p undef = .pointer (some ⟨g, 0, none⟩)) (hg : w.heap[g]? = some (.cells cs t fr))
    (hu : P.underlying ty = some d) (hd : (match d with | .struct _ | .array _ _ => true | _ => false) = true) (hi : (P.info? ty).map (·.size) = some cs.size) :
    (results fn tmps).run P w = .ok (.agg cs) w := by
  have hp' : tmps[p]?.getD undef = .pointer (some ⟨g, 0, none⟩) := by simpa using hp
  simp [results, h, hp', asAddr, run_loadVar_row w g t ty cs fr d hg hu hd hi]
theorem size44 : (Tryd.prog.info? 44).map (·.size) = some 6 := by kernel_rfl
/-- A node is stored whole. -/
theorem blk_put6 {w : World} {b : Nat} {a0 a1 a2 a3 a4 a5 : Value} (h : w.heap[b]? = some (.cells #[a0, a1, a2, a3, a4, a5] 44 (0, 0))) (v0 v1 v2 v3 v4 v5 : Value) :
    ((((((w.setCell ⟨b, 0, none⟩ v0).setCell ⟨b, 1, none⟩ v1).setCell ⟨b, 2, none⟩ v2).setCell ⟨b, 3, none⟩ v3).setCell ⟨b, 4, none⟩ v4).setCell ⟨b, 5, none⟩ v5).heap[b]? = some (.cells #[v0, v1, v2, v3, v4, v5] 44 (0, 0)) :=
  blk_put (cs := #[v0, v1, v2, v3, v4, a5]) (blk_put (cs := #[v0, v1, v2, v3, a4, a5]) (blk_put (cs := #[v0, v1, v2, a3, a4, a5]) (blk_put (cs := #[v0, v1, a2, a3, a4, a5]) (blk_put (cs := #[v0, a1, a2, a3, a4, a5]) (blk_put (cs := #[a0, a1, a2, a3, a4, a5]) h 0 _ rfl) 1 _ rfl) 2 _ rfl) 3 _ rfl) 4 _ rfl) 5 _ rfl
theorem blk_far {w : World} {b g : Nat} {o : Obj} (h : w.heap[b]? = some o) (hne : b ≠ g) (j : Nat) (v : Value) : (w.setCell ⟨g, j, none⟩ v).heap[b]? = some o := (Below.heap_setCell _ _ _ _ hne).trans h
theorem Frm.set6 {g : Nat} {w w1 : World} (h : Frm g w w1) {b : Nat} (hb : w.heap.size ≤ b) (v0 v1 v2 v3 v4 v5 : Value) : Frm g w ((((((w1.setCell ⟨b, 0, none⟩ v0).setCell ⟨b, 1, none⟩ v1).setCell ⟨b, 2, none⟩ v2).setCell ⟨b, 3, none⟩ v3).setCell ⟨b, 4, none⟩ v4).setCell ⟨b, 5, none⟩ v5) :=
  (((((h.setNew hb 0 v0).setNew hb 1 v1).setNew hb 2 v2).setNew hb 3 v3).setNew hb 4 v4).setNew hb 5 v5
theorem RdAt.set6 {W0 w1 : World} {g : Nat} {ev : Int} {st : St} (h : RdAt W0 g ev st w1) {b : Nat} (hb : g < b) (v0 v1 v2 v3 v4 v5 : Value) : RdAt W0 g ev st ((((((w1.setCell ⟨b, 0, none⟩ v0).setCell ⟨b, 1, none⟩ v1).setCell ⟨b, 2, none⟩ v2).setCell ⟨b, 3, none⟩ v3).setCell ⟨b, 4, none⟩ v4).setCell ⟨b, 5, none⟩ v5) :=
  (((((h.setFar hb 0 v0).setFar hb 1 v1).setFar hb 2 v2).setFar hb 3 v3).setFar hb 4 v4).setFar hb 5 v5
set_option maxHeartbeats 2000000 in
set_option maxRecDepth 100000 in
theorem fail_any (W0 : World) (g : Nat) (ev : Int) (st : St) (w : World) (h : RdAt W0 g ev st w) :
    Calls Tryd.prog 50 #[.pointer (some ⟨g, 0, none⟩)] w fun e w' => e = .returned (ndV z44 (.slice none 0 0)) ∧ RdAt W0 g ev (failS ev st) w' ∧ Frm g w w' := by
  have HR := Lib.hid h
  have HG := Lib.hid h.lt
  have HSZ := Lib.hid h.sz
  clear h
  obtain ⟨ts, bad, pos⟩ := st
  go_enter Tryd.func50, Tryd.ntmps50
  go_upto_region 1 with (fail)
  have HZ := Lib.hid (blk_new w (Obj.cells #[.int .i64 0, .string (⟨#[]⟩ : ByteArray), .int .i64 0, .int .u64 0, .slice none 0 0, .int .i64 0] 44))
  have HRA := Lib.hid (HR.out.alloc (Obj.cells #[.int .i64 0, .string (⟨#[]⟩ : ByteArray), .int .i64 0, .int .u64 0, .slice none 0 0, .int .i64 0] 44))
  have HFA := Lib.hid ((Frm.refl g w).alloc (Obj.cells #[.int .i64 0, .string (⟨#[]⟩ : ByteArray), .int .i64 0, .int .u64 0, .slice none 0 0, .int .i64 0] 44))
  clear HR
  generalize w.alloc (Obj.cells #[.int .i64 0, .string (⟨#[]⟩ : ByteArray), .int .i64 0, .int .u64 0, .slice none 0 0, .int .i64 0] 44) = wA at *
  have hgb : g < w.heap.size := HG.out
  generalize hb2 : w.heap.size = b2 at *
  have HSB : Hid (w.heap.size ≤ b2) := Lib.hid (Nat.le_of_eq hb2)
  clear hb2
  obtain ⟨A, c, hl, hC, hb⟩ := HRA.out.cells
  have HBX := Lib.hid hb
  clear hb
  have zc0 : wA.cell? ⟨b2, 0, none⟩ = some (.int .i64 0) := (blk_cell HZ.out 0).trans rfl
  have zc1 : wA.cell? ⟨b2, 1, none⟩ = some (.string (⟨#[]⟩ : ByteArray)) := (blk_cell HZ.out 1).trans rfl
  have zc2 : wA.cell? ⟨b2, 2, none⟩ = some (.int .i64 0) := (blk_cell HZ.out 2).trans rfl
  have zc3 : wA.cell? ⟨b2, 3, none⟩ = some (.int .u64 0) := (blk_cell HZ.out 3).trans rfl
  have zc4 : wA.cell? ⟨b2, 4, none⟩ = some (.slice none 0 0) := (blk_cell HZ.out 4).trans rfl
  have zc5 : wA.cell? ⟨b2, 5, none⟩ = some (.int .i64 0) := (blk_cell HZ.out 5).trans rfl
  have zf0 := blk_frozen HZ.out 0
  have zf1 := blk_frozen HZ.out 1
  have zf2 := blk_frozen HZ.out 2
  have zf3 := blk_frozen HZ.out 3
  have zf4 := blk_frozen HZ.out 4
  have zf5 := blk_frozen HZ.out 5
  cases bad with
  | true =>
    have hc2 : wA.cell? ⟨g, 2, none⟩ = some (.bool true) := (blk_cell HBX.out 2).trans rfl
    have hf0 := blk_frozen HBX.out 0
    have hc0 : wA.cell? ⟨g, 0, none⟩ = some (.slice A ts.length c) := (blk_cell HBX.out 0).trans rfl
    go_wp2
    have HE : Hid (RdAt W0 g ev (failS ev ⟨ts, true, pos⟩) (wA.setCell ⟨g, 0, none⟩ (.slice none 0 0))) := Lib.hid (HRA.out.set0 (slt_nil W0))
    have HFE := Lib.hid (HFA.out.set 0 (.slice none 0 0))
    exact bodyPost_ret (v := .agg #[.int .i64 0, .string (⟨#[]⟩ : ByteArray), .int .i64 0, .int .u64 0, .slice none 0 0, .int .i64 0]) (results_c Tryd.results50 _ _ b2 44 _ (0, 0) _ rfl (blk_put6 (blk_far HZ.out (Nat.ne_of_gt hgb) _ _) _ _ _ _ _ _) Tryd.underlying44 rfl size44) rfl ⟨rfl, HE.out.set6 hgb _ _ _ _ _ _, HFE.out.set6 HSB.out _ _ _ _ _ _⟩
  | false =>
    have hc1 : wA.cell? ⟨g, 1, none⟩ = some (.int .i64 ev) := (blk_cell HBX.out 1).trans rfl
    have hc2 : wA.cell? ⟨g, 2, none⟩ = some (.bool false) := (blk_cell HBX.out 2).trans rfl
    have hc3 : wA.cell? ⟨g, 3, none⟩ = some (.int .i64 pos) := (blk_cell HBX.out 3).trans rfl
    have hf0 := blk_frozen HBX.out 0
    have hf2 := blk_frozen HBX.out 2
    have hf3 := blk_frozen HBX.out 3
    cases ts with
    | nil =>
      have hc0 : wA.cell? ⟨g, 0, none⟩ = some (.slice A 0 c) := (blk_cell HBX.out 0).trans rfl
      go_wp2
      have HE : Hid (RdAt W0 g ev (failS ev ⟨[], false, pos⟩) (((wA.setCell ⟨g, 2, none⟩ (.bool true)).setCell ⟨g, 3, none⟩ (.int .i64 ev)).setCell ⟨g, 0, none⟩ (.slice none 0 0))) := Lib.hid (((HRA.out.setBad true).setPos ev).set0 (slt_nil W0))
      have HFE := Lib.hid (((HFA.out.set 2 (.bool true)).set 3 (.int .i64 ev)).set 0 (.slice none 0 0))
      exact bodyPost_ret (v := .agg #[.int .i64 0, .string (⟨#[]⟩ : ByteArray), .int .i64 0, .int .u64 0, .slice none 0 0, .int .i64 0]) (results_c Tryd.results50 _ _ b2 44 _ (0, 0) _ rfl (blk_put6 (blk_far (blk_far (blk_far HZ.out (Nat.ne_of_gt hgb) _ _) (Nat.ne_of_gt hgb) _ _) (Nat.ne_of_gt hgb) _ _) _ _ _ _ _ _) Tryd.underlying44 rfl size44) rfl ⟨rfl, HE.out.set6 hgb _ _ _ _ _ _, HFE.out.set6 HSB.out _ _ _ _ _ _⟩
    | cons t r =>
      have HC := Lib.hid hC
      obtain ⟨ad, e0, x0, x1, x2, x3, x4⟩ := at_T39 hC (0 : Int) (by omega) (by simp)
      cases e0
      have hxb : ad.block < W0.heap.size := by have := World.block_lt_of_cell? W0 _ x0; first | rwa [add_block] at this | exact this
      clear hC x0 x1 x2 x3
      have et : rd_T39 (t :: r) 0 = t := rfl
      rw [et] at x4
      simp only [Int.toNat_zero, Nat.zero_mul, Addr.add, if_true] at x4
      have hlt := HSZ.out
      replace x4 := (HRA.out.old.cell (by show ad.block < g; omega)).trans x4
      clear et
      have hne : ad.block ≠ g := by omega
      have hc0 : wA.cell? ⟨g, 0, none⟩ = some (.slice (some ad) (t :: r).length c) := (blk_cell HBX.out 0).trans rfl
      simp only [List.length_cons] at hc0 hl
      have hl0 : (0 : Int) < (r.length : Int) + 1 := by omega
      go_wp2
      have HE : Hid (RdAt W0 g ev (failS ev ⟨t :: r, false, pos⟩) ((((wA.setCell ⟨g, 2, none⟩ (.bool true)).setCell ⟨g, 3, none⟩ (.int .i64 ev)).setCell ⟨g, 3, none⟩ (.int .i64 t.f4)).setCell ⟨g, 0, none⟩ (.slice none 0 0))) := Lib.hid ((((HRA.out.setBad true).setPos ev).setPos t.f4).set0 (slt_nil W0))
      have HFE := Lib.hid ((((HFA.out.set 2 (.bool true)).set 3 (.int .i64 ev)).set 3 (.int .i64 t.f4)).set 0 (.slice none 0 0))
      exact bodyPost_ret (v := .agg #[.int .i64 0, .string (⟨#[]⟩ : ByteArray), .int .i64 0, .int .u64 0, .slice none 0 0, .int .i64 0]) (results_c Tryd.results50 _ _ b2 44 _ (0, 0) _ rfl (blk_put6 (blk_far (blk_far (blk_far (blk_far HZ.out (Nat.ne_of_gt hgb) _ _) (Nat.ne_of_gt hgb) _ _) (Nat.ne_of_gt hgb) _ _) (Nat.ne_of_gt hgb) _ _) _ _ _ _ _ _) Tryd.underlying44 rfl size44) rfl ⟨rfl, HE.out.set6 hgb _ _ _ _ _ _, HFE.out.set6 HSB.out _ _ _ _ _ _⟩
end Go.Proofs.YtfgfoofojofnmaaDoor.Q
