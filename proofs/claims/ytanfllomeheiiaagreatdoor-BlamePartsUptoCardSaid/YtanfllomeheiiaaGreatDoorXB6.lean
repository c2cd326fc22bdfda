/- BlameParts, called with any lines that can be read. -/
import Derived.Test.YtanfllomeheiiaaGreatDoorXB5
import Derived.Deep.SlicePairs
import Derived.ChangeSlices
import Derived.Below
import Derived.Test.YtanfllomeheiiaaGreatDoorRows
set_option linter.unusedVariables false
set_option linter.unusedSimpArgs false
namespace Go.Proofs.YtanfllomeheiiaaGreatDoor.X
open Go.XM Go.ChangeShapes Go.WideShapes Go.RowKit
instance : Inhabited Ln := ⟨zL⟩
theorem spot_none {w : World} {a : Addr} {v : Value} (h : w.cell? a = some v) : a.spot = none := by
  unfold World.cell? at h
  split at h
  · split at h
    · cases h
    · rename_i h1; simpa using h1
  · cases h
set_option maxRecDepth 100000 in
theorem open_line {H : Type} {enc : TypeId × Value → H} {w : World} {a : Addr} {n : Nat} {cs : List Value} {x : DataW H × List MemPlace}
    (h1 : w.cells? 0 a 3 = some cs) (h2 : DataW.trod enc Tryz.prog w 0 (fun _ => true) true n 29 cs = some x) :
    ∃ y : Ln, (-9223372036854775808 ≤ y.n ∧ y.n ≤ 9223372036854775807) ∧ w.cell? (a.add 0) = some (.int .u64 y.c) ∧ w.cell? (a.add 1) = some (.string y.p) ∧ w.cell? (a.add 2) = some (.int .i64 y.n) := by
  obtain ⟨_, hlen, hcell⟩ := World.cells?_some h1
  obtain ⟨xs, k, hk, hxy, _, hxl, hf⟩ := DataW.trod_struct Tryz.underlying29 h2
  have c27 : Tryz.prog.cellsOf 27 = 1 := by kernel_rfl
  have c9 : Tryz.prog.cellsOf 9 = 1 := by kernel_rfl
  have c3 : Tryz.prog.cellsOf 3 = 1 := by kernel_rfl
  match xs, hxl, cs, hlen with
  | [y0, y1, y2], _, [v0, v1, v2], _ =>
    have g0 : DataW.trod enc Tryz.prog w 0 (fun _ => true) true k 27 (List.take (Tryz.prog.cellsOf 27) (List.drop 0 [v0, v1, v2])) = some y0 := hf 0 _ rfl
    have g1 : DataW.trod enc Tryz.prog w 0 (fun _ => true) true k 9 (List.take (Tryz.prog.cellsOf 9) (List.drop 1 [v0, v1, v2])) = some y1 := hf 1 _ rfl
    have g2 : DataW.trod enc Tryz.prog w 0 (fun _ => true) true k 3 (List.take (Tryz.prog.cellsOf 3) (List.drop 2 [v0, v1, v2])) = some y2 := hf 2 _ rfl
    rw [c27] at g0
    rw [c9] at g1
    rw [c3] at g2
    obtain ⟨c, e0, _, _⟩ := DataW.trod_int Tryz.underlying27 g0
    obtain ⟨p, e1, _, _⟩ := DataW.trod_string Tryz.underlying9 g1
    obtain ⟨m, e2, _, hw⟩ := DataW.trod_int Tryz.underlying3 g2
    simp at e0 e1 e2
    subst e0; subst e1; subst e2
    refine ⟨⟨c, p, m⟩, ?_, by simpa using hcell 0 (by omega), by simpa using hcell 1 (by omega), by simpa using hcell 2 (by omega)⟩
    have hw : (decide (-9223372036854775808 ≤ m) && decide (m ≤ 9223372036854775807)) = true := hw
    simpa using hw
theorem cell_at {w : World} {a : Addr} {i j : Nat} {v : Value} (h : w.cell? ((a.add (i * 3)).add j) = some v) (hs : a.spot = none) : w.cell? ⟨a.block, a.off + (i * 3 + j), none⟩ = some v := by
  rw [Deep.add_add] at h
  obtain ⟨b, o, s⟩ := a
  have hs : s = none := hs
  subst hs
  by_cases h0 : i * 3 + j = 0
  · rw [h0]; rw [h0] at h; simpa [Addr.add] using h
  · unfold Addr.add at h
    rw [if_neg h0] at h
    exact h
set_option maxRecDepth 100000 in
theorem open_lines {H : Type} {enc : TypeId × Value → H} {w : World} {a : Option Addr} {len cap : Nat} {d : DataW H} {p : List MemPlace} {μ : Mu}
    (h : DataW.Trod enc Tryz.prog w 0 (fun _ => true) true 22 (.slice a len cap) d p) :
    ∃ l : List Ln, Rng l ∧ l.length = len ∧ (dL l).rep μ w (fun b => b < w.heap.size) [] (.slice a len cap) ∧ (d = .nil ∧ len = 0 ∨ ∃ D : Nat → DataW H, ∃ r, d = .slice ((List.range len).map D) r) := by
  obtain ⟨fuel, hf⟩ := h
  have ce : Tryz.prog.cellsOf 29 = 3 := by kernel_rfl
  rcases Deep.open_slice Tryz.underlying22 hf with ⟨hcs, hx⟩ | ⟨x, l, c, m, n, D, Pl, hcs, _, hl, _, hm, hx, hall⟩
  · simp [Value.cells] at hcs
    obtain ⟨rfl, rfl, rfl⟩ := hcs
    refine ⟨[], (fun _ h => by cases h), rfl, ?_, .inl ⟨(Prod.mk.inj hx).1, rfl⟩⟩
    unfold dL
    rw [AV.rep, D.rep]
    exact ⟨none, 0, rfl, Nat.le_refl _, (fun e => by cases e), fun h => absurd h (Nat.lt_irrefl _)⟩
  · simp [Value.cells] at hcs
    obtain ⟨rfl, rfl, rfl⟩ := hcs
    have hlm : len ≤ m := by rw [hm]; simpa using hl
    rw [ce] at hall
    obtain ⟨f, hf⟩ := Deep.choose_lt (n := len) (p := fun i (y : Ln) => (-9223372036854775808 ≤ y.n ∧ y.n ≤ 9223372036854775807) ∧ w.cell? ((x.add (i * 3)).add 0) = some (.int .u64 y.c) ∧ w.cell? ((x.add (i * 3)).add 1) = some (.string y.p) ∧ w.cell? ((x.add (i * 3)).add 2) = some (.int .i64 y.n)) fun i hi => by
      obtain ⟨cs', h1, h2⟩ := hall i (by omega)
      exact open_line h1 h2
    have hget : ∀ i, i < len → ((List.range len).map f).getD i zL = f i := fun i hi => by
      rw [List.getD_eq_getElem?_getD, List.getElem?_map, List.getElem?_range hi]; rfl
    refine ⟨(List.range len).map f, fun y hy => ?_, by simp, ?_, .inr ⟨D, _, (Prod.mk.inj hx).1⟩⟩
    · obtain ⟨i, hi, rfl⟩ := List.mem_map.1 hy
      exact (hf i (List.mem_range.1 hi)).1
    · unfold dL
      rw [AV.rep, D.rep]
      have hlen : ((List.range len).map f).length = len := by simp
      rw [hlen]
      refine ⟨some x, cap, rfl, hl, (fun e => by cases e), fun h0 => ?_⟩
      have hs : x.spot = none := by
        have := (hf 0 h0).2.1
        rw [Nat.zero_mul] at this
        exact spot_none (by simpa [Addr.add] using this)
      have hb : x.block < w.heap.size := by
        have := cell_at (hf 0 h0).2.1 hs
        rcases Nat.lt_or_ge x.block w.heap.size with h | h
        · exact h
        · simp [World.cell?, Array.getElem?_eq_none h] at this
      refine ⟨x.block, x.off, ?_, hb, fun i j hi hj => ?_⟩
      · obtain ⟨b, o, s⟩ := x
        have hs : s = none := hs
        rw [hs]
      · obtain ⟨_, h0, h1, h2⟩ := hf i hi
        have e : rowC encL zL ((List.range len).map f) i j = encL (f i) j := by show encL (((List.range len).map f).getD i zL) j = _; rw [hget i hi]
        rw [e]
        rcases j with _ | _ | _ | j
        · exact ⟨_, cell_at h0 hs, rfl, rfl⟩
        · exact ⟨_, cell_at h1 hs, rfl, rfl⟩
        · exact ⟨_, cell_at h2 hs, rfl, rfl⟩
        · omega
theorem blame_pr {H : Type} {enc : TypeId × Value → H} {a : Option Addr} {len cap : Nat} {d : DataW H} {p : List MemPlace} (W : World)
    (h : DataW.Trod enc Tryz.prog W 0 (fun _ => true) true 22 (.slice a len cap) d p) (hlen : len ≤ 1000000000) : Calls Tryz.prog 3 #[.slice a len cap] W fun e W' => e = .returned (.bool true) ∧ Below W.heap.size W W' := by
  obtain ⟨l, hr, hl, hrep, _⟩ := open_lines (μ := fun _ => none) h
  refine (blame_is l (by omega) hr W (fun b => b < W.heap.size) (fun _ => none) [.slice a len cap] (HIn.nil (fun b hb => hb) _) ⟨hrep, trivial⟩).mono fun e w' q => ?_
  obtain ⟨u, v, hp', μ', I', rfl, rfl, HS, hv⟩ := q
  rw [rep_a hv]
  exact ⟨rfl, HS.base.os, HS.base.tape, HS.base.output, HS.base.size, fun k hk => HS.base.block k hk fun ⟨r, z, hl, _⟩ => by obtain ⟨o, e, _⟩ := hl; cases e⟩
end Go.Proofs.YtanfllomeheiiaaGreatDoor.X
