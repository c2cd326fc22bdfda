/- slices.Sorted(maps.Keys(m)) at this program: no key, or one. -/
import Derived.Test.YtanfllomeheiiaaGreatDoorXTO
import Derived.Test.YtanfllomeheiiaaGreatDoorXQS
import Derived.Shelf.SlIter.Nil
import Derived.Shelf.SortM.Plain
import Derived.Shelf.SortM.SortNone
import Derived.Ground.GgzProg
import Derived.Ground.SlgmProg
set_option linter.unusedVariables false
set_option linter.unusedSimpArgs false
namespace Go.Proofs
open Go.RowKit Go.Maps Go.Sort Go.Shelf Go.XM
shelf_lay_g SlLaysZ.n7 Ggz 7 at Tryz 188 as Tryz.keysS
shelf_lay_g SlLaysZ.n6 Ggz 6 at Tryz 187 as Tryz.sortedS
shelf_lay_g SlLaysM.n6 Slgm 6 at Tryz 239 as Tryz.sortS
theorem Tryz.sortsS (m : Nat) : AnyZ.SortsIn Tryz.prog Tryz.sortedS_ren Fence.wide m :=
  ⟨fun blk off cap ss W hH hblk hsz => callsIn_wide.2 (AnyM.slices_Sort_string Tryz.sortS blk off cap ss W hH hblk hsz),
   fun p cap W => callsIn_wide.2 (AnyM.slices_Sort_string_none Tryz.sortS p cap W)⟩
def Tryz.anyR (_ : Value) : Option (DataW Unit × List MemPlace) := some (.nil, [])
theorem Tryz.keyS (s : ByteArray) (h : s.size ≤ maxLen) : keyOf Tryz.prog 9 (.string s) = some (.string s.data.toList) := by
  have u : Tryz.prog.underlying 9 = some .string := by kernel_rfl
  simp [keyOf, mapKey, u, h]
theorem Tryz.sorts1 : Sorts1 Tryz.prog 187 240 := by
  intro q b w es c hq hb
  have hlt : q < w.heap.size := by
    rcases Nat.lt_or_ge q w.heap.size with h | h
    · exact h
    · simp [World.cell?, Array.getElem?_eq_none h] at hq
  have main : ∀ (D0 : DataW Unit), w.ownsMap Tryz.prog 9 Tryz.anyR b es.size D0 → Maps.size D0 ≤ 1 → Calls Tryz.prog 187 #[.func (.func 240) #[] #[.pointer (some ⟨q, 0, none⟩)]] w fun e w' => ∃ (v : Value) (ss : List (List UInt8)), e = .returned v ∧ ss.Perm (strKeys D0) ∧
      w'.ownsRow w.heap.size 9 1 v ss.length ((ss.mergeSort (fun x y => decide (x ≤ y))).map encStr) ∧ (v = .slice none 0 0 ↔ ss = []) ∧ Below w.heap.size w w' := by
    intro D0 hown hsz
    have hseq : SeqGives Fence.wide 2 Tryz.prog 240 #[.pointer (some ⟨q, 0, none⟩)] encStr (fun ss => ss.Perm (strKeys D0)) (Maps.size D0) w :=
      AnyZ.keys_gives (ρ := Tryz.keysS_ren) { Tryz.keysS with } Fence.wide _ trivial rfl (by omega) q b es.size D0 _ hlt hq hown
    exact (callsIn_wide (n := 5)).1 (AnyZ.sorted_in Tryz.sortedS Fence.wide 5 trivial trivial trivial trivial rfl (by omega) (Tryz.sortsS _) (enters_of Tryz.func239 (by kernel_rfl) rfl) 240 #[.pointer (some ⟨q, 0, none⟩)] trivial (enters_of Tryz.func240 (by kernel_rfl) rfl) _ _ (by unfold maxLen; omega) (by omega) _ hseq)
  refine ⟨fun e0 => ?_, fun s v n e0 hn hs => ?_⟩
  · subst e0
    have hown : w.ownsMap Tryz.prog 9 Tryz.anyR b (#[] : Array MapEntry).size (.map []) := ⟨#[], c, hb, ⟨by simp, ⟨by simp, by simp, by simp⟩, by simp⟩, Nat.le_refl _, rfl⟩
    refine (main _ hown (by simp [Maps.size])).mono fun e w' h => ?_
    obtain ⟨v, ss, rfl, hp, _, hv, hbw⟩ := h
    have : ss = [] := by simpa [strKeys] using hp
    exact ⟨by rw [hv.2 this], hbw⟩
  · subst e0
    have hrd : WideElems.rd Tryz.prog 9 Tryz.anyR ⟨.string s, v, n⟩ = some (.string s.data.toList, .nil) := WideElems.rd_mk (yv := (.nil, [])) (Tryz.keyS s hs) rfl
    have hown : w.ownsMap Tryz.prog 9 Tryz.anyR b (#[⟨.string s, v, n⟩] : Array MapEntry).size (.map [(.string s.data.toList, .nil)]) := ⟨_, c, hb, ⟨by simp [maxLen], ⟨by simpa using hn, by simp, by simp⟩, fun x hx => by simp at hx; subst hx; exact ⟨_, hrd⟩⟩, Nat.le_refl _, by simp [WideElems.rg_of hrd, DataW.insert]⟩
    refine (main _ hown (by simp [Maps.size])).mono fun e w' h => ?_
    obtain ⟨v, ss, rfl, hp, hrow, hv, hbw⟩ := h
    have e1 : ss = [s.data.toList] := by simpa [strKeys, strOf] using hp
    subst e1
    obtain ⟨_, hrow⟩ := hrow
    rcases hrow with ⟨_, h0⟩ | ⟨g, cap, cur, rfl, hg, hc, h1, h2, h3, h4⟩
    · simp at h0
    · refine ⟨g, cap, cur, 9, rfl, hbw, hg, hc, by simpa using h1, by simpa using h3, ?_⟩
      simpa [encStr] using h4
end Go.Proofs
