/- What the model says in the stead of functions without a body, as summaries. -/
import Derived.Test.YtanfllomeheiiaaGreatDoorXY
import Derived.Lib.Bytealg
import Derived.Lib.MakeNoZero
set_option linter.unusedVariables false
set_option linter.unusedSimpArgs false
namespace Go.XM
open RM Go.RowKit
/-- The first place of a byte. -/
def idxB (c : UInt8) : List UInt8 → Nat → Int
  | [], _ => -1
  | x :: l, i => match Nat.beq x.toNat c.toNat with
    | true => Int.ofNat i
    | false => idxB c l (Nat.succ i)
theorem idxB_eq (c : UInt8) : ∀ (l : List UInt8) (i : Nat), idxB c l i = if Lib.indexByte l c == -1 then -1 else Lib.indexByte l c + i
  | [], i => rfl
  | x :: l, i => by
    unfold idxB Lib.indexByte
    by_cases h : x = c
    · subst h
      have : Nat.beq x.toNat x.toNat = true := Nat.beq_refl _
      rw [this]
      simp
    · have h1 : Nat.beq x.toNat c.toNat = false := by
        cases e : Nat.beq x.toNat c.toNat with
        | false => rfl
        | true => exact absurd (UInt8.toNat_inj.1 (Nat.eq_of_beq_eq_true e)) h
      have h2 : (x == c) = false := by simpa using h
      rw [h1, h2, idxB_eq c l]
      have hge := Lib.indexByte_ge l c
      by_cases h3 : Lib.indexByte l c = -1
      · simp [h3]
      · have h4 : ¬ Lib.indexByte l c + 1 = -1 := by omega
        simp [h3, h4]
        omega
def sIdx : Summ := fun args _ => match args with
  | [.d (.a (.string s)), .d (.a (.int .u8 c))] => .pure (.mk (av (.int .i64 (idxB c.toNat.toUInt8 (lsU s) 0))) [] [])
  | _ => .fail 3005
def anys : Nat → List AV
  | 0 => []
  | n + 1 => .any :: anys n
def sNoZero : Summ := fun args fr => match args with
  | [.d (.a (.int .i64 (.ofNat n)))] => need (Nat.ble n 281474976710656) (.pure (.mk (.ra fr 0 n) [] [(fr, .rowA n 1 (anys n))]))
  | _ => .fail 3004
section
variable {P : Program} {g : Nat} {fn : Func}
theorem sIdx_ok (hf : P.funcs[g]? = some fn) (hname : (fn.name == "runtime.NumGoroutine") = false) (hb : fn.body.isNone = true) (hn : Extern.findNext fn = none) (he : Extern.find fn = some Extern.BytealgIndexByte.indexByte) : SummOk P g sIdx := by
  intro G N μ I sl hp a w args vals fr dst K S hr hk
  unfold sIdx at hk
  split at hk
  · rename_i s c
    match vals, hr with
    | [v1, v2], hr =>
      obtain ⟨h1, h2, _⟩ := hr
      rw [AV.rep, D.rep] at h1 h2
      subst h1; subst h2
      refine .inr ⟨.int .i64 (Lib.indexByte s.data.toList c.toNat.toUInt8), w, ?_, ?_⟩
      · rw [run_callFunc_extern hf hname hb hn he]
        show (Sem.run P (Extern.BytealgIndexByte.indexByte #[.string s, .int .u8 c]) w).andThen _ = _
        rw [Lib.run_indexByteString]; rfl
      · have hk : ∀ μ' I' u w', Sim G N μ' I' sl hp a w' → (av (.int .i64 (idxB c.toNat.toUInt8 (lsU s) 0))).rep μ' w' I' hp u → K (a.put dst u) w' := hk
        refine hk μ I _ w S ?_
        rw [AV.rep, D.rep]
        have : idxB c.toNat.toUInt8 (lsU s) 0 = Lib.indexByte s.data.toList c.toNat.toUInt8 := by
          rw [idxB_eq]
          show (if (Lib.indexByte s.data.toList c.toNat.toUInt8 == -1) = true then _ else _) = _
          split
          · rename_i h; simp at h; exact h.symm
          · simp [lsU]
        rw [this]
    | [], hr => exact hr.elim
    | [_], hr => exact hr.2.elim
    | _ :: _ :: _ :: _, hr => exact hr.2.2.elim
  · exact hk.elim
theorem digits_one : ∀ (n t : Nat) (acc : Array Value), (∀ u ∈ acc.toList, u.oneCell' = true) → ∀ u ∈ (Extern.BytealgMakeNoZero.digits n t acc).toList, u.oneCell' = true
  | 0, _, acc, h => h
  | n + 1, t, acc, h => by
    rw [Extern.BytealgMakeNoZero.digits]
    refine digits_one n _ _ fun u hu => ?_
    rw [Array.toList_push, List.mem_append] at hu
    rcases hu with hu | hu
    · exact h u hu
    · simp at hu; subst hu; rfl
theorem reps_anys {μ : Mu} {w : World} {I : Nat → Prop} {hp : Heap} : ∀ (vs : List Value), AV.reps μ w I hp (anys vs.length) vs
  | [] => trivial
  | v :: l => ⟨by rw [AV.rep]; trivial, reps_anys l⟩
theorem anys_len : ∀ n, (anys n).length = n
  | 0 => rfl
  | n + 1 => by rw [anys, List.length_cons, anys_len n]
theorem run_mkz {t e : TypeId} (w : World) (ps : Array TypeId) (ht : P.underlying t = some (.slice e)) (n : Nat) (hn : n ≤ 281474976710656) :
    ∃ cap y, (Extern.BytealgMakeNoZero.makeNoZero ps #[t] #[.int .i64 n]).run P w = .ok (.slice (some ⟨w.heap.size, 0, none⟩) n cap) (w.drew.drew.alloc (.cells (Extern.BytealgMakeNoZero.digits cap y #[]) e)) ∧ n ≤ cap := by
  have hdef : Extern.BytealgMakeNoZero.makeNoZero ps #[t] #[.int .i64 n] =
      (do
        let .slice elem ← underlying t | stuck "bytealg.MakeNoZero: slice type expected"
        if (n : Int) < 0 || (n : Int) > 2 ^ 48 then runtimePanic (.error "makeslice: len out of range")
        let cap ← choose (.appendCap (n : Int).toNat 0 elem)
        askRoom cap
        let bytes ← choose (.extern "internal/bytealg.MakeNoZero.bytes" 0)
        let a ← Go.newRow elem (Extern.BytealgMakeNoZero.digits cap bytes #[])
        pure (.slice (some a) (n : Int).toNat cap)) := rfl
  refine ⟨grownCap w n 0 e, (Question.extern "internal/bytealg.MakeNoZero.bytes" 0).cut (w.tape (w.drawn + 1) (.extern "internal/bytealg.MakeNoZero.bytes" 0)), ?_, by simpa using grownCap_ge w n 0 e⟩
  rw [hdef]
  have h1 : ¬ (n : Int) < 0 := by omega
  have h2 : ¬ (281474976710656 : Int) < (n : Int) := by omega
  simp [run_underlying ht, h1, h2, Question.forced, Go.newRow, Lib.size_digits, grownCap]
theorem sNoZero_ok {t e : TypeId} (hf : P.funcs[g]? = some fn) (hname : (fn.name == "runtime.NumGoroutine") = false) (hb : fn.body.isNone = true) (hn : Extern.findNext fn = none) (hr0 : fn.resultTypes = #[t]) (ht : P.underlying t = some (.slice e)) (he : Extern.find fn = some (Extern.BytealgMakeNoZero.makeNoZero fn.params fn.resultTypes)) : SummOk P g sNoZero := by
  intro G N μ I sl hp a w args vals fr dst K S hr hk
  unfold sNoZero at hk
  split at hk
  · rename_i n
    obtain ⟨hle, hk⟩ := need_wp hk
    have hle : n ≤ 281474976710656 := by simpa [Nat.ble_eq] using hle
    match vals, hr with
    | [v1], hr =>
      obtain ⟨h1, _⟩ := hr
      rw [AV.rep, D.rep] at h1
      subst h1
      obtain ⟨cap, y, hrun, hcap⟩ := run_mkz (P := P) w fn.params ht n hle
      refine .inr ⟨_, _, ?_, Then.new (z := cap) (u := .slice (some ⟨w.heap.size, 0, none⟩) n cap) (w' := w.drew.drew.alloc (.cells (Extern.BytealgMakeNoZero.digits cap y #[]) e)) S hk ⟨rfl, rfl, rfl⟩ rfl (fun X => ⟨by rw [anys_len, Nat.mul_one], .inr ⟨w.heap.size, _, _, e, (0, 0), upd_same _ _ _, heap_push_self w.drew.drew _, nofz0 _, ?_, ?_, ?_, ?_⟩⟩) (fun X => ?_)⟩
      · rw [run_callFunc_extern hf hname hb hn he, hr0]
        show (Sem.run P (Extern.BytealgMakeNoZero.makeNoZero fn.params #[t] #[.int .i64 (n : Int)]) w).andThen _ = _
        rw [hrun]; rfl
      · rw [Lib.size_digits]; simp
      · rw [Nat.mul_one]; exact hcap
      · rw [Nat.mul_one]
        have := reps_anys (μ := upd μ fr (some (w.heap.size, cap))) (w := w.drew.drew.alloc (.cells (Extern.BytealgMakeNoZero.digits cap y #[]) e)) (I := I) (hp := (fr, AO.rowA n 1 (anys n)) :: hp) ((Extern.BytealgMakeNoZero.digits cap y #[]).toList.take n)
        rw [List.length_take, Array.length_toList, Lib.size_digits] at this
        simp only [List.size_toArray, List.length_nil, Nat.zero_add] at this
        rw [Nat.min_eq_left hcap] at this
        exact this
      · exact fun u hu => digits_one cap y #[] (fun _ h => by simp at h) u (List.mem_of_mem_take hu)
      · rw [AV.rep]
        refine ⟨_, _, rfl, hcap, _, by rw [get_cons, if_pos rfl], fun n' k cs eo => ?_⟩
        injection eo with h1 h2 h3
        subst h1; subst h2
        exact ⟨by omega, .inr ⟨w.heap.size, _, upd_same _ _ _, fun _ => by rw [Nat.zero_mul], by omega⟩⟩
    | [], hr => exact hr.elim
    | _ :: _ :: _, hr => exact hr.2.elim
  · exact hk.elim
end
end Go.XM
namespace Go.XM
open RM Go.RowKit
section
variable {G : Ctx} {N : Nat} {μ : Mu} {I : Nat → Prop} {sl : Slots} {hp : Heap} {a : Act} {w w' : World} {K : Act → World → Prop}
theorem HSim.below (S : HSim G μ I hp w) (hb : Below w.heap.size w w') : HSim G μ I hp w' where
  objs r o e := by
    by_cases hd : o = .dead
    · subst hd; trivial
    · exact AO.rep_mono (.refl _ _) (fun b h => hb.block b (S.imm b h).1) (fun _ h => h) rfl (fun b z e2 => hb.block b (S.own r b z ⟨o, e, hd⟩ e2).2.1) (S.objs r o e)
  inj := S.inj
  own r b z h e := have t := S.own r b z h e; ⟨t.1, Nat.lt_of_lt_of_le t.2.1 hb.size, t.2.2⟩
  imm b h := ⟨Nat.lt_of_lt_of_le (S.imm b h).1 hb.size, (S.imm b h).2⟩
  base := ⟨hb.os.trans S.base.os, hb.tape.trans S.base.tape, hb.output.trans S.base.output, Nat.le_trans S.base.size hb.size, fun b h1 h2 => by rw [hb.block b (Nat.lt_of_lt_of_le h1 S.base.size)]; exact S.base.block b h1 h2⟩
  pin := S.pin
  keep := S.keep
theorem HSim.belowX (S : HSim G μ I hp w) (hb : Below w.heap.size w w') : Ext μ I hp w μ I hp w' := ⟨.refl _ _, fun _ h => h, fun b h => hb.block b (S.imm b h).1⟩
/-- A row that has come behind all that there was. -/
theorem Then.row {r n cap gb : Nat} {xs : List AV} {cur : Array Value} {e : TypeId} {dst : Option Tmp} (S : Sim G N μ I sl hp a w) (hb : Below w.heap.size w w') (h : Then G N sl a dst K hp (.mk (.ra r 0 n) [] [(r, .rowA n 1 xs)])) (hgb : w.heap.size ≤ gb) (hc : w'.heap[gb]? = some (.cells cur e (0, 0))) (hn : n ≤ cap) (hz : cur.size = cap) (hl : xs.length = n)
    (hx : ∀ {μ I hp}, AV.reps μ w' I hp xs (cur.toList.take n)) (ho : ∀ u ∈ cur.toList.take n, u.oneCell' = true) : K (a.put dst (.slice (some ⟨gb, 0, none⟩) n cap)) w' := by
  have h : (match get hp r with
    | none => _
    | some _ => False) := h
  cases hr : get hp r with
  | some x => rw [hr] at h; exact h.elim
  | none =>
    rw [hr] at h
    have H1 := S.heap.below hb
    have S1 : Sim G N μ I sl hp a w' := S.next ⟨H1, S.heap.belowX hb⟩
    have hlt : gb < w'.heap.size := by
      rcases Nat.lt_or_ge gb w'.heap.size with h | h
      · exact h
      · rw [Array.getElem?_eq_none h] at hc; cases hc
    have H := H1.set (r := r) (o := .rowA n 1 xs) (m := some (gb, cap)) (.refl w') (Nat.le_refl _) (le_new hr)
      (fun r' b z z' hl' _ e2 e3 => by
        have := (S.heap.own r' b z hl' e2).2.1
        injection e3 with e3; injection e3 with e3 _
        omega)
      (fun b z e2 => by
        injection e2 with e2; injection e2 with e2 _
        subst e2
        refine ⟨fun hI => ?_, hlt, .inr (Nat.le_trans S.heap.base.size hgb)⟩
        have := (S.heap.imm gb hI).1
        omega)
      (fun _ _ _ => rfl)
      (fun X => ⟨by rw [hl, Nat.mul_one], .inr ⟨gb, cap, cur, e, (0, 0), upd_same _ _ _, hc, nofz0 _, hz, by rw [Nat.mul_one]; exact hn, by rw [Nat.mul_one]; exact hx, by rw [Nat.mul_one]; exact ho⟩⟩)
    refine h _ _ _ _ (S1.next H) ?_
    rw [AV.rep]
    refine ⟨_, _, rfl, hn, _, by rw [get_cons, if_pos rfl], fun n' k cs eo => ?_⟩
    injection eo with h1 h2 h3
    subst h1; subst h2
    exact ⟨by omega, .inr ⟨gb, cap, upd_same _ _ _, fun _ => by rw [Nat.zero_mul], by omega⟩⟩
end
def sSorted1 (it : Nat) : Summ := fun args fr => match args with
  | [.fn (.func f) [] [.pc q 0]] => need (Nat.beq f it) (.obj q fun
    | .cells [.mp r] => .obj r fun
      | .map es c => match es with
        | [] => .pure (.mk (av (.slice none 0 0)) [] [])
        | [(.string s, b, _)] => need (Nat.blt b c && Nat.ble (lsU s).length maxLen) (.pure (.mk (.ra fr 0 1) [] [(fr, .rowA 1 1 [av (.string s)])]))
        | _ => .fail 3007
      | _ => .fail 3001
    | _ => .fail 3002)
  | _ => .fail 3003
/-- What is asked of the function. -/
def Sorts1 (P : Program) (g it : Nat) : Prop := ∀ (q b : Nat) (w : World) (es : Array MapEntry) (c : Nat), w.cell? ⟨q, 0, none⟩ = some (.map (some b)) → w.heap[b]? = some (.map es c) →
  (es = #[] → Calls P g #[.func (.func it) #[] #[.pointer (some ⟨q, 0, none⟩)]] w fun e w' => e = .returned (.slice none 0 0) ∧ Below w.heap.size w w') ∧
  ∀ s v n, es = #[⟨.string s, v, n⟩] → n < c → s.size ≤ maxLen → Calls P g #[.func (.func it) #[] #[.pointer (some ⟨q, 0, none⟩)]] w fun e w' => ∃ gb cap cur t, e = .returned (.slice (some ⟨gb, 0, none⟩) 1 cap) ∧ Below w.heap.size w w' ∧ w.heap.size ≤ gb ∧ w'.heap[gb]? = some (.cells cur t (0, 0)) ∧ 1 ≤ cap ∧ cur.size = cap ∧ cur.toList.take 1 = [.string s]
theorem sSorted1_ok {P : Program} {g it : Nat} (is : FnIs P g) (H : Sorts1 P g it) : SummOk P g (sSorted1 it) := by
  intro G N μ I sl hp a w args vals fr dst K S hr hk
  unfold sSorted1 at hk
  split at hk
  · rename_i f q
    obtain ⟨hf0, hk2⟩ := need_wp hk
    have hf := Nat.eq_of_beq_eq_true hf0
    clear hk hf0
    subst hf
    obtain ⟨oq, hq, hk⟩ := obj_wp hk2
    clear hk2
    · split at hk
      · rename_i r
        obtain ⟨om, hm, hk3⟩ := obj_wp hk
        clear hk
        have hk := hk3
        clear hk3
        · split at hk
          · rename_i es c
            match vals, hr with
            | [v1], hr =>
              obtain ⟨h1, _⟩ := hr
              rw [AV.rep] at h1
              obtain ⟨a1, c1, rfl, ha1, hc1⟩ := h1
              have ea : a1 = #[] := by
                cases e : a1.toList with
                | nil => exact Array.toList_inj.1 e
                | cons x l => rw [e] at ha1; exact ha1.elim
              subst ea
              obtain ⟨p, ec, hp1⟩ : ∃ p, c1 = #[p] ∧ (AV.pc q 0).rep μ w I hp p := by
                match e : c1.toList, hc1 with
                | [p], hc1 => exact ⟨p, Array.toList_inj.1 e, hc1.1⟩
                | [], hc1 => exact hc1.elim
                | _ :: _ :: _, hc1 => exact hc1.2.elim
              subst ec
              rw [AV.rep] at hp1
              obtain ⟨ad, rfl, o, ho, hcs⟩ := hp1
              rw [hq] at ho; injection ho with ho; subst ho
              obtain ⟨bq, zq, hμ, rfl⟩ := hcs _ rfl
              obtain ⟨bq', zq', vs, t, fz, hμ', hbq, _, hvs⟩ := S.heap.objs q _ hq
              rw [hμ] at hμ'; injection hμ' with hμ'; injection hμ' with e1 e2
              subst e1; subst e2
              obtain ⟨u, ev, hu⟩ : ∃ u, vs = #[u] ∧ (AV.mp r).rep μ w I hp u := by
                match e : vs.toList, hvs with
                | [p], hc1 => exact ⟨p, Array.toList_inj.1 e, hc1.1⟩
                | [], hc1 => exact hc1.elim
                | _ :: _ :: _, hc1 => exact hc1.2.elim
              subst ev
              obtain ⟨b, z, es', rfl, hμm, hb, hrep⟩ := mp_wp S.heap hu hm
              have hcell : w.cell? ⟨bq, 0, none⟩ = some (.map (some b)) := by simp [World.cell?, hbq]
              obtain ⟨H0, H1⟩ := H bq b w es' c hcell hb
              refine .inl ⟨is, ?_⟩
              split at hk
              · have e0 : es' = #[] := by
                  match e : es'.toList, hrep with
                  | [], _ => exact Array.toList_inj.1 e
                  | _ :: _, hrep => exact hrep.elim
                refine (H0 e0).mono fun e w' hq' => ?_
                obtain ⟨rfl, hbw⟩ := hq'
                refine ⟨_, rfl, ?_⟩
                have hk : ∀ μ' I' u w', Sim G N μ' I' sl hp a w' → (av (.slice none 0 0)).rep μ' w' I' hp u → K (a.put dst u) w' := hk
                exact hk μ I _ w' (S.next ⟨S.heap.below hbw, S.heap.belowX hbw⟩) (a_rep _)
              · rename_i s n x
                obtain ⟨hc, hk⟩ := need_wp hk
                rw [Bool.and_eq_true] at hc
                obtain ⟨v, e0⟩ : ∃ v, es' = #[⟨.string s, v, n⟩] := by
                  match e : es'.toList, hrep with
                  | [⟨k, v, n'⟩], hrep =>
                    obtain ⟨⟨h1, h2, _⟩, _⟩ := hrep
                    simp only at h1 h2
                    subst h1; subst h2
                    exact ⟨v, Array.toList_inj.1 e⟩
                  | [], hrep => exact hrep.elim
                  | _ :: _ :: _, hrep => exact hrep.2.elim
                refine (H1 s v n e0 (by simpa [Nat.blt_eq] using hc.1) (by have := hc.2; rw [Nat.ble_eq] at this; simpa [lsU] using this)).mono fun e w' hq' => ?_
                obtain ⟨gb, cap, cur, t', rfl, hbw, hgb, hcur, hcap, hsz, htk⟩ := hq'
                refine ⟨_, rfl, Then.row S hbw hk hgb hcur hcap hsz rfl ?_ ?_⟩
                · intro _ _ _; rw [htk]; exact ⟨a_rep _, trivial⟩
                · rw [htk]; intro u hu; simp at hu; subst hu; rfl
              · exact hk.elim
            | [], hr => exact hr.elim
            | _ :: _ :: _, hr => exact hr.2.elim
          · exact hk.elim
      · exact hk.elim
  · exact hk.elim
end Go.XM
