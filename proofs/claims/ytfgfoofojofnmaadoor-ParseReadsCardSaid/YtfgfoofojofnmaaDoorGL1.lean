/- The tokens of a text as a plain function: what lex.one finds, and what lex.Scan makes of it. No memory and no program in sight. -/
import Derived.Test.YtfgfoofojofnmaaDoorGQF67
import Derived.Test.YtfgfoofojofnmaaDoorGQF73
import Derived.Test.YtfgfoofojofnmaaDoorGQF74
set_option linter.unusedVariables false
set_option linter.unusedSimpArgs false
namespace Go.Proofs.YtfgfoofojofnmaaDoor.Q
open Go.RowKit Go.Proofs.YtfgfoofojofnmaaDoorW.PrintWords Go.Proofs.YtfgfoofojofnmaaDoorW.PrintLast Go.Proofs.YtfgfoofojofnmaaDoorW.PrintMore
open Go.Proofs.YtfgfoofojofnmaaDoor.Hand

def bs (l : List UInt8) : ByteArray := ⟨l.toArray⟩
theorem bs_list (l : List UInt8) : (bs l).data.toList = l := by simp [bs]
theorem bs_size (l : List UInt8) : (bs l).size = l.length := by simp [bs, ByteArray.size]
theorem bs_of (s : ByteArray) : bs s.data.toList = s := by simp [bs]
theorem bs_extract (l : List UInt8) (a b : Nat) : (bs l).extract a b = bs ((l.take b).drop a) := by
  apply ByteArray.ext
  rw [ByteArray.data_extract]
  simp [bs, List.extract_eq_take_drop, List.drop_take]
theorem bs_toList (l : List UInt8) : (bs l).toList = l := (ByteArray.toList_eq _).trans (bs_list l)
theorem bs_get (c : UInt8) (r : List UInt8) (h : 0 < (bs (c :: r)).size) : (bs (c :: r))[0] = c := rfl

abbrev Tk := Int × ByteArray × Int × Int × Int × Int
def zeroT : Tk := (0, ⟨#[]⟩, 0, 0, 0, 0)
def oneL (c : UInt8) (r : List UInt8) : Option Tk :=
  if smallB c = true then
    if headN nameB (c :: r) ≤ 16 then some (1, bs ((c :: r).take (headN nameB (c :: r))), 0, 0, 0, (headN nameB (c :: r) : Int)) else some zeroT
  else if digitB c = true then
    if headN digitB (c :: r) = 1 ∨ (headN digitB (c :: r) ≤ 9 ∧ c ≠ 48) then (Lib.atoi ((c :: r).take (headN digitB (c :: r)))).bind fun v => some (2, ⟨#[]⟩, v, 0, 0, (headN digitB (c :: r) : Int)) else some zeroT
  else if c = 39 then
    if 0 ≤ Lib.indexByte r 39 then
      if 0 ≤ Lib.indexByte (r.take (Lib.indexByte r 39).toNat) 10 then some zeroT
      else some (3, bs (r.take (Lib.indexByte r 39).toNat), 0, 0, 0, (r.take (Lib.indexByte r 39).toNat).length + 2)
    else some zeroT
  else if c = 35 ∧ 16 < r.length + 1 then
    (sum_Parse.f 60 (bs (r.take 16))).bind fun t => if t.2 = 0 then some (4, ⟨#[]⟩, 0, t.1, 0, 17) else some zeroT
  else if (c :: r).take 2 = [46, 46] ∨ (c :: r).take 2 = [58, 58] then some (5, bs ((c :: r).take 2), 0, 0, 0, 2)
  else if signB c = true then some (5, bs [c], 0, 0, 0, 1) else some zeroT

theorem prefix_two (l : List UInt8) (a b : UInt8) : strings_HasPrefix.f (bs l) ⟨#[a, b]⟩ = some (decide (l.take 2 = [a, b])) := by
  simp only [strings_HasPrefix.f, stringslite_HasPrefix.f]
  have e2 : ((⟨#[a, b]⟩ : ByteArray).size : Int) = 2 := rfl
  rw [e2, bs_size]
  by_cases h : (2 : Int) ≤ l.length
  · rw [if_pos h, if_pos (by decide), if_pos h]
    simp only [Option.bind_some, Option.some.injEq]
    rw [show ((2 : Int)).toNat = 2 from rfl, bs_extract, bs_toList, List.drop_zero]
    rw [show (⟨#[a, b]⟩ : ByteArray).toList = [a, b] from bs_toList [a, b]]
    rw [Bool.eq_iff_iff]; simp
  · rw [if_neg h]
    simp only [Option.bind_some, Option.some.injEq]
    rw [eq_comm, decide_eq_false_iff_not]
    intro e
    have := congrArg List.length e
    simp at this
    omega
theorem one_list (c : UInt8) (r : List UInt8) (h : r.length < 140737488351232) : lex_one.f (bs (c :: r)) = oneL c r := by
  unfold lex_one.f
  rw [if_pos (by rw [bs_size]; simp; omega), dif_pos (by rw [bs_size]; simp), bs_get]
  unfold lex_one.g oneL
  have e1 : (bs (c :: r)).extract 1 (bs (c :: r)).size = bs r := by rw [bs_extract, bs_size]; simp
  have e17 : (bs (c :: r)).extract 1 17 = bs (r.take 16) := by rw [bs_extract]; simp
  rw [e1, e17, prefix_two, prefix_two]
  simp only [bs_list, bs_extract, bs_size, List.drop_zero, Option.bind_some, List.length_cons]
  simp only [zeroT]
  by_cases h1 : smallB c = true
  · rw [if_pos h1, if_pos h1]
  · rw [if_neg h1, if_neg h1]
    by_cases h2 : digitB c = true
    · rw [if_pos h2, if_pos h2]
    · rw [if_neg h2, if_neg h2]
      by_cases h3 : c = 39
      · rw [if_pos h3, if_pos h3]
      · rw [if_neg h3, if_neg h3]
        by_cases h4 : c = 35 ∧ 16 < r.length + 1
        · rw [if_pos h4, if_pos h4]
        · rw [if_neg h4, if_neg h4]
          by_cases h5 : (c :: r).take 2 = [46, 46]
          · rw [if_pos (by simpa using h5), if_pos (Or.inl h5)]
          · rw [if_neg (by simpa using h5)]
            by_cases h6 : (c :: r).take 2 = [58, 58]
            · rw [if_pos (by simpa using h6), if_pos (Or.inr h6)]
            · have h7 : ¬ ((c :: r).take 2 = [46, 46] ∨ (c :: r).take 2 = [58, 58]) := fun e => e.elim h5 h6
              rw [if_neg (by simpa using h6), if_neg h7]
              rfl

/-! ### atoi of digits, and what reads a hash -/
theorem digitVal_some (c : UInt8) (h : digitB c = true) : Lib.digitVal c = some (c.toNat - 48) := by
  simp only [digitB, Bool.and_eq_true, decide_eq_true_eq] at h
  simp [Lib.digitVal, h]
theorem decFrom_digits : ∀ (l : List UInt8) (acc : Nat), (∀ c ∈ l, digitB c = true) → Lib.decFrom acc l = some (l.foldl (fun a c => a * 10 + (c.toNat - 48)) acc)
  | [], acc, _ => rfl
  | c :: l, acc, h => by
    simp only [Lib.decFrom, digitVal_some c (h c (by simp)), List.foldl_cons]
    exact decFrom_digits l _ (fun x hx => h x (by simp [hx]))
theorem mem_tw {p : UInt8 → Bool} : ∀ {l : List UInt8} {c : UInt8}, c ∈ l.takeWhile p → p c = true
  | a :: l, c, h => by
    by_cases ha : p a = true
    · rw [List.takeWhile_cons_of_pos ha] at h
      rcases List.mem_cons.mp h with rfl | h
      · exact ha
      · exact mem_tw h
    · rw [List.takeWhile_cons_of_neg ha] at h
      simp at h
theorem head_all (p : UInt8 → Bool) (l : List UInt8) : ∀ c ∈ l.take (headN p l), p c = true := by
  intro c hc
  have e : l.take (headN p l) = l.takeWhile p := by
    unfold headN
    exact (List.prefix_iff_eq_take.mp (List.takeWhile_prefix p)).symm
  rw [e] at hc
  exact mem_tw hc
theorem head_pos (p : UInt8 → Bool) (c : UInt8) (r : List UInt8) (h : p c = true) : 1 ≤ headN p (c :: r) := by
  simp [headN, h]
theorem atoi_digits (c : UInt8) (r : List UInt8) (h : digitB c = true) :
    Lib.atoi ((c :: r).take (headN digitB (c :: r))) = some (((c :: r).take (headN digitB (c :: r))).foldl (fun a c => a * 10 + (c.toNat - 48)) 0 : Nat) := by
  have hp := head_pos digitB c r h
  have ha := head_all digitB (c :: r)
  obtain ⟨n, hn⟩ : ∃ n, headN digitB (c :: r) = n + 1 := ⟨headN digitB (c :: r) - 1, by omega⟩
  rw [hn] at ha ⊢
  rw [List.take_succ_cons] at ha ⊢
  have hb : digitB c = true := h
  simp only [digitB, Bool.and_eq_true, decide_eq_true_eq] at hb
  have h45 : (c == 45) = false := by
    rw [beq_eq_false_iff_ne]; rintro rfl; exact absurd hb.1 (by decide)
  have h43 : (c == 43) = false := by
    rw [beq_eq_false_iff_ne]; rintro rfl; exact absurd hb.1 (by decide)
  simp only [Lib.atoi, h45, h43, Bool.false_eq_true, if_false, Lib.decNat, List.isEmpty_cons]
  rw [decFrom_digits _ _ ha]
  rfl
theorem w64 {x : Int} (h0 : -9223372036854775808 ≤ x) (h : x < 9223372036854775808) : wrap64 x = x := by unfold wrap64; omega
theorem parse_total (l : List UInt8) (hl : l.length = 16) (d : Nat) : ∀ (k : Nat) (v : Int) (i : Nat), i ≤ 16 → 16 - i = d → 2 * d + 1 ≤ k → ∃ r, sum_Parse.l0 k (bs l) v 16 i = some r := by
  induction d with
  | zero =>
    intro k v i hi hd hk
    obtain ⟨k, rfl⟩ : ∃ m, k = m + 1 := ⟨k - 1, by omega⟩
    exact ⟨(v, 0), by simp only [sum_Parse.l0]; rw [if_neg (by omega)]⟩
  | succ d ih =>
    intro k v i hi hd hk
    obtain ⟨k, rfl⟩ : ∃ m, k = m + 2 := ⟨k - 2, by omega⟩
    have e : wrap64 ((i : Int) + 1) = ((i + 1 : Nat) : Int) := by rw [w64 (by omega) (by omega)]; omega
    have J : ∀ b, ∃ r, sum_Parse.j1 (k + 1) (bs l) v (bt (bs l) i) 16 i b = some r := by
      intro b
      simp only [sum_Parse.j1, e]
      split
      · exact ih k _ (i + 1) (by omega) (by omega) (by omega)
      · split
        · split
          · exact ih k _ (i + 1) (by omega) (by omega) (by omega)
          · exact ⟨_, rfl⟩
        · exact ⟨_, rfl⟩
    simp only [sum_Parse.l0]
    rw [if_pos (by omega), if_pos (by omega), if_pos (by rw [bs_size]; omega)]
    split
    · exact J _
    · exact J _
theorem parse_some (l : List UInt8) : ∃ r, sum_Parse.f 60 (bs l) = some r := by
  unfold sum_Parse.f
  by_cases h : ((bs l).size : Int) = 16
  · rw [if_pos h, h]
    exact parse_total l (by rw [bs_size] at h; omega) 16 60 0 0 (by omega) (by omega) (by omega)
  · exact ⟨_, if_neg h⟩

/-! ### one: it always answers; what a found token is -/
theorem idx_lt (r : List UInt8) (c : UInt8) (h : 0 ≤ Lib.indexByte r c) : (Lib.indexByte r c).toNat < r.length := by
  rcases idx_hi r c with h1 | ⟨rfl, h1⟩
  · omega
  · omega
theorem one_spec (c : UInt8) (r : List UInt8) : ∃ t : Tk, oneL c r = some t ∧ 0 ≤ t.2.2.2.2.2 ∧ t.2.2.2.2.2 ≤ r.length + 1 ∧ (t.2.2.2.2.2 = 0 → t = zeroT) ∧ (t.2.2.2.2.2 ≠ 0 → t.1 ≠ 0) := by
  have Z : ∃ t : Tk, some zeroT = some t ∧ 0 ≤ t.2.2.2.2.2 ∧ t.2.2.2.2.2 ≤ r.length + 1 ∧ (t.2.2.2.2.2 = 0 → t = zeroT) ∧ (t.2.2.2.2.2 ≠ 0 → t.1 ≠ 0) := ⟨zeroT, rfl, by simp [zeroT], by simp [zeroT]; omega, fun _ => rfl, fun h => absurd rfl h⟩
  have Y : ∀ (k : Int) (b : ByteArray) (v a p n : Int), k ≠ 0 → 1 ≤ n → n ≤ r.length + 1 → ∃ t : Tk, some (k, b, v, a, p, n) = some t ∧ 0 ≤ t.2.2.2.2.2 ∧ t.2.2.2.2.2 ≤ r.length + 1 ∧ (t.2.2.2.2.2 = 0 → t = zeroT) ∧ (t.2.2.2.2.2 ≠ 0 → t.1 ≠ 0) :=
    fun k b v a p n hk h1 h2 => ⟨(k, b, v, a, p, n), rfl, show 0 ≤ n by omega, h2, fun h => absurd (show n = 0 from h) (by omega), fun _ => hk⟩
  have hm : ∀ p, (headN p (c :: r) : Int) ≤ r.length + 1 := fun p => by have := headN_le p (c :: r); simp at this; omega
  unfold oneL
  split
  · rename_i h1
    have := head_pos nameB c r (by simp [nameB, h1])
    split
    · exact Y _ _ _ _ _ _ (by decide) (by omega) (hm _)
    · exact Z
  · split
    · rename_i h1 h2
      have := head_pos digitB c r h2
      split
      · rw [atoi_digits c r h2]
        exact Y _ _ _ _ _ _ (by decide) (by omega) (hm _)
      · exact Z
    · split
      · split
        · rename_i h
          have := idx_lt r 39 h
          split
          · exact Z
          · exact Y _ _ _ _ _ _ (by decide) (by omega) (by simp only [List.length_take]; omega)
        · exact Z
      · split
        · rename_i h
          obtain ⟨⟨v, e⟩, hp⟩ := parse_some (r.take 16)
          rw [hp, Option.bind_some]
          split
          · exact Y _ _ _ _ _ _ (by decide) (by omega) (by omega)
          · exact Z
        · split
          · rename_i h
            have : 2 ≤ r.length + 1 := by
              rcases h with h | h
              · have := congrArg List.length h; simp at this; omega
              · have := congrArg List.length h; simp at this; omega
            exact Y _ _ _ _ _ _ (by decide) (by omega) (by omega)
          · split
            · exact Y _ _ _ _ _ _ (by decide) (by omega) (by omega)
            · exact Z

/-! ### a token that was found stays where a blank and more is behind the text -/
def nOf (t : Tk) : Nat := t.2.2.2.2.2.toNat
def tokOf (t : Tk) (i : Nat) : S39 := ⟨t.1, t.2.1, t.2.2.1, t.2.2.2.1, i⟩
def oneT (c : UInt8) (r : List UInt8) : Tk := (oneL c r).getD zeroT
theorem oneT_eq (c : UInt8) (r : List UInt8) : oneL c r = some (oneT c r) := by
  obtain ⟨t, h, _⟩ := one_spec c r
  rw [oneT, h]; rfl
theorem oneT_spec (c : UInt8) (r : List UInt8) : 0 ≤ (oneT c r).2.2.2.2.2 ∧ (oneT c r).2.2.2.2.2 ≤ r.length + 1 ∧ ((oneT c r).2.2.2.2.2 = 0 → oneT c r = zeroT) ∧ ((oneT c r).2.2.2.2.2 ≠ 0 → (oneT c r).1 ≠ 0) := by
  obtain ⟨t, h, h2⟩ := one_spec c r
  have : oneT c r = t := by rw [oneT, h]; rfl
  rw [this]; exact h2
theorem nOf_eq (c : UInt8) (r : List UInt8) : (nOf (oneT c r) : Int) = (oneT c r).2.2.2.2.2 := Int.toNat_of_nonneg (oneT_spec c r).1
theorem nOf_le (c : UInt8) (r : List UInt8) : nOf (oneT c r) ≤ r.length + 1 := by have := (oneT_spec c r).2.1; have := nOf_eq c r; omega
/-- The tokens of a text, from place i on. -/
def scanT (l : List UInt8) (i : Nat) (out : List S39) : List S39 × Int × Int :=
  match l with
  | [] => (out, 0, 0)
  | c :: r =>
    if c = 32 ∨ c = 9 then scanT r (i + 1) out
    else if _h : nOf (oneT c r) = 0 then ([], i, 30)
    else scanT ((c :: r).drop (nOf (oneT c r))) (i + nOf (oneT c r)) (out ++ [tokOf (oneT c r) i])
termination_by l.length
decreasing_by
  · simp
  · simp only [List.length_drop, List.length_cons]; omega
theorem scanT_nil (i : Nat) (out : List S39) : scanT [] i out = (out, 0, 0) := by unfold scanT; rfl
theorem scanT_blank {c : UInt8} (h : c = 32 ∨ c = 9) (r : List UInt8) (i : Nat) (out : List S39) : scanT (c :: r) i out = scanT r (i + 1) out := by
  rw [scanT, if_pos h]
theorem scanT_bad {c : UInt8} (h : ¬ (c = 32 ∨ c = 9)) {r : List UInt8} (h0 : nOf (oneT c r) = 0) (i : Nat) (out : List S39) : scanT (c :: r) i out = ([], (i : Int), 30) := by
  rw [scanT, if_neg h, dif_pos h0]
theorem scanT_tok {c : UInt8} (h : ¬ (c = 32 ∨ c = 9)) {r : List UInt8} (h0 : nOf (oneT c r) ≠ 0) (i : Nat) (out : List S39) : scanT (c :: r) i out = scanT ((c :: r).drop (nOf (oneT c r))) (i + nOf (oneT c r)) (out ++ [tokOf (oneT c r) i]) := by
  rw [scanT, if_neg h, dif_neg h0]

attribute [local irreducible] oneT nOf
theorem bt_drop (s : ByteArray) (i : Nat) (c : UInt8) (r : List UInt8) (h : s.data.toList.drop i = c :: r) : bt s (i : Int) = (c.toNat : Int) := by
  have hl : i < s.size := by
    have := congrArg List.length h
    simp at this
    have e : s.data.size = s.size := rfl
    omega
  have h2 : s.data.toList[i]'(by simpa using hl) = c := by
    have := List.drop_eq_getElem_cons (l := s.data.toList) (i := i) (by simpa using hl)
    rw [this] at h
    exact (List.cons.inj h).1
  unfold bt
  rw [dif_pos (by simpa using hl)]
  simp only [Int.toNat_natCast]
  rw [← get_data s i hl, h2]
theorem byte_is (c : UInt8) (n : Nat) (hn : n < 256) : ((c.toNat : Int) = n) ↔ c = UInt8.ofNat n := by
  constructor
  · intro h
    apply UInt8.toNat_inj.1
    simp
    omega
  · rintro rfl
    simp
    omega
end Go.Proofs.YtfgfoofojofnmaaDoor.Q
