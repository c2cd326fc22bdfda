/- The document's reading, by a table on a stack, as a plain function; it answers what the program's reader answers. -/
import Derived.Test.YtfgfoofojofnmaaDoorG7
set_option linter.unusedVariables false
set_option linter.unusedSimpArgs false
namespace Go.Proofs.YtfgfoofojofnmaaDoor.Q
open Go.RowKit Go.Proofs.YtfgfoofojofnmaaDoorW.PrintWords Go.Proofs.YtfgfoofojofnmaaDoorW.PrintLast Go.Proofs.YtfgfoofojofnmaaDoorW.PrintMore
set_option linter.unusedVariables false
set_option linter.unusedSimpArgs false
open Go.Proofs.YtfgfoofojofnmaaDoor.Hand
namespace Mc
/-- Signs that hold at least so tightly are done (the last one first). -/
def rdS (lv : Int) : List S44 → List S104 → List S44 × List S104
  | ns, [] => (ns, [])
  | ns, w :: ws =>
    if w.f3 = true ∨ levelT w.f0 < lv then (ns, w :: ws)
    else if w.f0 = 11 then
      match ns with
      | a :: r => rdS lv (nd 11 [a] w.f1 :: r) ws
      | [] => ([], [])
    else
      match ns with
      | b :: a :: r => rdS lv (nd w.f0 [a, b] w.f1 :: r) ws
      | _ => ([], [])
/-- Is a range's second half being read, or just read? -/
def rng : List S104 → Bool
  | [] => false
  | w :: ws => if w.f3 = true ∨ levelT w.f0 < 3 then false else if levelT w.f0 = 3 then true else rng ws
/-- Is the innermost bracket a call's? -/
def inC : List S104 → Bool
  | [] => false
  | w :: ws => if w.f3 = true then !(w.f2.toList == []) else inC ws
def opT (l : List UInt8) : Int := if l = [124] then 6 else if l = [45] then 7 else if l = [38] then 8 else if l = [46, 46] then 9 else if l = [58, 58] then 10 else 0
/-- The innermost bracket, or call, is closed. -/
def cl (ns : List S44) (ws : List S104) : Option (List S44 × List S104) :=
  match (rdS 1 ns ws).2 with
  | [] => none
  | w :: r => some (if w.f2.toList = [] then (rdS 1 ns ws).1 else ⟨5, w.f2, 0, 0, ((rdS 1 ns ws).1.take ((rdS 1 ns ws).1.length - w.f4.toNat)).reverse, w.f1⟩ :: (rdS 1 ns ws).1.drop ((rdS 1 ns ws).1.length - w.f4.toNat), r)
def wC (t : S39) (ns : List S44) : S104 := ⟨0, t.f4, t.f1, true, (ns.length : Int)⟩
def wB (ns : List S44) : S104 := ⟨0, 0, ⟨#[]⟩, true, (ns.length : Int)⟩
def wO (op : Int) (t : S39) : S104 := ⟨op, t.f4, ⟨#[]⟩, false, 0⟩
abbrev Out := S44 × Int × Int
def err (p : Int) : Out := (z44, p, 31)
def isS (l : List UInt8) (t : S39) : Bool := (t.f0 == 5) && (t.f1.toList == l)
def endM (ev : Int) (want : Bool) (ns : List S44) (ws : List S104) : Out :=
  if want = true then err ev
  else if (rdS 1 ns ws).2 = [] then
    match (rdS 1 ns ws).1 with
    | x :: _ => if 24 < depthT x then (z44, 0, 32) else (x, 0, 0)
    | [] => (z44, 0, 0)
  else err ev
/-- The machine: tokens, is an operand wanted?, nodes and what waits, the last ones first. -/
def mach (ev : Int) (ts : List S39) (want : Bool) (ns : List S44) (ws : List S104) : Out :=
  match ts with
  | [] => endM ev want ns ws
  | t :: r =>
    if want = true then
      if t.f0 = 1 then
        match r with
        | [] => mach ev [] false (leafN t :: ns) ws
        | u :: r1 =>
          if isS [40] u = true then
            match r1 with
            | [] => mach ev [] true ns (wC t ns :: ws)
            | v :: r2 =>
              if isS [41] v = true then
                match cl ns (wC t ns :: ws) with
                | some p => mach ev r2 false p.1 p.2
                | none => err v.f4
              else mach ev (v :: r2) true ns (wC t ns :: ws)
          else mach ev (u :: r1) false (leafN t :: ns) ws
      else if t.f0 ≠ 5 then mach ev r false (leafN t :: ns) ws
      else if t.f1.toList = [40] then mach ev r true ns (wB ns :: ws)
      else if t.f1.toList = [33] then mach ev r true ns (wO 11 t :: ws)
      else err t.f4
    else if t.f0 ≠ 5 then err t.f4
    else if t.f1.toList = [94] then
      match ns with
      | [] => err 0
      | a :: ns' =>
        match r with
        | [] => mach ev [] false (nd 12 [a] t.f4 :: ns') ws
        | u :: r1 =>
          if u.f0 = 2 then
            if u.f2 = 0 then err u.f4 else mach ev r1 false (⟨12, ⟨#[]⟩, u.f2, 0, [a], t.f4⟩ :: ns') ws
          else mach ev (u :: r1) false (nd 12 [a] t.f4 :: ns') ws
    else if opT t.f1.toList ≠ 0 ∧ (levelT (opT t.f1.toList) ≠ 3 ∨ rng ws = false) then
      mach ev r true (rdS (levelT (opT t.f1.toList)) ns ws).1 (wO (opT t.f1.toList) t :: (rdS (levelT (opT t.f1.toList)) ns ws).2)
    else if t.f1.toList = [41] then
      match cl ns ws with
      | some p => mach ev r false p.1 p.2
      | none => err t.f4
    else if t.f1.toList = [44] ∧ inC ws = true then mach ev r true (rdS 1 ns ws).1 (rdS 1 ns ws).2
    else err t.f4
termination_by ts.length
decreasing_by all_goals (simp_wf; try omega)
/-! ### what a sign is -/
theorem sg_some {s : ByteArray} {ts : List S39} {b : Bool} {q p : Int} {s1 : St} (h : signAt s ⟨ts, b, q⟩ = some (p, s1)) : ∃ t r, ts = t :: r ∧ t.f0 = 5 ∧ t.f1.toList = s.toList ∧ p = t.f4 ∧ s1 = ⟨r, b, q⟩ := by
  cases ts with
  | nil => exact absurd h (by simp [signAt])
  | cons t r =>
    simp only [signAt] at h
    split at h
    · rename_i hc
      rw [Bool.and_eq_true] at hc
      injection h with h; injection h with h1 h2
      exact ⟨t, r, rfl, beq_iff_eq.1 hc.1, beq_iff_eq.1 hc.2, h1.symm, h2.symm⟩
    · exact absurd h (by simp)
theorem sg_none {s : ByteArray} {t : S39} {r : List S39} {b : Bool} {q : Int} (h : signAt s ⟨t :: r, b, q⟩ = none) (h5 : t.f0 = 5) : t.f1.toList ≠ s.toList := by
  intro e
  simp only [signAt] at h
  rw [if_pos (by rw [h5, e]; simp)] at h
  exact absurd h (by simp)
theorem nos_of {s : ByteArray} {ts : List S39} {b : Bool} {q : Int} (h : signAt s ⟨ts, b, q⟩ = none) : NoS s ts := by
  intro b' q'
  cases ts with
  | nil => rfl
  | cons t r =>
    simp only [signAt] at h ⊢
    split at h
    · exact absurd h (by simp)
    · rename_i hc; rw [if_neg hc]
/-! ### the machine's steps -/
theorem m_nil (ev : Int) (want : Bool) (ns : List S44) (ws : List S104) : mach ev [] want ns ws = endM ev want ns ws := by rw [mach.eq_def]
theorem m_nosign {ev : Int} {t : S39} {r : List S39} {ns : List S44} {ws : List S104} (h : t.f0 ≠ 5) : mach ev (t :: r) false ns ws = err t.f4 := by
  rw [mach.eq_def]; dsimp only; rw [if_neg (by decide), if_pos h]
theorem m_up0 {ev : Int} {t : S39} {r : List S39} {a : S44} {ns : List S44} {ws : List S104} (h : t.f0 = 5) (h2 : t.f1.toList = [94]) (hn : NoNum r) : mach ev (t :: r) false (a :: ns) ws = mach ev r false (nd 12 [a] t.f4 :: ns) ws := by
  rw [mach.eq_def]; dsimp only; rw [if_neg (by decide), if_neg (fun e => e h), if_pos h2]
  cases r with
  | nil => rfl
  | cons u r1 => exact if_neg (hn u r1 rfl)
theorem m_upz {ev : Int} {t u : S39} {r : List S39} {a : S44} {ns : List S44} {ws : List S104} (h : t.f0 = 5) (h2 : t.f1.toList = [94]) (hu : u.f0 = 2) (hz : u.f2 = 0) : mach ev (t :: u :: r) false (a :: ns) ws = err u.f4 := by
  rw [mach.eq_def]; dsimp only; rw [if_neg (by decide), if_neg (fun e => e h), if_pos h2]
  show (if u.f0 = 2 then _ else _) = _
  rw [if_pos hu, if_pos hz]
theorem m_upn {ev : Int} {t u : S39} {r : List S39} {a : S44} {ns : List S44} {ws : List S104} (h : t.f0 = 5) (h2 : t.f1.toList = [94]) (hu : u.f0 = 2) (hz : u.f2 ≠ 0) : mach ev (t :: u :: r) false (a :: ns) ws = mach ev r false (⟨12, ⟨#[]⟩, u.f2, 0, [a], t.f4⟩ :: ns) ws := by
  rw [mach.eq_def]; dsimp only; rw [if_neg (by decide), if_neg (fun e => e h), if_pos h2]
  show (if u.f0 = 2 then _ else _) = _
  rw [if_pos hu, if_neg hz]
theorem m_op {ev : Int} {t : S39} {r : List S39} {ns : List S44} {ws : List S104} {op : Int} (h : t.f0 = 5) (ho : opT t.f1.toList = op) (h0 : op ≠ 0) (hr : levelT op ≠ 3 ∨ rng ws = false) : mach ev (t :: r) false ns ws = mach ev r true (rdS (levelT op) ns ws).1 (wO op t :: (rdS (levelT op) ns ws).2) := by
  have h94 : t.f1.toList ≠ [94] := by intro e; rw [e] at ho; exact h0 ho.symm
  rw [mach.eq_def]; dsimp only; rw [if_neg (by decide), if_neg (fun e => e h), if_neg h94, if_pos ⟨by rw [ho]; exact h0, by rw [ho]; exact hr⟩, ho]
theorem m_close {ev : Int} {t : S39} {r : List S39} {ns : List S44} {ws : List S104} (h : t.f0 = 5) (h2 : t.f1.toList = [41]) : mach ev (t :: r) false ns ws = match cl ns ws with
    | some p => mach ev r false p.1 p.2
    | none => err t.f4 := by
  rw [mach.eq_def]; dsimp only; rw [if_neg (by decide), if_neg (fun e => e h), if_neg (by rw [h2]; decide), if_neg (by rw [h2]; intro e; exact e.1 rfl), if_pos h2]
theorem m_comma {ev : Int} {t : S39} {r : List S39} {ns : List S44} {ws : List S104} (h : t.f0 = 5) (h2 : t.f1.toList = [44]) (hc : inC ws = true) : mach ev (t :: r) false ns ws = mach ev r true (rdS 1 ns ws).1 (rdS 1 ns ws).2 := by
  rw [mach.eq_def]; dsimp only; rw [if_neg (by decide), if_neg (fun e => e h), if_neg (by rw [h2]; decide), if_neg (by rw [h2]; intro e; exact e.1 rfl), if_neg (by rw [h2]; decide), if_pos ⟨h2, hc⟩]
/-- What can't go on here. -/
theorem m_bad {ev : Int} {t : S39} {r : List S39} {ns : List S44} {ws : List S104} (hu : NoS (str1 94) (t :: r)) (ho : t.f0 = 5 → opT t.f1.toList ≠ 0 → levelT (opT t.f1.toList) = 3 ∧ rng ws = true) (hc : NoS (str1 41) (t :: r)) (hm : t.f0 = 5 → t.f1.toList = [44] → inC ws = false) : mach ev (t :: r) false ns ws = err t.f4 := by
  by_cases h : t.f0 = 5
  · have h94 := sg_none (hu false 0) h
    rw [l1] at h94
    have h41 := sg_none (hc false 0) h
    rw [l1] at h41
    rw [mach.eq_def]; dsimp only; rw [if_neg (by decide), if_neg (fun e => e h), if_neg h94, if_neg (fun e => by
      have := ho h e.1
      rcases e.2 with e2 | e2
      · exact e2 this.1
      · rw [this.2] at e2; exact absurd e2 (by decide)), if_neg h41, if_neg (fun e => by have := hm h e.1; rw [this] at e; exact absurd e.2 (by decide))]
  · exact m_nosign h
theorem m_not {ev : Int} {t : S39} {r : List S39} {ns : List S44} {ws : List S104} (h : t.f0 = 5) (h2 : t.f1.toList = [33]) : mach ev (t :: r) true ns ws = mach ev r true ns (wO 11 t :: ws) := by
  rw [mach.eq_def]; dsimp only; rw [if_pos rfl, if_neg (by rw [h]; decide), if_neg (fun e => e h), if_neg (by rw [h2]; decide), if_pos h2]
theorem m_open {ev : Int} {t : S39} {r : List S39} {ns : List S44} {ws : List S104} (h : t.f0 = 5) (h2 : t.f1.toList = [40]) : mach ev (t :: r) true ns ws = mach ev r true ns (wB ns :: ws) := by
  rw [mach.eq_def]; dsimp only; rw [if_pos rfl, if_neg (by rw [h]; decide), if_neg (fun e => e h), if_pos h2]
theorem m_want {ev : Int} {t : S39} {r : List S39} {ns : List S44} {ws : List S104} (h : t.f0 = 5) (h2 : t.f1.toList ≠ [40]) (h3 : t.f1.toList ≠ [33]) : mach ev (t :: r) true ns ws = err t.f4 := by
  rw [mach.eq_def]; dsimp only; rw [if_pos rfl, if_neg (by rw [h]; decide), if_neg (fun e => e h), if_neg h2, if_neg h3]
theorem m_leaf {ev : Int} {t : S39} {r : List S39} {ns : List S44} {ws : List S104} (h : t.f0 ≠ 5) (h2 : t.f0 ≠ 1) : mach ev (t :: r) true ns ws = mach ev r false (leafN t :: ns) ws := by
  rw [mach.eq_def]; dsimp only; rw [if_pos rfl, if_neg h2, if_pos h]
theorem isS_of {l : List UInt8} {t : S39} (h : t.f0 = 5) (h2 : t.f1.toList = l) : isS l t = true := by unfold isS; rw [h, h2]; simp
theorem isS_no {s : ByteArray} {l : List UInt8} (hl : s.toList = l) {t : S39} {r : List S39} (h : NoS s (t :: r)) : ¬ isS l t = true := by
  intro e
  unfold isS at e
  rw [Bool.and_eq_true] at e
  exact sg_none (h false 0) (beq_iff_eq.1 e.1) (by rw [hl]; exact beq_iff_eq.1 e.2)
theorem m_name {ev : Int} {t : S39} {r : List S39} {ns : List S44} {ws : List S104} (h : t.f0 = 1) (h2 : NoS (str1 40) r) : mach ev (t :: r) true ns ws = mach ev r false (leafN t :: ns) ws := by
  rw [mach.eq_def]; dsimp only; rw [if_pos rfl, if_pos h]
  cases r with
  | nil => rfl
  | cons u r1 => exact if_neg (isS_no (l1 40) h2)
theorem m_call0 {ev : Int} {t u v : S39} {r : List S39} {ns : List S44} {ws : List S104} (h : t.f0 = 1) (hu : isS [40] u = true) (hv : isS [41] v = true) : mach ev (t :: u :: v :: r) true ns ws = match cl ns (wC t ns :: ws) with
    | some p => mach ev r false p.1 p.2
    | none => err v.f4 := by
  rw [mach.eq_def]; dsimp only; rw [if_pos rfl, if_pos h]
  show (if isS [40] u = true then _ else _) = _
  rw [if_pos hu]
  show (if isS [41] v = true then _ else _) = _
  rw [if_pos hv]
theorem m_call {ev : Int} {t u : S39} {r : List S39} {ns : List S44} {ws : List S104} (h : t.f0 = 1) (hu : isS [40] u = true) (hv : NoS (str1 41) r) : mach ev (t :: u :: r) true ns ws = mach ev r true ns (wC t ns :: ws) := by
  rw [mach.eq_def]; dsimp only; rw [if_pos rfl, if_pos h]
  show (if isS [40] u = true then _ else _) = _
  rw [if_pos hu]
  cases r with
  | nil => rfl
  | cons v r2 => exact if_neg (isS_no (l1 41) hv)
/-! ### pending signs -/
theorem rd_keep {lv : Int} {ns : List S44} {ws : List S104} (h : ws = [] ∨ ∃ w r, ws = w :: r ∧ (w.f3 = true ∨ levelT w.f0 < lv)) : rdS lv ns ws = (ns, ws) := by
  rcases h with rfl | ⟨w, r, rfl, h⟩
  · cases ns <;> rfl
  · rw [rdS.eq_def]; dsimp only; rw [if_pos h]
theorem rd_not {lv : Int} {a : S44} {ns : List S44} {w : S104} {ws : List S104} (h3 : w.f3 = false) (h0 : w.f0 = 11) (hl : lv ≤ 4) : rdS lv (a :: ns) (w :: ws) = rdS lv (nd 11 [a] w.f1 :: ns) ws := by
  rw [rdS.eq_def]; dsimp only; rw [if_neg (by rw [h3, h0]; show ¬ (false = true ∨ (4 : Int) < lv); rintro (h | h); exact absurd h (by decide); omega), if_pos h0]
theorem rd_two {lv : Int} {a b : S44} {ns : List S44} {w : S104} {ws : List S104} (h3 : w.f3 = false) (h0 : w.f0 ≠ 11) (hl : lv ≤ levelT w.f0) : rdS lv (b :: a :: ns) (w :: ws) = rdS lv (nd w.f0 [a, b] w.f1 :: ns) ws := by
  rw [rdS.eq_def]; dsimp only; rw [if_neg (by rw [h3]; rintro (h | h); exact absurd h (by decide); omega), if_neg h0]
/-- Ahead of a part that holds together by less than v, or of none. -/
def Low (v : Int) (ws : List S104) : Prop := ws = [] ∨ ∃ w r, ws = w :: r ∧ (w.f3 = true ∨ levelT w.f0 < v)
theorem low_rng {ws : List S104} (h : Low 3 ws) : rng ws = false := by
  rcases h with rfl | ⟨w, r, rfl, h⟩
  · rfl
  · rw [rng, if_pos h]
theorem Low.mono {v v' : Int} {ws : List S104} (h : Low v ws) (hv : v ≤ v') : Low v' ws := by
  rcases h with rfl | ⟨w, r, rfl, h | h⟩
  · exact .inl rfl
  · exact .inr ⟨w, r, rfl, .inl h⟩
  · exact .inr ⟨w, r, rfl, .inr (by omega)⟩
theorem rd_low {v lv : Int} {ns : List S44} {ws : List S104} (h : Low v ws) (hv : v ≤ lv) : rdS lv ns ws = (ns, ws) := rd_keep (h.mono hv)
/-- The nodes ns' and the signs ws' that wait come to x over ns and ws, once a sign that holds by m, or less, is met. -/
structure Rep (m : Int) (ns' : List S44) (ws' : List S104) (x : S44) (ns : List S44) (ws : List S104) : Prop where
  pre : ∃ ps, ws' = ps ++ ws ∧ ∀ w ∈ ps, w.f3 = false
  red : ∀ lv, 1 ≤ lv → lv ≤ m → rdS lv ns' ws' = rdS lv (x :: ns) ws
theorem Rep.refl (m : Int) (x : S44) (ns : List S44) (ws : List S104) : Rep m (x :: ns) ws x ns ws := ⟨⟨[], rfl, fun w h => absurd h (by simp)⟩, fun _ _ _ => rfl⟩
theorem Rep.mono {m m' : Int} {ns' : List S44} {ws' : List S104} {x : S44} {ns : List S44} {ws : List S104} (h : Rep m ns' ws' x ns ws) (hm : m' ≤ m) : Rep m' ns' ws' x ns ws := ⟨h.pre, fun lv h1 h2 => h.red lv h1 (by omega)⟩
/-- Over one more sign that waits. -/
theorem Rep.over {m m' : Int} {ns' ns2 ns : List S44} {ws' : List S104} {y z : S44} {w : S104} {ws : List S104} (h : Rep m ns' ws' y ns2 (w :: ws)) (hw : w.f3 = false) (hm : m' ≤ m) (hr : ∀ lv, 1 ≤ lv → lv ≤ m' → rdS lv (y :: ns2) (w :: ws) = rdS lv (z :: ns) ws) : Rep m' ns' ws' z ns ws := by
  obtain ⟨⟨ps, e, hp⟩, hd⟩ := h
  refine ⟨⟨ps ++ [w], by rw [e]; simp, fun x hx => ?_⟩, fun lv h1 h2 => (hd lv h1 (by omega)).trans (hr lv h1 h2)⟩
  rcases List.mem_append.1 hx with hx | hx
  · exact hp x hx
  · rw [List.mem_singleton] at hx; rw [hx]; exact hw
theorem inC_pre {ps ws : List S104} (hp : ∀ w ∈ ps, w.f3 = false) : inC (ps ++ ws) = inC ws := by
  induction ps with
  | nil => rfl
  | cons w ps ih =>
    rw [List.cons_append, inC, if_neg (by rw [hp w (by simp)]; decide)]
    exact ih (fun x hx => hp x (List.mem_cons_of_mem _ hx))
/-- What may come next, behind a part that holds together by l. -/
structure Nx (l : Nat) (ws' : List S104) (ts : List S39) : Prop where
  up : NoS (str1 94) ts
  dots : l ≤ 3 → (NoS (str2 46 46) ts ∧ NoS (str2 58 58) ts) ∨ rng ws' = true
  amp : l ≤ 2 → NoS (str1 38) ts
  bar : l ≤ 1 → NoS (str1 124) ts ∧ NoS (str1 45) ts
def Bad (C : S44 × St → Out) : Prop := ∀ x st, st.bad = true → st.ts = [] → C (x, st) = err st.pos
/-- C tells what comes of the machine behind a part. -/
structure Rl (l : Nat) (m : Int) (ev : Int) (L : Nat) (ns : List S44) (ws : List S104) (C : S44 × St → Out) : Prop where
  bad : Bad C
  go : ∀ x ts q ns' ws', ts.length ≤ L → (∀ t ∈ ts, TokOk t) → Rep m ns' ws' x ns ws → Nx l ws' ts → (4 ≤ l → rng ws' = rng ws) → mach ev ts false ns' ws' = C (x, ⟨ts, false, q⟩)
structure RA (ev : Int) (L : Nat) (ns : List S44) (ws : List S104) (C : S44 × St → Out) : Prop where
  bad : Bad C
  go : ∀ x ts q, ts.length ≤ L → (∀ t ∈ ts, TokOk t) → mach ev ts false (x :: ns) ws = C (x, ⟨ts, false, q⟩)
theorem Rl.mono {l : Nat} {m ev : Int} {L L' : Nat} {ns : List S44} {ws : List S104} {C : S44 × St → Out} (h : Rl l m ev L ns ws C) (hL : L' ≤ L) : Rl l m ev L' ns ws C := ⟨h.bad, fun x ts q ns' ws' h1 => h.go x ts q ns' ws' (by omega)⟩
theorem RA.mono {ev : Int} {L L' : Nat} {ns : List S44} {ws : List S104} {C : S44 × St → Out} (h : RA ev L ns ws C) (hL : L' ≤ L) : RA ev L' ns ws C := ⟨h.bad, fun x ts q h1 => h.go x ts q (by omega)⟩
theorem sign_bad0 {s : ByteArray} {st : St} (h : st.ts = []) : signAt s st = none := by
  obtain ⟨ts, b, q⟩ := st
  simp only at h
  subst h
  rfl
theorem fail_err {ev : Int} {C : S44 × St → Out} (hb : Bad C) (ts : List S39) (q : Int) : C (z44, failS ev ⟨ts, false, q⟩) = err (match ts with | [] => ev | t :: _ => t.f4) := by
  rw [hb _ _ (failS_bad _ _) (failS_ts _ _)]
  rfl
theorem op_of {l : List UInt8} (h : opT l ≠ 0) : l = [124] ∨ l = [45] ∨ l = [38] ∨ l = [46, 46] ∨ l = [58, 58] := by
  unfold opT at h
  by_cases h1 : l = [124]
  · exact .inl h1
  by_cases h2 : l = [45]
  · exact .inr (.inl h2)
  by_cases h3 : l = [38]
  · exact .inr (.inr (.inl h3))
  by_cases h4 : l = [46, 46]
  · exact .inr (.inr (.inr (.inl h4)))
  by_cases h5 : l = [58, 58]
  · exact .inr (.inr (.inr (.inr h5)))
  rw [if_neg h1, if_neg h2, if_neg h3, if_neg h4, if_neg h5] at h
  exact absurd rfl h
/-- Behind a whole expression: what is no ')' and no ',' of a call can't go on. -/
theorem m_bad1 {ev : Int} {t : S39} {r : List S39} {ns' : List S44} {ws' : List S104} (hx : Nx 1 ws' (t :: r)) (hc : NoS (str1 41) (t :: r)) (hm : NoS (str1 44) (t :: r) ∨ inC ws' = false) : mach ev (t :: r) false ns' ws' = err t.f4 := by
  refine m_bad hx.up (fun h ho => ?_) hc (fun h e => ?_)
  · rcases op_of ho with e | e | e | e | e
    · exact absurd e (by have := sg_none ((hx.bar (by decide)).1 false 0) h; rw [l1] at this; exact this)
    · exact absurd e (by have := sg_none ((hx.bar (by decide)).2 false 0) h; rw [l1] at this; exact this)
    · exact absurd e (by have := sg_none (hx.amp (by decide) false 0) h; rw [l1] at this; exact this)
    · refine ⟨by rw [e]; rfl, ?_⟩
      rcases hx.dots (by decide) with hd | hd
      · exact absurd e (by have := sg_none (hd.1 false 0) h; rw [l2] at this; exact this)
      · exact hd
    · refine ⟨by rw [e]; rfl, ?_⟩
      rcases hx.dots (by decide) with hd | hd
      · exact absurd e (by have := sg_none (hd.2 false 0) h; rw [l2] at this; exact this)
      · exact hd
  · rcases hm with hm | hm
    · exact absurd e (by have := sg_none (hm false 0) h; rw [l1] at this; exact this)
    · exact hm
end Mc
end Go.Proofs.YtfgfoofojofnmaaDoor.Q
namespace Go.Proofs.YtfgfoofojofnmaaDoor.Q
open Go.RowKit Go.Proofs.YtfgfoofojofnmaaDoorW.PrintWords Go.Proofs.YtfgfoofojofnmaaDoorW.PrintLast Go.Proofs.YtfgfoofojofnmaaDoorW.PrintMore
set_option linter.unusedVariables false
set_option linter.unusedSimpArgs false
open Go.Proofs.YtfgfoofojofnmaaDoor.Hand
namespace Mc
theorem toks_tail {t : S39} {r : List S39} (h : ∀ x ∈ t :: r, TokOk x) : ∀ x ∈ r, TokOk x := fun x hx => h x (List.mem_cons_of_mem _ hx)
/-! ### what stands behind an operand -/
theorem up_go {ev : Int} {ns : List S44} {ws : List S104} {C : S44 × St → Out} {L : Nat} (hC : Rl 4 3 ev L ns ws C) : ∀ (n : Nat) (x : S44) (ts : List S39) (q : Int) (k : Nat), ts.length ≤ n → ts.length ≤ L → (∀ t ∈ ts, TokOk t) → ts.length ≤ k → mach ev ts false (x :: ns) ws = C (upL ev k x ⟨ts, false, q⟩) := by
  intro n
  induction n with
  | zero =>
    intro x ts q k hn hL hT hk
    have : ts = [] := List.eq_nil_of_length_eq_zero (by omega)
    subst this
    rw [upL_none rfl]
    exact hC.go x [] q _ _ hL hT (Rep.refl _ _ _ _) ⟨nos_nil _, fun h => absurd h (by decide), fun h => absurd h (by decide), fun h => absurd h (by decide)⟩ (fun _ => rfl)
  | succ n ih =>
    intro x ts q k hn hL hT hk
    rcases h : signAt (str1 94) ⟨ts, false, q⟩ with _ | ⟨p, s1⟩
    · rw [upL_none h]
      exact hC.go x ts q _ _ hL hT (Rep.refl _ _ _ _) ⟨nos_of h, fun h => absurd h (by decide), fun h => absurd h (by decide), fun h => absurd h (by decide)⟩ (fun _ => rfl)
    · obtain ⟨t, r, rfl, h5, h94, rfl, rfl⟩ := sg_some h
      rw [l1] at h94
      have hr : r.length ≤ n := by simp only [List.length_cons] at hn; omega
      have hL' : r.length ≤ L := by simp only [List.length_cons] at hL; omega
      obtain ⟨k, rfl⟩ : ∃ k', k = k' + 1 := ⟨k - 1, by simp only [List.length_cons] at hk; omega⟩
      have hk' : r.length ≤ k := by simp only [List.length_cons] at hk; omega
      cases r with
      | nil =>
        rw [upL_nil h, m_up0 h5 h94 (fun t r e => absurd e (by simp))]
        exact ih _ [] q k hr hL' (toks_tail hT) hk'
      | cons u r1 =>
        by_cases hu : u.f0 = 2
        · by_cases hz : u.f2 = 0
          · rw [upL_zero h hu hz, m_upz h5 h94 hu hz, fail_err hC.bad]
          · rw [upL_num h hu hz, m_upn h5 h94 hu hz]
            refine ih _ r1 q k (by simp only [List.length_cons] at hr; omega) (by simp only [List.length_cons] at hL'; omega) (toks_tail (toks_tail hT)) (by simp only [List.length_cons] at hk'; omega)
        · rw [upL_other h hu, m_up0 h5 h94 (fun t r e => by injection e with e1 e2; rw [← e1]; exact hu)]
          exact ih _ (u :: r1) q k hr hL' (toks_tail hT) hk'
theorem up_bad {ev : Int} {C : S44 × St → Out} (hb : Bad C) (k : Nat) : Bad (fun p => C (upL ev k p.1 p.2)) := by
  intro x st h1 h2
  show C (upL ev k x st) = _
  rw [upL_none (sign_bad0 h2)]
  exact hb _ _ h1 h2
abbrev EP (ev : Int) (n : Nat) : Prop := ∀ k ts q ns ws C, ts.length ≤ n → 6 * ts.length + 6 ≤ k → (∀ t ∈ ts, TokOk t) → Low 1 ws → Rl 1 1 ev ts.length ns ws C → mach ev ts true ns ws = C (exprF ev k ⟨ts, false, q⟩)
theorem name_ne {s : ByteArray} (h : NameOk s) : s.toList ≠ [] := by
  obtain ⟨c, r, h1, _⟩ := h
  rw [ByteArray.toList_eq, h1]
  exact List.cons_ne_nil _ _
theorem take_rev (A ns : List S44) (n : Nat) (h : n = ns.length) : ((A ++ ns).take ((A ++ ns).length - n)).reverse = A.reverse := by
  subst h
  rw [List.length_append, Nat.add_sub_cancel, List.take_left]
theorem drop_rev (A ns : List S44) (n : Nat) (h : n = ns.length) : (A ++ ns).drop ((A ++ ns).length - n) = ns := by
  subst h
  rw [List.length_append, Nat.add_sub_cancel, List.drop_left]
/-- A call is closed: its arguments are the nodes behind those that stood. -/
theorem cl_call {t : S39} {A ns ns' : List S44} {ws ws' : List S104} (hn : t.f1.toList ≠ []) (hr : rdS 1 ns' ws' = (A ++ ns, wC t ns :: ws)) : cl ns' ws' = some (⟨5, t.f1, 0, 0, A.reverse, t.f4⟩ :: ns, ws) := by
  unfold cl
  rw [hr]
  show some (if t.f1.toList = [] then _ else _, _) = _
  rw [if_neg hn]
  show some ((⟨5, t.f1, 0, 0, ((A ++ ns).take ((A ++ ns).length - ((ns.length : Int)).toNat)).reverse, t.f4⟩ : S44) :: (A ++ ns).drop ((A ++ ns).length - ((ns.length : Int)).toNat), ws) = _
  rw [take_rev A ns _ (Int.toNat_natCast _), drop_rev A ns _ (Int.toNat_natCast _)]
theorem cl_br {x : S44} {ns ns' : List S44} {ws ws' : List S104} (hr : rdS 1 ns' ws' = (x :: ns, wB ns :: ws)) : cl ns' ws' = some (x :: ns, ws) := by
  unfold cl
  rw [hr]
  show some (if (⟨#[]⟩ : ByteArray).toList = [] then _ else _, _) = _
  rw [if_pos (by rw [ByteArray.toList_eq])]
theorem rd_open {lv : Int} {ns : List S44} {w : S104} {ws : List S104} (h : w.f3 = true) : rdS lv ns (w :: ws) = (ns, w :: ws) := rd_keep (.inr ⟨w, ws, rfl, .inl h⟩)
/-- The arguments of a call. -/
theorem call_go {ev : Int} {N : Nat} (hE : EP ev N) {t : S39} {ns : List S44} {ws : List S104} {C : S44 × St → Out} {L : Nat} (hn : t.f1.toList ≠ []) (h2 : t.f2 = 0) (h3 : t.f3 = 0) (hC : RA ev L ns ws C) : ∀ (n : Nat) (ks : List S44) (ts : List S39) (q : Int) (k : Nat), ts.length < n → ts.length ≤ N → ts.length ≤ L → (∀ t ∈ ts, TokOk t) → 6 * ts.length + 7 ≤ k → mach ev ts true (ks.reverse ++ ns) (wC t ns :: ws) = C (callL ev k t ks ⟨ts, false, q⟩) := by
  intro n
  induction n with
  | zero => intro ks ts q k hn0; exact absurd hn0 (Nat.not_lt_zero _)
  | succ n ih =>
    intro ks ts q k hn0 hN hL hT hk
    obtain ⟨k, rfl⟩ : ∃ k', k = k' + 1 := ⟨k - 1, by omega⟩
    have key := hE k ts q (ks.reverse ++ ns) (wC t ns :: ws) (fun p => C (match signAt (str1 44) p.2 with
      | some (_, s2) => callL ev k t (ks ++ [p.1]) s2
      | none =>
        match signAt (str1 41) p.2 with
        | some (_, s2) => (⟨5, t.f1, t.f2, t.f3, ks ++ [p.1], t.f4⟩, s2)
        | none => (z44, failS ev p.2))) hN (by omega) hT (.inr ⟨_, _, rfl, .inl rfl⟩) ⟨?_, ?_⟩
    · rw [key]
      rcases h : signAt (str1 44) (exprF ev k ⟨ts, false, q⟩).2 with _ | ⟨p, s2⟩
      · rcases h' : signAt (str1 41) (exprF ev k ⟨ts, false, q⟩).2 with _ | ⟨p, s2⟩
        · rw [callL_bad h h']
        · rw [callL_end h h']
      · rw [callL_comma h]
    · intro x st h1 h2
      show C (match signAt (str1 44) st with
      | some (_, s2) => callL ev k t (ks ++ [x]) s2
      | none =>
        match signAt (str1 41) st with
        | some (_, s2) => (⟨5, t.f1, t.f2, t.f3, ks ++ [x], t.f4⟩, s2)
        | none => (z44, failS ev st)) = _
      rw [sign_bad0 h2, sign_bad0 h2]
      show C (z44, failS ev st) = _
      rw [hC.bad _ _ (failS_bad _ _) (failS_ts _ _)]
      unfold failS
      rw [if_pos h1]
    · intro x ts2 q2 ns' ws' hl2 hT2 hRep hNx _
      have hin : inC ws' = true := by
        obtain ⟨ps, e, hp⟩ := hRep.pre
        rw [e, inC_pre hp]
        show (if true = true then (!(t.f1.toList == [])) else inC ws) = true
        rw [if_pos rfl]
        simp [hn]
      have hrd : rdS 1 ns' ws' = ((ks ++ [x]).reverse ++ ns, wC t ns :: ws) := by
        rw [hRep.red 1 (by decide) (by decide), rd_open rfl]; simp
      show _ = C (match signAt (str1 44) ⟨ts2, false, q2⟩ with
      | some (_, s2) => callL ev k t (ks ++ [x]) s2
      | none =>
        match signAt (str1 41) ⟨ts2, false, q2⟩ with
        | some (_, s2) => (⟨5, t.f1, t.f2, t.f3, ks ++ [x], t.f4⟩, s2)
        | none => (z44, failS ev ⟨ts2, false, q2⟩))
      rcases h : signAt (str1 44) ⟨ts2, false, q2⟩ with _ | ⟨p, s2⟩
      · rcases h' : signAt (str1 41) ⟨ts2, false, q2⟩ with _ | ⟨p, s2⟩
        · show _ = C (z44, failS ev ⟨ts2, false, q2⟩)
          rw [fail_err hC.bad]
          cases ts2 with
          | nil =>
            rw [m_nil]
            unfold endM
            rw [if_neg (by decide), hrd, if_neg (by simp)]
          | cons t2 r2 => exact m_bad1 hNx (nos_of h') (.inl (nos_of h))
        · obtain ⟨t2, r2, rfl, h5, h41, rfl, rfl⟩ := sg_some h'
          rw [l1] at h41
          show _ = C (⟨5, t.f1, t.f2, t.f3, ks ++ [x], t.f4⟩, ⟨r2, false, q2⟩)
          rw [m_close h5 h41, cl_call hn hrd, List.reverse_reverse, h2, h3]
          exact hC.go _ r2 q2 (by simp only [List.length_cons] at hl2; omega) (toks_tail hT2)
      · obtain ⟨t2, r2, rfl, h5, h44, rfl, rfl⟩ := sg_some h
        rw [l1] at h44
        show _ = C (callL ev k t (ks ++ [x]) ⟨r2, false, q2⟩)
        have hl3 : r2.length + 1 ≤ ts.length := by simpa using hl2
        rw [m_comma h5 h44 hin, hrd]
        exact ih (ks ++ [x]) r2 q2 k (by omega) (by omega) (by omega) (toks_tail hT2) (by omega)
/-- An operand. -/
theorem okA {ev : Int} {n : Nat} (hE : EP ev n) (k : Nat) (ts : List S39) (q : Int) (ns : List S44) (ws : List S104) (C : S44 × St → Out) (hl : ts.length ≤ n + 1) (hk : 6 * ts.length + 2 ≤ k) (hT : ∀ t ∈ ts, TokOk t) (h33 : NoS (str1 33) ts) (hC : RA ev ts.length ns ws C) : mach ev ts true ns ws = C (atomF ev k ⟨ts, false, q⟩) := by
  obtain ⟨k, rfl⟩ : ∃ k', k = k' + 1 := ⟨k - 1, by omega⟩
  rcases h : signAt (str1 40) ⟨ts, false, q⟩ with _ | ⟨p, s1⟩
  · cases ts with
    | nil => rw [atomF_nil h, m_nil, fail_err hC.bad]; rfl
    | cons t r =>
      have hlr : r.length ≤ n := by simp only [List.length_cons] at hl; omega
      by_cases h5 : t.f0 = 5
      · rw [atomF_sign h h5, fail_err hC.bad]
        have a1 := sg_none h h5
        have a2 := sg_none (h33 false q) h5
        rw [l1] at a1 a2
        exact m_want h5 a1 a2
      · by_cases h3 : t.f0 = 4 ∨ t.f0 = 2 ∨ t.f0 = 3
        · rw [atomF_leaf h h5 h3, m_leaf h5 (by omega)]
          exact hC.go _ r q (by simp) (toks_tail hT)
        · have h1 : t.f0 = 1 ∧ NameOk t.f1 ∧ t.f2 = 0 ∧ t.f3 = 0 := by
            rcases hT t (by simp) with h' | h' | h' | h' | h'
            · exact h'
            · exact absurd h'.1 (by omega)
            · exact absurd h'.1 (by omega)
            · exact absurd h'.1 (by omega)
            · exact absurd h'.1 h5
          obtain ⟨h0, hn, hf2, hf3⟩ := h1
          rcases h4 : signAt (str1 40) ⟨r, false, q⟩ with _ | ⟨p, s1⟩
          · rw [atomF_name h h5 h3 h4, m_name h0 (nos_of h4)]
            exact hC.go _ r q (by simp) (toks_tail hT)
          · rw [atomF_call h h5 h3 h4]
            obtain ⟨u, r1, rfl, u5, u40, rfl, rfl⟩ := sg_some h4
            rw [l1] at u40
            rcases h6 : signAt (str1 41) ⟨r1, false, q⟩ with _ | ⟨p, s2⟩
            · rw [callS_none h6, m_call h0 (isS_of u5 u40) (nos_of h6)]
              exact call_go hE (L := (t :: u :: r1).length) (name_ne hn) hf2 hf3 hC (r1.length + 1) [] r1 q k (by omega) (by simp only [List.length_cons] at hlr; omega) (by simp only [List.length_cons]; omega) (toks_tail (toks_tail hT)) (by simp only [List.length_cons] at hk; omega)
            · rw [callS_some h6]
              obtain ⟨v, r2, rfl, v5, v41, rfl, rfl⟩ := sg_some h6
              rw [l1] at v41
              rw [m_call0 h0 (isS_of u5 u40) (isS_of v5 v41), show cl ns (wC t ns :: ws) = _ from cl_call (A := []) (ns := ns) (name_ne hn) (rd_open rfl), hf2, hf3]
              exact hC.go _ r2 q (by simp only [List.length_cons]; omega) (toks_tail (toks_tail (toks_tail hT)))
  · obtain ⟨t, r, rfl, h5, h40, rfl, rfl⟩ := sg_some h
    rw [l1] at h40
    have hlr : r.length ≤ n := by simp only [List.length_cons] at hl; omega
    rw [m_open h5 h40]
    have key := hE k r q ns (wB ns :: ws) (fun p => C (match signAt (str1 41) p.2 with
      | some (_, s2) => (p.1, s2)
      | none => (z44, failS ev p.2))) hlr (by simp only [List.length_cons] at hk; omega) (toks_tail hT) (.inr ⟨_, _, rfl, .inl rfl⟩) ⟨?_, ?_⟩
    · rw [key]
      rcases h' : signAt (str1 41) (exprF ev k ⟨r, false, q⟩).2 with _ | ⟨p, s2⟩
      · rw [atomF_br_no h h']
      · rw [atomF_br h h']
    · intro x st h1 h2
      show C (match signAt (str1 41) st with
        | some (_, s2) => (x, s2)
        | none => (z44, failS ev st)) = _
      rw [sign_bad0 h2]
      show C (z44, failS ev st) = _
      rw [hC.bad _ _ (failS_bad _ _) (failS_ts _ _)]
      unfold failS
      rw [if_pos h1]
    · intro x ts2 q2 ns' ws' hl2 hT2 hRep hNx _
      have hin : inC ws' = false := by
        obtain ⟨ps, e, hp⟩ := hRep.pre
        rw [e, inC_pre hp]
        show (if true = true then (!((⟨#[]⟩ : ByteArray).toList == [])) else inC ws) = false
        rw [if_pos rfl, ByteArray.toList_eq]; rfl
      have hrd : rdS 1 ns' ws' = (x :: ns, wB ns :: ws) := by rw [hRep.red 1 (by decide) (by decide), rd_open rfl]
      show _ = C (match signAt (str1 41) ⟨ts2, false, q2⟩ with
        | some (_, s2) => (x, s2)
        | none => (z44, failS ev ⟨ts2, false, q2⟩))
      rcases h' : signAt (str1 41) ⟨ts2, false, q2⟩ with _ | ⟨p, s2⟩
      · show _ = C (z44, failS ev ⟨ts2, false, q2⟩)
        rw [fail_err hC.bad]
        cases ts2 with
        | nil =>
          rw [m_nil]
          unfold endM
          rw [if_neg (by decide), hrd, if_neg (by simp)]
        | cons t2 r2 => exact m_bad1 hNx (nos_of h') (.inr hin)
      · obtain ⟨t2, r2, rfl, h5', h41, rfl, rfl⟩ := sg_some h'
        rw [l1] at h41
        show _ = C (x, ⟨r2, false, q2⟩)
        rw [m_close h5' h41, cl_br hrd]
        exact hC.go _ r2 q2 (by simp only [List.length_cons] at hl2 ⊢; omega) (toks_tail hT2)
/-- What may be signed. -/
theorem okU {ev : Int} {n : Nat} (hE : EP ev n) : ∀ (m : Nat) (k : Nat) (ts : List S39) (q : Int) (ns : List S44) (ws : List S104) (C : S44 × St → Out), ts.length < m → ts.length ≤ n + 1 → 6 * ts.length + 3 ≤ k → (∀ t ∈ ts, TokOk t) → Rl 4 3 ev ts.length ns ws C → mach ev ts true ns ws = C (unaryF ev k ⟨ts, false, q⟩) := by
  intro m
  induction m with
  | zero => intro k ts q ns ws C hm; exact absurd hm (Nat.not_lt_zero _)
  | succ m ih =>
    intro k ts q ns ws C hm hl hk hT hC
    obtain ⟨k, rfl⟩ : ∃ k', k = k' + 1 := ⟨k - 1, by omega⟩
    rcases h : signAt (str1 33) ⟨ts, false, q⟩ with _ | ⟨p, s1⟩
    · rw [unaryF_atom h]
      exact okA hE k ts q ns ws (fun p => C (upL ev k p.1 p.2)) hl (by omega) hT (nos_of h) ⟨up_bad hC.bad k, fun x ts2 q2 hl2 hT2 => up_go hC ts2.length x ts2 q2 k (Nat.le_refl _) hl2 hT2 (by omega)⟩
    · rw [unaryF_not h]
      obtain ⟨t, r, rfl, h5, h33, rfl, rfl⟩ := sg_some h
      rw [l1] at h33
      rw [m_not h5 h33]
      refine ih k r q ns (wO 11 t :: ws) (fun p => C (nd 11 [p.1] t.f4, p.2)) (by simp only [List.length_cons] at hm; omega) (by simp only [List.length_cons] at hl; omega) (by simp only [List.length_cons] at hk; omega) (toks_tail hT) ⟨fun x st h1 h2 => hC.bad _ _ h1 h2, ?_⟩
      intro x ts2 q2 ns' ws' hl2 hT2 hRep hNx hr
      refine hC.go _ ts2 q2 ns' ws' (by simp only [List.length_cons]; omega) hT2 (hRep.over rfl (by decide) (fun lv h1 h2 => rd_not rfl rfl (by omega))) hNx (fun h4 => ?_)
      rw [hr h4]
      show (if (false = true ∨ (4 : Int) < 3) then false else if (4 : Int) = 3 then true else rng ws) = _
      rw [if_neg (by decide), if_neg (by decide)]
/-- A range, or what holds together more tightly. -/
theorem okR {ev : Int} {n : Nat} (hE : EP ev n) (k : Nat) (ts : List S39) (q : Int) (ns : List S44) (ws : List S104) (C : S44 × St → Out) (hl : ts.length ≤ n + 1) (hk : 6 * ts.length + 4 ≤ k) (hT : ∀ t ∈ ts, TokOk t) (hw : Low 3 ws) (hC : Rl 3 2 ev ts.length ns ws C) : mach ev ts true ns ws = C (rangedF ev k ⟨ts, false, q⟩) := by
  obtain ⟨k, rfl⟩ : ∃ k', k = k' + 1 := ⟨k - 1, by omega⟩
  have key := okU hE (ts.length + 1) k ts q ns ws (fun p => C (match signAt (str2 46 46) p.2 with
    | some (p', s1) => (nd 9 [p.1, (unaryF ev k s1).1] p', (unaryF ev k s1).2)
    | none =>
      match signAt (str2 58 58) p.2 with
      | some (p', s1) => (nd 10 [p.1, (unaryF ev k s1).1] p', (unaryF ev k s1).2)
      | none => (p.1, p.2))) (Nat.lt_succ_self _) hl (by omega) hT ⟨?_, ?_⟩
  · rw [key]
    rcases h : signAt (str2 46 46) (unaryF ev k ⟨ts, false, q⟩).2 with _ | ⟨p, s1⟩
    · rcases h' : signAt (str2 58 58) (unaryF ev k ⟨ts, false, q⟩).2 with _ | ⟨p, s1⟩
      · rw [rangedF_none h h']
      · rw [rangedF_colons h h']
    · rw [rangedF_dots h]
  · intro x st h1 h2
    show C (match signAt (str2 46 46) st with
      | some (p', s1) => (nd 9 [x, (unaryF ev k s1).1] p', (unaryF ev k s1).2)
      | none =>
        match signAt (str2 58 58) st with
        | some (p', s1) => (nd 10 [x, (unaryF ev k s1).1] p', (unaryF ev k s1).2)
        | none => (x, st)) = _
    rw [sign_bad0 h2, sign_bad0 h2]
    exact hC.bad _ _ h1 h2
  · intro x ts2 q2 ns' ws' hl2 hT2 hRep hNx hr
    have hrng : rng ws' = false := by rw [hr (by decide), low_rng hw]
    have hrd : rdS 3 ns' ws' = (x :: ns, ws) := by rw [hRep.red 3 (by decide) (by decide), rd_low hw (by decide)]
    have both : ∀ (op : Int) (t : S39) (r : List S39), (op = 9 ∨ op = 10) → ts2 = t :: r → t.f0 = 5 → opT t.f1.toList = op → mach ev (t :: r) false ns' ws' = C (nd op [x, (unaryF ev k ⟨r, false, q2⟩).1] t.f4, (unaryF ev k ⟨r, false, q2⟩).2) := by
      intro op t r ho e h5 hop
      subst e
      have hlv : levelT op = 3 := by rcases ho with rfl | rfl <;> rfl
      have hlr : r.length + 1 ≤ ts.length := by simpa using hl2
      rw [m_op h5 hop (by rcases ho with rfl | rfl <;> decide) (.inr hrng), hlv, hrd]
      refine okU hE (r.length + 1) k r q2 (x :: ns) (wO op t :: ws) (fun p => C (nd op [x, p.1] t.f4, p.2)) (Nat.lt_succ_self _) (by omega) (by omega) (toks_tail hT2) ⟨fun y st h1 h2 => hC.bad _ _ h1 h2, ?_⟩
      intro y ts3 q3 ns3 ws3 hl3 hT3 hRep3 hNx3 hr3
      refine hC.go _ ts3 q3 ns3 ws3 (by omega) hT3 (hRep3.over rfl (by decide) (fun lv h1 h2 => rd_two rfl (by show op ≠ 11; omega) (by show lv ≤ levelT op; omega))) ⟨hNx3.up, fun _ => .inr ?_, fun h => absurd h (by decide), fun h => absurd h (by decide)⟩ (fun h => absurd h (by decide))
      rw [hr3 (by decide)]
      show (if (false = true ∨ levelT op < 3) then false else if levelT op = 3 then true else rng ws) = _
      rw [hlv, if_neg (by decide), if_pos rfl]
    show _ = C (match signAt (str2 46 46) ⟨ts2, false, q2⟩ with
      | some (p', s1) => (nd 9 [x, (unaryF ev k s1).1] p', (unaryF ev k s1).2)
      | none =>
        match signAt (str2 58 58) ⟨ts2, false, q2⟩ with
        | some (p', s1) => (nd 10 [x, (unaryF ev k s1).1] p', (unaryF ev k s1).2)
        | none => (x, ⟨ts2, false, q2⟩))
    rcases h : signAt (str2 46 46) ⟨ts2, false, q2⟩ with _ | ⟨p, s1⟩
    · rcases h' : signAt (str2 58 58) ⟨ts2, false, q2⟩ with _ | ⟨p, s1⟩
      · exact hC.go x ts2 q2 ns' ws' hl2 hT2 (hRep.mono (by decide)) ⟨hNx.up, fun _ => .inl ⟨nos_of h, nos_of h'⟩, fun h => absurd h (by decide), fun h => absurd h (by decide)⟩ (fun h => absurd h (by decide))
      · obtain ⟨t, r, rfl, h5, ht, rfl, rfl⟩ := sg_some h'
        rw [l2] at ht
        exact both 10 t r (.inr rfl) rfl h5 (by rw [ht]; rfl)
    · obtain ⟨t, r, rfl, h5, ht, rfl, rfl⟩ := sg_some h
      rw [l2] at ht
      exact both 9 t r (.inl rfl) rfl h5 (by rw [ht]; rfl)
/-- What stands behind the first of an intersection. -/
theorem inter_go {ev : Int} {n : Nat} (hE : EP ev n) {ns : List S44} {ws : List S104} {C : S44 × St → Out} {L : Nat} (hw : Low 2 ws) (hC : Rl 2 1 ev L ns ws C) : ∀ (m : Nat) (x : S44) (ts : List S39) (q : Int) (ns' : List S44) (ws' : List S104) (k : Nat), ts.length < m → ts.length ≤ n + 1 → ts.length ≤ L → (∀ t ∈ ts, TokOk t) → 6 * ts.length ≤ k + 1 → Rep 2 ns' ws' x ns ws → Nx 3 ws' ts → mach ev ts false ns' ws' = C (interL ev k x ⟨ts, false, q⟩) := by
  intro m
  induction m with
  | zero => intro x ts q ns' ws' k hm; exact absurd hm (Nat.not_lt_zero _)
  | succ m ih =>
    intro x ts q ns' ws' k hm hl hL hT hk hRep hNx
    rcases h : signAt (str1 38) ⟨ts, false, q⟩ with _ | ⟨p, s1⟩
    · rw [interL_none h]
      exact hC.go x ts q ns' ws' hL hT (hRep.mono (by decide)) ⟨hNx.up, fun _ => hNx.dots (by decide), fun _ => nos_of h, fun h => absurd h (by decide)⟩ (fun h => absurd h (by decide))
    · obtain ⟨t, r, rfl, h5, h38, rfl, rfl⟩ := sg_some h
      rw [l1] at h38
      rw [List.length_cons] at hm hl hL hk
      obtain ⟨k, rfl⟩ : ∃ k', k = k' + 1 := ⟨k - 1, by omega⟩
      have hrd : rdS 2 ns' ws' = (x :: ns, ws) := by rw [hRep.red 2 (by decide) (by decide), rd_low hw (by decide)]
      rw [interL_some h, m_op (op := 8) h5 (by rw [h38]; rfl) (by decide) (.inl (by decide)), show levelT 8 = 2 from rfl, hrd]
      refine okR hE k r q (x :: ns) (wO 8 t :: ws) (fun p => C (interL ev k (nd 8 [x, p.1] t.f4) p.2)) (by omega) (by omega) (toks_tail hT) (.inr ⟨_, _, rfl, .inr (by show levelT 8 < 3; decide)⟩) ⟨fun y st h1 h2 => ?_, ?_⟩
      · show C (interL ev k (nd 8 [x, y] t.f4) st) = _
        rw [interL_none (sign_bad0 h2)]
        exact hC.bad _ _ h1 h2
      · intro y ts2 q2 ns2 ws2 hl2 hT2 hRep2 hNx2 _
        exact ih _ ts2 q2 ns2 ws2 k (by omega) (by omega) (by omega) hT2 (by omega) (hRep2.over rfl (by decide) (fun lv h1 h2 => rd_two rfl (by show (8 : Int) ≠ 11; decide) (by show lv ≤ levelT 8; exact h2))) hNx2
theorem okI {ev : Int} {n : Nat} (hE : EP ev n) (k : Nat) (ts : List S39) (q : Int) (ns : List S44) (ws : List S104) (C : S44 × St → Out) (hl : ts.length ≤ n + 1) (hk : 6 * ts.length + 5 ≤ k) (hT : ∀ t ∈ ts, TokOk t) (hw : Low 2 ws) (hC : Rl 2 1 ev ts.length ns ws C) : mach ev ts true ns ws = C (interF ev k ⟨ts, false, q⟩) := by
  obtain ⟨k, rfl⟩ : ∃ k', k = k' + 1 := ⟨k - 1, by omega⟩
  show _ = C (interL ev k (rangedF ev k ⟨ts, false, q⟩).1 (rangedF ev k ⟨ts, false, q⟩).2)
  refine okR hE k ts q ns ws (fun p => C (interL ev k p.1 p.2)) hl (by omega) hT (hw.mono (by decide)) ⟨fun y st h1 h2 => ?_, ?_⟩
  · show C (interL ev k y st) = _
    rw [interL_none (sign_bad0 h2)]
    exact hC.bad _ _ h1 h2
  · intro y ts2 q2 ns2 ws2 hl2 hT2 hRep2 hNx2 _
    exact inter_go hE hw hC (ts2.length + 1) y ts2 q2 ns2 ws2 k (Nat.lt_succ_self _) (by omega) hl2 hT2 (by omega) hRep2 hNx2
/-- What stands behind the first of a sum. -/
theorem expr_go {ev : Int} {n : Nat} (hE : EP ev n) {ns : List S44} {ws : List S104} {C : S44 × St → Out} {L : Nat} (hw : Low 1 ws) (hC : Rl 1 1 ev L ns ws C) : ∀ (m : Nat) (x : S44) (ts : List S39) (q : Int) (ns' : List S44) (ws' : List S104) (k : Nat), ts.length < m → ts.length ≤ n + 1 → ts.length ≤ L → (∀ t ∈ ts, TokOk t) → 6 * ts.length ≤ k → Rep 1 ns' ws' x ns ws → Nx 2 ws' ts → mach ev ts false ns' ws' = C (exprL ev k x ⟨ts, false, q⟩) := by
  intro m
  induction m with
  | zero => intro x ts q ns' ws' k hm; exact absurd hm (Nat.not_lt_zero _)
  | succ m ih =>
    intro x ts q ns' ws' k hm hl hL hT hk hRep hNx
    have hrd : rdS 1 ns' ws' = (x :: ns, ws) := by rw [hRep.red 1 (by decide) (by decide), rd_low hw (by decide)]
    have both : ∀ (op : Int) (t : S39) (r : List S39) (k : Nat), (op = 6 ∨ op = 7) → ts = t :: r → t.f0 = 5 → opT t.f1.toList = op → 6 * ts.length ≤ k + 1 → mach ev (t :: r) false ns' ws' = C (exprL ev k (nd op [x, (interF ev k ⟨r, false, q⟩).1] t.f4) (interF ev k ⟨r, false, q⟩).2) := by
      intro op t r k ho e h5 hop hk
      subst e
      have hlv : levelT op = 1 := by rcases ho with rfl | rfl <;> rfl
      rw [List.length_cons] at hm hl hL hk
      rw [m_op h5 hop (by rcases ho with rfl | rfl <;> decide) (.inl (by rw [hlv]; decide)), hlv, hrd]
      refine okI hE k r q (x :: ns) (wO op t :: ws) (fun p => C (exprL ev k (nd op [x, p.1] t.f4) p.2)) (by omega) (by omega) (toks_tail hT) (.inr ⟨_, _, rfl, .inr (by show levelT op < 2; omega)⟩) ⟨fun y st h1 h2 => ?_, ?_⟩
      · show C (exprL ev k (nd op [x, y] t.f4) st) = _
        rw [exprL_none (sign_bad0 h2) (sign_bad0 h2)]
        exact hC.bad _ _ h1 h2
      · intro y ts2 q2 ns2 ws2 hl2 hT2 hRep2 hNx2 _
        exact ih _ ts2 q2 ns2 ws2 k (by omega) (by omega) (by omega) hT2 (by omega) (hRep2.over rfl (by decide) (fun lv h1 h2 => rd_two rfl (by show op ≠ 11; omega) (by show lv ≤ levelT op; omega))) hNx2
    rcases h : signAt (str1 124) ⟨ts, false, q⟩ with _ | ⟨p, s1⟩
    · rcases h' : signAt (str1 45) ⟨ts, false, q⟩ with _ | ⟨p, s1⟩
      · rw [exprL_none h h']
        exact hC.go x ts q ns' ws' hL hT hRep ⟨hNx.up, fun _ => hNx.dots (by decide), fun _ => hNx.amp (by decide), fun _ => ⟨nos_of h, nos_of h'⟩⟩ (fun h => absurd h (by decide))
      · obtain ⟨t, r, rfl, h5, ht, rfl, rfl⟩ := sg_some h'
        rw [l1] at ht
        obtain ⟨k, rfl⟩ : ∃ k', k = k' + 1 := ⟨k - 1, by rw [List.length_cons] at hk; omega⟩
        rw [exprL_minus h h']
        exact both 7 t r k (.inr rfl) rfl h5 (by rw [ht]; rfl) hk
    · obtain ⟨t, r, rfl, h5, ht, rfl, rfl⟩ := sg_some h
      rw [l1] at ht
      obtain ⟨k, rfl⟩ : ∃ k', k = k' + 1 := ⟨k - 1, by rw [List.length_cons] at hk; omega⟩
      rw [exprL_or h]
      exact both 6 t r k (.inl rfl) rfl h5 (by rw [ht]; rfl) hk
theorem okE {ev : Int} {n : Nat} (hE : EP ev n) (k : Nat) (ts : List S39) (q : Int) (ns : List S44) (ws : List S104) (C : S44 × St → Out) (hl : ts.length ≤ n + 1) (hk : 6 * ts.length + 6 ≤ k) (hT : ∀ t ∈ ts, TokOk t) (hw : Low 1 ws) (hC : Rl 1 1 ev ts.length ns ws C) : mach ev ts true ns ws = C (exprF ev k ⟨ts, false, q⟩) := by
  obtain ⟨k, rfl⟩ : ∃ k', k = k' + 1 := ⟨k - 1, by omega⟩
  show _ = C (exprL ev k (interF ev k ⟨ts, false, q⟩).1 (interF ev k ⟨ts, false, q⟩).2)
  refine okI hE k ts q ns ws (fun p => C (exprL ev k p.1 p.2)) hl (by omega) hT (hw.mono (by decide)) ⟨fun y st h1 h2 => ?_, ?_⟩
  · show C (exprL ev k y st) = _
    rw [exprL_none (sign_bad0 h2) (sign_bad0 h2)]
    exact hC.bad _ _ h1 h2
  · intro y ts2 q2 ns2 ws2 hl2 hT2 hRep2 hNx2 _
    exact expr_go hE hw hC (ts2.length + 1) y ts2 q2 ns2 ws2 k (Nat.lt_succ_self _) (by omega) hl2 hT2 (by omega) hRep2 hNx2
theorem ep_all (ev : Int) : ∀ n : Nat, EP ev n
  | 0 => by
    intro k ts q ns ws C hl hk hT hw hC
    have : ts = [] := List.eq_nil_of_length_eq_zero (by omega)
    subst this
    obtain ⟨k, rfl⟩ : ∃ k', k = k' + 6 := ⟨k - 6, by omega⟩
    rw [m_nil]
    have e : exprF ev (k + 6) ⟨[], false, q⟩ = (z44, failS ev ⟨[], false, q⟩) := by
      have h0 : ∀ s : ByteArray, signAt s ⟨[], false, q⟩ = none := fun _ => rfl
      have hf : ∀ s : ByteArray, signAt s (failS ev ⟨[], false, q⟩) = none := fun s => sign_bad0 (failS_ts _ _)
      have hu : unaryF ev (k + 3) ⟨[], false, q⟩ = (z44, failS ev ⟨[], false, q⟩) := by
        rw [unaryF_atom (h0 _), show atomF ev (k + 2) ⟨[], false, q⟩ = (z44, failS ev ⟨[], false, q⟩) from atomF_nil (h0 _), upL_none (hf _)]
      have hr : rangedF ev (k + 4) ⟨[], false, q⟩ = (z44, failS ev ⟨[], false, q⟩) := by
        rw [rangedF_none (by rw [hu]; exact hf _) (by rw [hu]; exact hf _), hu]
      have hi : interF ev (k + 5) ⟨[], false, q⟩ = (z44, failS ev ⟨[], false, q⟩) := by
        show interL ev (k + 4) (rangedF ev (k + 4) ⟨[], false, q⟩).1 (rangedF ev (k + 4) ⟨[], false, q⟩).2 = _
        rw [hr, interL_none (hf _)]
      show exprL ev (k + 5) (interF ev (k + 5) ⟨[], false, q⟩).1 (interF ev (k + 5) ⟨[], false, q⟩).2 = _
      rw [hi, exprL_none (hf _) (hf _)]
    rw [e, fail_err hC.bad]
    rfl
  | n + 1 => fun k ts q ns ws C hl hk hT hw hC => okE (ep_all ev n) k ts q ns ws C hl hk hT hw hC
/-- What the reader answers once the whole text is read. -/
def ans (ev : Int) (p : S44 × St) : Out := if (endS ev p.2).bad = true then err (endS ev p.2).pos else if 24 < depthT p.1 then (z44, 0, 32) else (p.1, 0, 0)
theorem mach_is (ev : Int) (ts : List S39) (hT : ∀ t ∈ ts, TokOk t) : mach ev ts true [] [] = ans ev (exprF ev (6 * ts.length + 6) ⟨ts, false, 0⟩) := by
  refine ep_all ev ts.length _ ts 0 [] [] (ans ev) (Nat.le_refl _) (Nat.le_refl _) hT (.inl rfl) ⟨?_, ?_⟩
  · intro x st h1 h2
    unfold ans
    show (if (endS ev st).bad = true then err (endS ev st).pos else _) = _
    have e : endS ev st = st := by unfold endS; rw [if_pos (by rw [h2]; rfl)]
    rw [e, if_pos h1]
  · intro x ts2 q2 ns' ws' hl2 hT2 hRep hNx _
    have hrd : rdS 1 ns' ws' = ([x], []) := by rw [hRep.red 1 (by decide) (by decide)]; rfl
    cases ts2 with
    | nil =>
      rw [m_nil]
      unfold endM
      rw [if_neg (by decide), hrd, if_pos rfl]
      rfl
    | cons t r =>
      have ha : ans ev (x, ⟨t :: r, false, q2⟩) = err t.f4 := rfl
      rw [ha]
      rcases h : signAt (str1 41) ⟨t :: r, false, q2⟩ with _ | ⟨p, s1⟩
      · refine m_bad1 hNx (nos_of h) (.inr ?_)
        obtain ⟨ps, e, hp⟩ := hRep.pre
        rw [e, inC_pre hp]; rfl
      · obtain ⟨t2, r2, e, h5, h41, _, _⟩ := sg_some h
        injection e with e1 e2
        subst e1; subst e2
        rw [l1] at h41
        rw [m_close h5 h41]
        unfold cl
        rw [hrd]
/-- The document's reader, in plain words: it answers what the program's answers. -/
theorem mach_parse (a : ByteArray) (h : (scanS a).2.2 = 0) (hT : ∀ t ∈ (scanS a).1, TokOk t) : mach (a.size : Int) (scanS a).1 true [] [] = parseT a := by
  rw [mach_is _ _ hT]
  unfold parseT
  rw [if_pos h]
  rfl
end Mc
end Go.Proofs.YtfgfoofojofnmaaDoor.Q
