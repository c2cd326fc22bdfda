/- The abstract machine, worked out by recursors: states as trees, values told at once. -/
import Derived.Test.YtanfllomeheiiaaGreatDoorXME
set_option linter.unusedVariables false
set_option linter.unusedSimpArgs false
namespace Go.XM
open RM Go.RowKit
noncomputable section
/-! ### trees -/
inductive Tr (β : Type) where
  | nil
  | lf (b : β)
  | nd (l r : Tr β)
/-- A number's bits, the lowest first. -/
def bits (d : Nat) : Nat → List Bool := @Nat.rec (fun _ => Nat → List Bool) (fun _ => []) (fun _ ih n => Nat.beq (Nat.mod n 2) 0 :: ih (Nat.div n 2)) d
section
universe u v
variable {β : Type} {α : Type u}
def Tr.getB (p : List Bool) : Tr β → Option β := @List.rec Bool (fun _ => Tr β → Option β) (fun t => @Tr.rec β (fun _ => Option β) none some (fun _ _ _ _ => none) t) (fun b _ ih t => @Tr.rec β (fun _ => Option β) none (fun _ => none) (fun l r _ _ => @Bool.rec (fun _ => Option β) (ih r) (ih l) b) t) p
def Tr.setB (x : β) (p : List Bool) : Tr β → (Tr β → α) → α := @List.rec Bool (fun _ => Tr β → (Tr β → α) → α) (fun _ k => k (.lf x)) (fun b _ ih t k => @Tr.rec β (fun _ => α) (@Bool.rec (fun _ => α) (ih .nil fun r => k (.nd .nil r)) (ih .nil fun l => k (.nd l .nil)) b) (fun _ => @Bool.rec (fun _ => α) (ih .nil fun r => k (.nd .nil r)) (ih .nil fun l => k (.nd l .nil)) b) (fun l r _ _ => @Bool.rec (fun _ => α) (ih r fun r => k (.nd l r)) (ih l fun l => k (.nd l r)) b) t) p
/-- Entry n of a tree of depth d, and then. -/
def Tr.atK (d n : Nat) (t : Tr β) (z : α) (k : β → α) : α := @Bool.rec (fun _ => α) z (@Option.rec β (fun _ => α) z k (Tr.getB (bits d n) t)) (Nat.blt n (Nat.pow 2 d))
def Tr.at (d : Nat) (t : Tr β) (n : Nat) : Option β := match Nat.blt n (Nat.pow 2 d) with
  | true => Tr.getB (bits d n) t
  | false => none
/-- One entry is set, and then k; z: it can't be. -/
def Tr.setK (x : β) (z : α) (d : Nat) (t : Tr β) (n : Nat) (k : Tr β → α) : α := @Bool.rec (fun _ => α) z (Tr.setB x (bits d n) t k) (Nat.blt n (Nat.pow 2 d))
theorem Tr.atK_eq (d n : Nat) (t : Tr β) (z : α) (k : β → α) : Tr.atK d n t z k = match Tr.at d t n with
    | some b => k b
    | none => z := by
  unfold Tr.atK Tr.at
  cases Nat.blt n (Nat.pow 2 d) with
  | false => rfl
  | true => cases h : Tr.getB (bits d n) t <;> simp only [h]
theorem bits_inj : ∀ {d n m : Nat}, n < 2 ^ d → m < 2 ^ d → bits d n = bits d m → n = m
  | 0, n, m, hn, hm, _ => by simp at hn hm; omega
  | d + 1, n, m, hn, hm, h => by
    have h : (Nat.beq (Nat.mod n 2) 0 :: bits d (Nat.div n 2)) = (Nat.beq (Nat.mod m 2) 0 :: bits d (Nat.div m 2)) := h
    injection h with h1 h2
    have hn' : n / 2 < 2 ^ d := by rw [Nat.pow_succ] at hn; omega
    have hm' : m / 2 < 2 ^ d := by rw [Nat.pow_succ] at hm; omega
    have h2 := bits_inj (d := d) hn' hm' h2
    have e : ∀ n, Nat.beq (Nat.mod n 2) 0 = decide (n % 2 = 0) := fun n => by
      show Nat.beq (n % 2) 0 = _
      rcases Nat.mod_two_eq_zero_or_one n with h | h <;> rw [h] <;> rfl
    rw [e, e] at h1
    have h1 : (n % 2 = 0) ↔ (m % 2 = 0) := by simpa using h1
    omega
theorem bits_len : ∀ (d n : Nat), (bits d n).length = d
  | 0, _ => rfl
  | d + 1, n => by
    show (_ :: bits d (Nat.div n 2)).length = _
    rw [List.length_cons, bits_len d]
theorem Tr.setB_is {x : β} : ∀ {p : List Bool} {t : Tr β} {k : Tr β → α}, ∃ t', Tr.setB x p t k = k t' ∧ ∀ q : List Bool, q.length = p.length → Tr.getB q t' = if q = p then some x else Tr.getB q t
  | [], t, k => ⟨.lf x, rfl, fun q hq => by
    have : q = [] := List.eq_nil_of_length_eq_zero hq
    subst this
    rfl⟩
  | b :: p, t, k => by
    have go : ∀ l r : Tr β, (∀ c q, Tr.getB (c :: q) t = match c with | true => Tr.getB q l | false => Tr.getB q r) → Tr.setB x (b :: p) t k = (match b with | true => Tr.setB x p l fun l => k (.nd l r) | false => Tr.setB x p r fun r => k (.nd l r)) → ∃ t', Tr.setB x (b :: p) t k = k t' ∧ ∀ q : List Bool, q.length = (b :: p).length → Tr.getB q t' = if q = b :: p then some x else Tr.getB q t := by
      intro l r hg hs
      rw [hs]
      cases b with
      | true =>
        obtain ⟨t', h, ht⟩ := Tr.setB_is (x := x) (p := p) (t := l) (k := fun l => k (.nd l r))
        refine ⟨_, h, fun q hq => ?_⟩
        match q, hq with
        | c :: q, hq =>
          rw [hg]
          cases c with
          | true =>
            show Tr.getB q t' = _
            rw [ht q (by simpa using hq)]
            by_cases e : q = p
            · rw [if_pos e, if_pos (by rw [e])]
            · rw [if_neg e, if_neg (by simp [e])]
          | false => rw [if_neg (by simp)]; rfl
      | false =>
        obtain ⟨t', h, ht⟩ := Tr.setB_is (x := x) (p := p) (t := r) (k := fun r => k (.nd l r))
        refine ⟨_, h, fun q hq => ?_⟩
        match q, hq with
        | c :: q, hq =>
          rw [hg]
          cases c with
          | false =>
            show Tr.getB q t' = _
            rw [ht q (by simpa using hq)]
            by_cases e : q = p
            · rw [if_pos e, if_pos (by rw [e])]
            · rw [if_neg e, if_neg (by simp [e])]
          | true => rw [if_neg (by simp)]; rfl
    have nn : ∀ q, Tr.getB q (Tr.nil : Tr β) = none := fun q => by cases q <;> rfl
    cases t with
    | nil => exact go .nil .nil (fun c q => by cases c <;> exact (nn q).symm) (by cases b <;> rfl)
    | lf y => exact go .nil .nil (fun c q => by cases c <;> exact (nn q).symm) (by cases b <;> rfl)
    | nd l r => exact go l r (fun c q => by cases c <;> rfl) (by cases b <;> rfl)
theorem Tr.setK_is {x : β} {z : α} {d : Nat} {t : Tr β} {n : Nat} {k : Tr β → α} : Tr.setK x z d t n k = z ∨ ∃ t', Tr.setK x z d t n k = k t' ∧ ∀ m, Tr.at d t' m = if m = n then some x else Tr.at d t m := by
  unfold Tr.setK
  cases hb : Nat.blt n (Nat.pow 2 d) with
  | false => exact .inl rfl
  | true =>
    have hn : n < 2 ^ d := by simpa [Nat.blt_eq] using hb
    obtain ⟨t', h, ht⟩ := Tr.setB_is (x := x) (p := bits d n) (t := t) (k := k)
    refine .inr ⟨t', h, fun m => ?_⟩
    unfold Tr.at
    by_cases e : m = n
    · subst e
      rw [hb, if_pos rfl]
      simp only
      rw [ht _ rfl, if_pos rfl]
    · rw [if_neg e]
      cases hm : Nat.blt m (Nat.pow 2 d) with
      | false => rfl
      | true =>
        have hm' : m < 2 ^ d := by simpa [Nat.blt_eq] using hm
        simp only
        rw [ht _ (by rw [bits_len, bits_len]), if_neg (fun h => e (bits_inj hm' hn h))]
theorem Tr.at_nil (d n : Nat) : Tr.at d (Tr.nil : Tr β) n = none := by
  unfold Tr.at
  cases Nat.blt n (Nat.pow 2 d) with
  | false => rfl
  | true => show Tr.getB (bits d n) .nil = none; cases bits d n <;> rfl
end
/-! ### values, told -/
section
universe u
variable {α : Sort u}
def frN (n : Nat) (k : Nat → α) : α := match n with
  | 0 => k 0
  | m + 1 => k (m + 1)
theorem frN_eq (n : Nat) (k : Nat → α) : frN n k = k n := by cases n <;> rfl
def frI (n : Int) (k : Int → α) : α := match n with
  | .ofNat m => frN m fun m => k (.ofNat m)
  | .negSucc m => frN m fun m => k (.negSucc m)
theorem frI_eq (n : Int) (k : Int → α) : frI n k = k n := by cases n <;> simp only [frI, frN_eq]
def frU : List UInt8 → (List UInt8 → α) → α
  | [], k => k []
  | u :: l, k => frN u.toNat fun n => frU l fun l => k (UInt8.ofNat n :: l)
theorem frU_eq : ∀ (l : List UInt8) (k : List UInt8 → α), frU l k = k l
  | [], _ => rfl
  | u :: l, k => by rw [frU, frN_eq, frU_eq l, UInt8.ofNat_toNat]
def frB (s : ByteArray) (k : ByteArray → α) : α := match s with
  | ⟨⟨l⟩⟩ => frU l fun l => k ⟨⟨l⟩⟩
theorem frB_eq (s : ByteArray) (k : ByteArray → α) : frB s k = k s := by
  obtain ⟨⟨l⟩⟩ := s
  exact frU_eq l _
def Value.fr (s : Bool) (v : Value) (k : Value → α) : α := match v with
  | .bool b => match b with
    | true => k (.bool true)
    | false => k (.bool false)
  | .int kd n => frI n fun n => k (.int kd n)
  | .string b => match s with
    | true => frB b fun b => k (.string b)
    | false => k (.string b)
  | v => k v
theorem Value.fr_eq (s : Bool) (v : Value) (k : Value → α) : Value.fr s v k = k v := by
  cases v <;> simp only [Value.fr, frI_eq]
  · rename_i b; cases b <;> rfl
  · cases s <;> simp [frB_eq]
def AV.fr0 (s : Bool) (x : AV) (k : AV → α) : α := match x with
  | .d y => match y with
    | .a v => Value.fr s v fun v => k (.d (.a v))
    | .vs x n kk c => k (.d (.vs x n kk c))
  | .pc r j => frN r fun r => frN j fun j => k (.pc r j)
  | .ra r o l => frN r fun r => frN o fun o => frN l fun l => k (.ra r o l)
  | .pa r i j => frN r fun r => frN i fun i => frN j fun j => k (.pa r i j)
  | .mp r => frN r fun r => k (.mp r)
  | .it r => frN r fun r => k (.it r)
  | v => k v
theorem AV.fr0_eq (s : Bool) (x : AV) (k : AV → α) : x.fr0 s k = k x := by
  cases x <;> simp only [AV.fr0, frN_eq]
  rename_i y; cases y <;> simp only [Value.fr_eq]
def frL0 (s : Bool) : List AV → (List AV → α) → α
  | [], k => k []
  | x :: l, k => x.fr0 s fun x => frL0 s l fun l => k (x :: l)
theorem frL0_eq (s : Bool) : ∀ (l : List AV) (k : List AV → α), frL0 s l k = k l
  | [], _ => rfl
  | x :: l, k => by rw [frL0, AV.fr0_eq, frL0_eq s l]
def AV.fr1 (s : Bool) (x : AV) (k : AV → α) : α := match x with
  | .agg cs => frL0 s cs fun cs => k (.agg cs)
  | .fn f a b => frL0 s a fun a => frL0 s b fun b => k (.fn f a b)
  | v => v.fr0 s k
theorem AV.fr1_eq (s : Bool) (x : AV) (k : AV → α) : x.fr1 s k = k x := by cases x <;> simp only [AV.fr1, AV.fr0_eq, frL0_eq]
def frL1 (s : Bool) : List AV → (List AV → α) → α
  | [], k => k []
  | x :: l, k => x.fr1 s fun x => frL1 s l fun l => k (x :: l)
theorem frL1_eq (s : Bool) : ∀ (l : List AV) (k : List AV → α), frL1 s l k = k l
  | [], _ => rfl
  | x :: l, k => by rw [frL1, AV.fr1_eq, frL1_eq s l]
def AV.fr (s : Bool) (x : AV) (k : AV → α) : α := match x with
  | .tup cs => frL1 s cs fun cs => k (.tup cs)
  | v => v.fr1 s k
theorem AV.fr_eq (s : Bool) (x : AV) (k : AV → α) : x.fr s k = k x := by cases x <;> simp only [AV.fr, AV.fr1_eq, frL1_eq]
/-- A list's length alone. -/
def sp {β : Type} : List β → (List β → α) → α
  | [], k => k []
  | x :: l, k => sp l fun l => k (x :: l)
theorem sp_eq {β : Type} : ∀ (l : List β) (k : List β → α), sp l k = k l
  | [], _ => rfl
  | x :: l, k => by rw [sp, sp_eq l]
def frM : List (Value × Nat × AV) → (List (Value × Nat × AV) → α) → α
  | [], k => k []
  | (v, n, x) :: l, k => Value.fr false v fun v => frN n fun n => x.fr1 false fun x => frM l fun l => k ((v, n, x) :: l)
theorem frM_eq : ∀ (l : List (Value × Nat × AV)) (k : List (Value × Nat × AV) → α), frM l k = k l
  | [], _ => rfl
  | (v, n, x) :: l, k => by rw [frM, Value.fr_eq, frN_eq, AV.fr1_eq, frM_eq l]
def AO.fr (new : Bool) (x : AO) (k : AO → α) : α := match x with
  | .cells cs => match new with
    | true => frL0 false cs fun cs => k (.cells cs)
    | false => sp cs fun cs => k (.cells cs)
  | .rowA n kk cs => frN n fun n => frN kk fun kk => match new with
    | true => frL0 false cs fun cs => k (.rowA n kk cs)
    | false => sp cs fun cs => k (.rowA n kk cs)
  | .map es c => frM es fun es => frN c fun c => k (.map es c)
  | .itM m a q l => m.fr0 false fun m => frN a fun a => sp q fun q => frN l fun l => k (.itM m a q l)
  | .itS s p => frN p fun p => k (.itS s p)
  | o => k o
theorem AO.fr_eq (b : Bool) (x : AO) (k : AO → α) : x.fr b k = k x := by
  cases x <;> simp only [AO.fr, frN_eq, frM_eq, AV.fr0_eq, sp_eq]
  · cases b <;> simp only [frL0_eq]
  · cases b <;> simp only [frL0_eq]
end
/-! ### states -/
structure St where
  s : Tr AV
  t : Tr AO
  u : List Nat
  b : Nat
  f : Nat
  d : Nat
abbrev dO : Nat := 14
abbrev RE := RM Eff
def slotK (st : St) (n : Nat) (k : AV → RE) : RE := Tr.atK st.d n st.s (.fail 1001) k
def objK (st : St) (r : Nat) (k : AO → St → RE) : RE := @Option.rec AO (fun _ => RE) (.obj r fun o => @St.rec (fun _ => RE) (fun s t u b f d => Tr.setK o (.fail 1002) dO t r fun t => k o (.mk s t u b f d)) st) (fun o => k o st) (@Bool.rec (fun _ => Option AO) none (Tr.getB (bits dO r) st.t) (Nat.blt r (Nat.pow 2 dO)))
def noK (st : St) (r : Nat) (k : RE) : RE := @Option.rec AO (fun _ => RE) (.new r k) (fun _ => .fail 1003) (@Bool.rec (fun _ => Option AO) none (Tr.getB (bits dO r) st.t) (Nat.blt r (Nat.pow 2 dO)))
theorem at_rec {β : Type} (d r : Nat) (t : Tr β) : (@Bool.rec (fun _ => Option β) none (Tr.getB (bits d r) t) (Nat.blt r (Nat.pow 2 d))) = Tr.at d t r := by
  unfold Tr.at
  cases Nat.blt r (Nat.pow 2 d) <;> rfl
/-- A table. -/
def Tr.fn {β : Type} (d : Nat) (t : Tr β) (n : Nat) : Option β := @Bool.rec (fun _ => Option β) none (Tr.getB (bits d n) t) (Nat.blt n (Nat.pow 2 d))
theorem slotK_eq (st : St) (n : Nat) (k : AV → RE) : slotK st n k = match Tr.at st.d st.s n with
    | some v => k v
    | none => .fail 1001 := by
  unfold slotK
  rw [Tr.atK_eq]
  cases Tr.at st.d st.s n <;> rfl
theorem objK_eq (st : St) (r : Nat) (k : AO → St → RE) : objK st r k = match Tr.at dO st.t r with
    | some o => k o st
    | none => .obj r fun o => Tr.setK o (.fail 1002) dO st.t r fun t => k o (.mk st.s t st.u st.b st.f st.d) := by
  unfold objK
  rw [at_rec]
  cases st
  cases Tr.at dO _ r <;> rfl
theorem noK_eq (st : St) (r : Nat) (k : RE) : noK st r k = match Tr.at dO st.t r with
    | some _ => .fail 1003
    | none => .new r k := by
  unfold noK
  rw [at_rec]
  cases Tr.at dO st.t r <;> rfl
def RM.ip {α : Type} (m : RM α) : St → (α → St → RE) → RE := @RM.rec α (fun _ => St → (α → St → RE) → RE)
  (fun a st k => k a st)
  (fun n _ _ => .fail n)
  (fun n _ ih st k => slotK st n fun v => ih v st k)
  (fun r _ ih st k => objK st r fun o st => ih o st k)
  (fun r _ ih st k => noK st r (ih st k))
  (fun _ b _ _ ih st k => @Bool.rec (fun _ => RE) (.fail 1004) (ih st k) b)
  (fun b _ _ ih1 ih2 st k => @Bool.rec (fun _ => RE) (ih2 st k) (ih1 st k) b)
  (fun _ _ _ _ => .fail 1005) m
/-- .. with what is read. -/
def RM.ipR {α : Type} (m : RM α) : St → List Loc → (α → St → List Loc → RE) → RE := @RM.rec α (fun _ => St → List Loc → (α → St → List Loc → RE) → RE)
  (fun a st R k => k a st R)
  (fun n _ _ _ => .fail n)
  (fun n _ ih st R k => slotK st n fun v => ih v st (.s n :: R) k)
  (fun r _ ih st R k => objK st r fun o st => ih o st (.o r :: R) k)
  (fun r _ ih st R k => noK st r (ih st (.o r :: R) k))
  (fun _ b _ _ ih st R k => @Bool.rec (fun _ => RE) (.fail 1004) (ih st R k) b)
  (fun b _ _ ih1 ih2 st R k => @Bool.rec (fun _ => RE) (ih2 st R k) (ih1 st R k) b)
  (fun _ _ _ _ _ => .fail 1005) m
theorem ip_bind {α β : Type} (m : RM α) (f : α → RM β) (st : St) (k : β → St → RE) : (m.bind f).ip st k = m.ip st fun a st => (f a).ip st k := by
  induction m generalizing st with
  | pure a => rfl
  | fail n => rfl
  | slot n g ih => show slotK st n _ = slotK st n _; congr 1; funext v; exact ih v st
  | obj r g ih =>
    have e1 : ((RM.obj r g).bind f).ip st k = objK st r fun o st => ((g o).bind f).ip st k := rfl
    have e2 : (RM.obj r g).ip st (fun a st => (f a).ip st k) = objK st r fun o st => (g o).ip st fun a st => (f a).ip st k := rfl
    rw [e1, e2]
    congr 1
    funext o st
    exact ih o st
  | new r g ih => show noK st r _ = noK st r _; congr 1; exact ih st
  | chkT p b hb g ih => cases b with
    | true => exact ih st
    | false => rfl
  | br b x y i1 i2 => cases b with
    | true => exact i1 st
    | false => exact i2 st
  | ex g ih => rfl
/-- An operand, at once. -/
def constK (v : Value) (k : AV → RE) : RE := match v with
  | .agg cs => k (.agg (cs.toList.map av))
  | v => k (av v)
def opdK (x : Operand) (st : St) (k : AV → RE) : RE := @Operand.rec (fun _ => RE) (fun t => slotK st t k) (fun v => constK v k) (fun g => k (av (.pointer (some ⟨g, 0, none⟩)))) (fun f => k (.fn (.func f) [] [])) x
theorem opdK_eq (x : Operand) (st : St) (k : AV → St → RE) : (opd x).ip st k = opdK x st fun v => k v st := by
  cases x with
  | tmp t => rfl
  | const v => cases v <;> rfl
  | global g => rfl
  | func f => rfl
def putD (nt : Nat) (d : Option Nat) (v : AV) (st : St) (k : St → RE) : RE := @Option.rec Nat (fun _ => RE) (k st) (fun d => @Bool.rec (fun _ => RE) (.fail 1006) (@St.rec (fun _ => RE) (fun s t u b f e => Tr.setK v (.fail 1007) e s d fun s => k (.mk s t u b f e)) st) (Nat.blt d nt)) d
/-- Objects are turned. -/
def upH (up : Heap) : St → (St → RE) → RE := @List.rec (Nat × AO) (fun _ => St → (St → RE) → RE) (fun st k => k st) (fun x _ ih st k => ih st fun st => frN x.1 fun r => x.2.fr false fun o => @St.rec (fun _ => RE) (fun s t u b f d => @Bool.rec (fun _ => RE) (.fail 1008) (Tr.setK o (.fail 1009) dO t r fun t => @Bool.rec (fun _ => RE) (k (.mk s t (r :: u) b f d)) (k (.mk s t u b f d)) (Nat.ble b r)) (Nat.blt r f)) st) up
/-- Objects are made. -/
def nwH (nw : Heap) : St → (St → RE) → RE := @List.rec (Nat × AO) (fun _ => St → (St → RE) → RE) (fun st k => k st) (fun x _ ih st k => frN x.1 fun r => @St.rec (fun _ => RE) (fun s t u b f d => @Bool.rec (fun _ => RE) (.fail 1010) (noK (.mk s t u b f d) r (x.2.fr true fun o => Tr.setK o (.fail 1012) dO t r fun t => frN (Nat.succ f) fun f => ih (.mk s t u b f d) k)) (Nat.beq r f)) st) nw
/-- Does an operation make texts? -/
def strO : Op → Bool
  | .binOp .add _ _ _ _ => true
  | .slice _ _ _ _ _ => true
  | .convert _ _ _ => true
  | _ => false
def effX (E : Env) (o : Oper) (e : Eff) (st : St) (k : AV → St → RE) : RE := @Eff.rec (fun _ => RE) (fun v up nw => v.fr (strO o.op) fun v => upH up st fun st => nwH nw st fun st => putD E.nt o.dst v st fun st => k v st) e
/-- What a load comes to. -/
def loadV (d : TyD) (v : AV) : RM Eff := match v with
  | .pc r j => .obj r fun
    | .cells cs => need (Nat.ble (j + d.size) cs.length) ((wrapT d.k.agg ((cs.drop j).take d.size)).bind fun v => .pure ⟨v, [], []⟩)
    | _ => .fail 23
  | .pr r i j => .obj r fun
    | .row _ k c => need (Nat.ble (j + d.size) k) ((wrapT d.k.agg (rangeCells d.size fun q => c i (j + q))).bind fun v => .pure ⟨v, [], []⟩)
    | _ => .fail 24
  | .pv _ k c i j => need (Nat.ble (j + d.size) k) ((wrapT d.k.agg (rangeCells d.size fun q => c i (j + q))).bind fun v => .pure ⟨v, [], []⟩)
  | .pa r i j => .obj r fun
    | .rowA n k cs => need (Nat.ble (j + d.size) k && Nat.blt i n) ((wrapT d.k.agg ((cs.drop (i * k + j)).take d.size)).bind fun v => .pure ⟨v, [], []⟩)
    | _ => .fail 25
  | _ => .fail 25
/-- An operation without a guard, and what stands behind it; kn: its value is told already, and nothing else turns. -/
def stepK (op : Op) : Env → Nat → St → (Eff → St → RE) → (AV → St → RE) → RE := fun E d st kf kn => match op with
  | .move x => opdK x st fun v => kn v st
  | .assign x => opdK x st fun v => kn v st
  | .binOp op t x y _ => opdK x st fun x => opdK y st fun y => (binOp E op t x y).ip st fun v st => kf ⟨v, [], []⟩ st
  | .pick c a b => opdK c st fun c => (asB c).ip st fun c st => @Bool.rec (fun _ => RE) (opdK b st fun v => kn v st) (opdK a st fun v => kn v st) c
  | .extract x i => opdK x st fun x => (match x with
    | .tup vs => match vs[i]? with
      | some v => kn v st
      | none => .fail 40
    | _ => .fail 41)
  | .load t x => (ty E t).ip st fun d st => opdK x st fun v => (match v with
    | .pc r j => objK st r fun o st => (match o with
      | .cells cs => (need (Nat.ble (j + d.size) cs.length) (wrapT d.k.agg ((cs.drop j).take d.size))).ip st fun v st => kf ⟨v, [], []⟩ st
      | _ => .fail 23)
    | v => (loadV d v).ip st kf)
  | op => (step E d st.f op).ip st kf
def regO (E : Env) (ops : List Oper) (o : Oper) (st : St) (k : St → RE) : RE := @Option.rec (Nat × Bool) (fun _ => RE)
  (stepK o.op E (o.dst.getD 0) st (fun e st => effX E o e st fun _ st => k st) (fun v st => putD E.nt o.dst v st k))
  (fun _ => (guarded ops o (step E (o.dst.getD 0) st.f o.op)).ip st fun e st => effX E o e st fun _ st => k st) o.guard
theorem opdK_ip {x : Operand} {st : St} {k : AV → St → RE} : (opd x).ip st k = opdK x st fun v => k v st := opdK_eq x st k
theorem stepK_eq (op : Op) (E : Env) (d : Nat) (st : St) (kf : Eff → St → RE) (kn : AV → St → RE) (h : ∀ v st, kn v st = kf ⟨v, [], []⟩ st) : stepK op E d st kf kn = (step E d st.f op).ip st kf := by
  cases op with
  | move x =>
    show opdK x st _ = ((opd x).bind fun v => RM.pure (Eff.mk v [] [])).ip st kf
    rw [ip_bind, opdK_ip]
    congr 1; funext v; exact h v st
  | assign x =>
    show opdK x st _ = ((opd x).bind fun v => RM.pure (Eff.mk v [] [])).ip st kf
    rw [ip_bind, opdK_ip]
    congr 1; funext v; exact h v st
  | binOp op t x y t' =>
    show opdK x st _ = ((opd x).bind fun x => (opd y).bind fun y => (binOp E op t x y).bind fun v => RM.pure (Eff.mk v [] [])).ip st kf
    simp only [ip_bind, opdK_ip]
    rfl
  | pick c a b =>
    show opdK c st _ = ((opd c).bind fun c => (asB c).bind fun c => RM.br c ((opd a).bind fun v => RM.pure (Eff.mk v [] [])) ((opd b).bind fun v => RM.pure (Eff.mk v [] []))).ip st kf
    simp only [ip_bind, opdK_ip]
    congr 1; funext v; congr 1; funext c st
    cases c with
    | true =>
      show opdK a st _ = ((opd a).bind _).ip st kf
      rw [ip_bind, opdK_ip]
      congr 1; funext v; exact h v st
    | false =>
      show opdK b st _ = ((opd b).bind _).ip st kf
      rw [ip_bind, opdK_ip]
      congr 1; funext v; exact h v st
  | extract x i =>
    show opdK x st _ = ((opd x).bind fun x => match x with
      | .tup vs => match vs[i]? with
        | some v => RM.pure (Eff.mk v [] [])
        | none => .fail 40
      | _ => .fail 41).ip st kf
    rw [ip_bind, opdK_ip]
    congr 1; funext v
    cases v with
    | tup vs =>
      simp only
      cases vs[i]? with
      | some v => exact h v st
      | none => rfl
    | _ => rfl
  | load t x =>
    show (ty E t).ip st _ = ((ty E t).bind fun d => (opd x).bind fun v => loadV d v).ip st kf
    simp only [ip_bind, opdK_ip]
    congr 1; funext d st; congr 1; funext v
    cases v with
    | pc r j =>
      have e : (loadV d (.pc r j)).ip st kf = objK st r fun o st => (match o with
        | .cells cs => need (Nat.ble (j + d.size) cs.length) ((wrapT d.k.agg ((cs.drop j).take d.size)).bind fun v => .pure ⟨v, [], []⟩)
        | _ => .fail 23 : RM Eff).ip st kf := rfl
      rw [e]
      simp only
      congr 1; funext o st
      cases o with
      | cells cs =>
        simp only
        cases Nat.ble (j + d.size) cs.length with
        | true => simp only [need, ip_bind]; rfl
        | false => rfl
      | _ => rfl
    | _ => rfl
  | _ => rfl
theorem effX_mk (E : Env) (o : Oper) (v : AV) (st : St) (k : AV → St → RE) : effX E o ⟨v, [], []⟩ st k = putD E.nt o.dst v st fun st => k v st := by
  have e : effX E o ⟨v, [], []⟩ st k = v.fr (strO o.op) fun v => upH [] st fun st => nwH [] st fun st => putD E.nt o.dst v st fun st => k v st := rfl
  rw [e, AV.fr_eq]
  rfl
theorem regO_eq (E : Env) (ops : List Oper) (o : Oper) (st : St) (k : St → RE) : regO E ops o st k = (guarded ops o (step E (o.dst.getD 0) st.f o.op)).ip st fun e st => effX E o e st fun _ st => k st := by
  unfold regO guarded
  cases o.guard with
  | none => exact stepK_eq _ _ _ _ _ _ fun v st => (effX_mk E o v st fun _ st => k st).symm
  | some j => rfl
def regX (E : Env) (ops : List Oper) (l : List Oper) : St → (St → RE) → RE := @List.rec Oper (fun _ => St → (St → RE) → RE) (fun st k => k st) (fun o _ ih st k => regO E ops o st fun st => ih st k) l
def drX (E : Env) (ops : List Oper) (l : List Oper) : St → List Rec → (St → RE) → RE := @List.rec Oper (fun _ => St → List Rec → (St → RE) → RE)
  (fun st acc k => @Bool.rec (fun _ => RE) (.fail 1013) (k st) (noInt ops 0 acc.reverse && edgesOk 0 ops))
  (fun o _ ih st acc k => (guarded ops o (step E (o.dst.getD 0) st.f o.op)).ipR st [] fun e st R => @Eff.rec (fun _ => RE) (fun v up nw => effX E o (.mk v up nw) st fun v st => ih st (⟨o.dst, v, up, nw, R⟩ :: acc) k) e) l
def loopX (body : St → (Ex → St → RE) → RE) (n : Nat) : St → (Ex → St → RE) → RE := @Nat.rec (fun _ => St → (Ex → St → RE) → RE) (fun _ _ => .fail 1014) (fun _ ih st k => body st fun e st => @Ex.rec (fun _ => RE) (ih st k) (fun j => k (.ext j) st) (k .ret st) e) n
def execX (E : Env) (fuel : Nat) (c : Code) : St → (Ex → St → RE) → RE := @Code.rec (fun _ => St → (Ex → St → RE) → RE)
  (fun st k => k .nrm st)
  (fun _ ops d st k => @Bool.rec (fun _ => RE) (regX E ops.toList ops.toList st (k .nrm)) (drX E ops.toList ops.toList st [] (k .nrm)) d)
  (fun _ _ i1 i2 st k => i1 st fun e st => @Ex.rec (fun _ => RE) (i2 st k) (fun j => k (.ext j) st) (k .ret st) e)
  (fun c _ _ i1 i2 st k => opdK c st fun v => (asB v).ip st fun b st => @Bool.rec (fun _ => RE) (i2 st k) (i1 st k) b)
  (fun id _ ih st k => ih st fun e st => @Ex.rec (fun _ => RE) (k .nrm st) (fun j => @Bool.rec (fun _ => RE) (k (.ext j) st) (k .nrm st) (Nat.beq j id)) (k .ret st) e)
  (fun _ ih st k => loopX ih fuel st k)
  (fun _ _ _ _ _ _ _ _ => .fail 1015)
  (fun id st k => k (.ext id) st)
  (fun _ ih st k => ih st k)
  (fun _ st k => k .nrm st)
  (fun _ _ _ => .fail 1015)
  (fun st k => k .ret st)
  (fun _ _ _ => .fail 1015) c
def hasH (r : Nat) : Heap → Bool
  | [] => false
  | (q, _) :: l => match Nat.beq q r with
    | true => true
    | false => hasH r l
/-- What was turned. -/
def gatU (t : Tr AO) : List Nat → Heap → (Heap → RE) → RE
  | [], up, k => k up
  | r :: l, up, k => match hasH r up with
    | true => gatU t l up k
    | false => match Tr.at dO t r with
      | none => .fail 1016
      | some o => gatU t l ((r, o) :: up) k
/-- What was made: n objects from r on. -/
def gatN (t : Tr AO) : Nat → Nat → (Heap → RE) → RE
  | _, 0, k => k []
  | r, n + 1, k => match Tr.at dO t r with
    | none => .fail 1017
    | some o => frN (Nat.succ r) fun r' => gatN t r' n fun l => k ((r, o) :: l)
def argX (d : Nat) : List AV → Nat → Tr AV → (Tr AV → RE) → RE
  | [], _, s, k => k s
  | v :: l, i, s, k => Tr.setK v (.fail 1018) d s i fun s => frN (Nat.succ i) fun i => argX d l i s k
/-- How deep the tree of the slots is. -/
def dOf (n : Nat) : Nat := match Nat.ble n 32 with
  | true => 5
  | false => match Nat.ble n 64 with
    | true => 6
    | false => match Nat.ble n 128 with
      | true => 7
      | false => 9
def bodyX (E : Env) (fuel : Nat) (c : Code) (rs : List ResultVar) (args : List AV) (fr : Nat) : RE :=
  argX (dOf E.nt) args 0 .nil fun s => execX E fuel c (.mk s .nil [] fr fr (dOf E.nt)) fun e st => match e with
    | .ext _ => .fail 1019
    | _ => (resR E rs).ip st fun vs st => (pack vs).fr false fun v => match st with
      | .mk _ t u _ f _ => gatU t u [] fun up => gatN t fr (Nat.sub f fr) fun nw => .pure (.mk v up nw)
/-- What functions come to; tab: their texts. -/
def sumX (tt : Nat → Option TyD) (ext : Nat → Option Summ) (tab : Nat → Option Func) (fuel : Nat) : Nat → Nat → Option Summ
  | 0 => fun _ => none
  | n + 1 => fun g => match ext g with
    | some s => some s
    | none => match tab g with
      | none => none
      | some fn => match fn.body with
        | none => none
        | some c => some fun args fr => bodyX ⟨tt, sumX tt ext tab fuel n, [], fn.ntmps, true⟩ fuel c fn.results.toList args fr
/-- A reading, done: obs: what there is. -/
def RM.run {α : Type} (obs : Tr AO) : RM α → Option α
  | .pure a => some a
  | .fail _ => none
  | .slot _ _ => none
  | .obj r f => match Tr.at dO obs r with
    | some o => (f o).run obs
    | none => none
  | .new r f => match Tr.at dO obs r with
    | some _ => none
    | none => f.run obs
  | .chkT _ b _ m => match b with
    | true => m.run obs
    | false => none
  | .br b x y => match b with
    | true => x.run obs
    | false => y.run obs
  | .ex _ => none
/-- Why it falls. -/
def RM.why {α : Type} (obs : Tr AO) : RM α → Nat
  | .pure _ => 0
  | .fail n => n
  | .slot _ _ => 2001
  | .obj r f => match Tr.at dO obs r with
    | some o => (f o).why obs
    | none => 2002
  | .new r f => match Tr.at dO obs r with
    | some _ => 2003
    | none => f.why obs
  | .chkT _ b _ m => match b with
    | true => m.why obs
    | false => 2004
  | .br b x y => match b with
    | true => x.why obs
    | false => y.why obs
  | .ex _ => 2005
end
end Go.XM
