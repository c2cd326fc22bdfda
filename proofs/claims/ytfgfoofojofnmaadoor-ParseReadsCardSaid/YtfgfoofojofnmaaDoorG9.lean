/- An abstract machine over values, beside the model's: what a function's text comes to, state by state. -/
import Derived.WalkKit
import Derived.KernelRfl
import Derived.Orders
import Derived.Below
import Derived.Laws.Tables
import Derived.Deep.AppendSrc
import Derived.Deep.DeepAppendWide
import Derived.Great.BuildSlice
set_option linter.unusedVariables false
set_option linter.unusedSimpArgs false
namespace Go.VM
/-- Plain data: an atom, or a slice by value of n elements with k cells each (x: its capacity is its length). -/
inductive D where
  | a (x : Value)
  | vs (x : Bool) (n k : Nat) (c : Nat → Nat → D)
instance : Inhabited D := ⟨.a (.bool false)⟩
/-- What a slot may hold. -/
inductive AV where
  | d (x : D)
  | rs (r off len : Nat)
  | pc (r j : Nat)
  | pr (r i j : Nat)
  | pv (n k : Nat) (c : Nat → Nat → D) (i j : Nat)
  | mp (r : Nat)
  | fn (f : Fn) (first captured : List AV)
  | agg (cs : List AV)
  | tup (vs : List AV)
instance : Inhabited AV := ⟨.d default⟩
/-- Objects in memory. -/
inductive AO where
  | dead
  | cells (cs : List AV)
  | row (n k : Nat) (c : Nat → Nat → D)
  | map (n : Nat) (has : Value → Bool) (get : Value → List D)
abbrev av (x : Value) : AV := .d (.a x)
universe u
def get {β : Type u} : List (Nat × β) → Nat → Option β
  | [], _ => none
  | (m, b) :: l, n => match Nat.beq m n with
    | true => some b
    | false => get l n
/-- What must hold, and then q. -/
structure Chk (p q : Prop) : Prop where
  l : p
  r : q
structure Br (b : Bool) (p q : Prop) : Prop where
  t : b = true → p
  f : b = false → q
abbrev Slots := List (Nat × AV)
abbrev Heap := List (Nat × AO)
/-- Reading, with checks. -/
inductive RM (α : Type) : Type 1 where
  | pure (a : α)
  | fail (why : Nat)
  | slot (n : Nat) (k : AV → RM α)
  | obj (r : Nat) (k : AO → RM α)
  | chk (p : Prop) (k : RM α)
  | br (b : Bool) (t e : RM α)
  | ex {X : Type} (k : X → RM α)
namespace RM
def bind {α β : Type} : RM α → (α → RM β) → RM β
  | .pure a, f => f a
  | .fail n, _ => .fail n
  | .slot n k, f => .slot n fun v => (k v).bind f
  | .obj r k, f => .obj r fun v => (k v).bind f
  | .chk p k, f => .chk p (k.bind f)
  | .br b t e, f => .br b (t.bind f) (e.bind f)
  | .ex k, f => .ex fun x => (k x).bind f
/-- What must hold for Q. -/
def wp {α : Type} : RM α → Slots → Heap → (α → Prop) → Prop
  | .pure a, _, _, Q => Q a
  | .fail _, _, _, _ => False
  | .slot n k, s, h, Q => match get s n with
    | some v => (k v).wp s h Q
    | none => False
  | .obj r k, s, h, Q => match get h r with
    | some o => (k o).wp s h Q
    | none => False
  | .chk p k, s, h, Q => Chk p (k.wp s h Q)
  | .br b t e, s, h, Q => Br b (t.wp s h Q) (e.wp s h Q)
  | .ex k, s, h, Q => ∃ x, (k x).wp s h Q
end RM
/-! ### types -/
inductive TyK where
  | atom
  | struct (fo : List (Nat × Nat × Bool))
  | arr (n elem : Nat)
  | slice (elem : Nat)
  | map (key elem : Nat)
  | str
  | ptr
  | func
structure TyD where
  k : TyK
  size : Nat
  zero : List Value
  bytes : Nat
def TyK.agg : TyK → Bool
  | .struct _ => true
  | .arr _ _ => true
  | _ => false
/-- What an operation comes to: its value, the objects that it turns, the objects that it makes. -/
inductive Eff where
  | mk (val : AV) (up nw : Heap)
abbrev Summ := List AV → Nat → RM Eff
/-- A function's surroundings: the types, the functions that are known, the operations whose new rows are values at once. -/
structure Env where
  tt : List (Nat × TyD)
  fs : List (Nat × Summ)
  vals : List Nat
  nt : Nat
section
variable (E : Env)
/-- The first test that holds, or nothing. -/
def need {α : Type} (b : Bool) (m : RM α) : RM α := match b with
  | true => m
  | false => .fail 60
def opd : Operand → RM AV
  | .tmp t => .slot t .pure
  | .const (.agg cs) => .pure (.agg (cs.toList.map av))
  | .const v => .pure (av v)
  | .global g => .pure (av (.pointer (some ⟨g, 0, none⟩)))
  | .func f => .pure (.fn (.func f) [] [])
def opds : List Operand → RM (List AV)
  | [] => .pure []
  | x :: l => (opd x).bind fun v => (opds l).bind fun vs => .pure (v :: vs)
def oopd : Option Operand → RM (Option AV)
  | none => .pure none
  | some l => (opd l).bind fun v => .pure (some v)
def ty (t : Nat) : RM TyD := match get E.tt t with
  | some d => .pure d
  | none => .fail 1
def AV.cells : AV → List AV
  | .agg cs => cs
  | v => [v]
/-- May it lie in one cell? -/
def Value.one : Value → Bool
  | .agg _ => false
  | .tuple _ => false
  | _ => true
def D.ok : D → Bool
  | .a x => Value.one x
  | .vs _ _ _ _ => true
def AV.ok : AV → Bool
  | .d x => x.ok
  | .agg _ => false
  | .tup _ => false
  | _ => true
def oks : List AV → Bool
  | [] => true
  | x :: l => match x.ok with
    | true => oks l
    | false => false
def AV.toD : AV → RM D
  | .d x => match x.ok with
    | true => .pure x
    | false => .fail 2
  | _ => .fail 2
def toDs : List AV → RM (List D)
  | [] => .pure []
  | x :: l => x.toD.bind fun v => (toDs l).bind fun vs => .pure (v :: vs)
/-- n cells as a value of a type. -/
def wrapT (agg : Bool) (cs : List AV) : RM AV := match agg with
  | true => .pure (.agg cs)
  | false => match cs with
    | [v] => .pure v
    | _ => .fail 3
def asI : AV → RM (IntKind × Int)
  | .d (.a (.int k n)) => .pure (k, n)
  | _ => .fail 4
def asB : AV → RM Bool
  | .d (.a (.bool b)) => .pure b
  | _ => .fail 5
def putL {β : Type} : List β → Nat → List β → List β
  | l, _, [] => l
  | l, j, x :: xs => putL (l.set j x) (j + 1) xs
/-- A store into a row: element i, cells j .. -/
def putC (c : Nat → Nat → D) (i j : Nat) (xs : List D) : Nat → Nat → D := fun i' j' =>
  if i' = i ∧ j ≤ j' ∧ j' < j + xs.length then xs.getD (j' - j) default else c i' j'
/-- n elements behind m. -/
def appC (n : Nat) (c : Nat → Nat → D) (c' : Nat → Nat → D) : Nat → Nat → D := fun i j => if i < n then c i j else c' (i - n) j
def litC (k : Nat) (xs : List D) : Nat → Nat → D := fun i j => xs.getD (i * k + j) default
def rangeCells (k : Nat) (f : Nat → D) : List AV := (List.range k).map fun j => .d (f j)
/-- A new row: a row of one's own, or a value. -/
def newRow (dst : Nat) (fresh : Nat) (x : Bool) (n k : Nat) (c : Nat → Nat → D) : Eff := match E.vals.contains dst with
  | true => ⟨.d (.vs x n k c), [], []⟩
  | false => ⟨.rs fresh 0 n, [], [(fresh, .row n k c)]⟩
/-- .. in the place of another one. -/
def outRow (dst fresh r n k : Nat) (c : Nat → Nat → D) : Eff := match E.vals.contains dst with
  | true => ⟨.d (.vs false n k c), [(r, .dead)], []⟩
  | false => ⟨.rs fresh 0 n, [(r, .dead)], [(fresh, .row n k c)]⟩
/-- A slice's elements, read. -/
def rowOf (kk : Nat) : AV → RM (Nat × (Nat → Nat → D))
  | .d (.a (.slice none 0 0)) => .pure (0, fun _ _ => default)
  | .d (.vs _ n k c) => need (Nat.beq k kk) (.pure (n, c))
  | .rs r off len => .obj r fun
    | .row _ k c => need (Nat.beq k kk) (.pure (len, fun i j => c (off + i) j))
    | _ => .fail 8
  | _ => .fail 9
/-- How long it is. -/
def lenOf (k : TyK) (x : AV) : RM AV := match k with
  | .str => match x with
    | .d (.a (.string s)) => .pure (av (.int .i64 s.size))
    | _ => .fail 73
  | .slice _ => match x with
    | .d (.a (.slice none 0 0)) => .pure (av (.int .i64 0))
    | .d (.vs _ n _ _) => .pure (av (.int .i64 n))
    | .rs _ _ n => .pure (av (.int .i64 n))
    | _ => .fail 74
  | _ => .fail 75
/-- What is appended. -/
def srcOf (k : TyK) (kk : Nat) (y : AV) : RM (Nat × (Nat → Nat → D)) := match k with
  | .slice _ => rowOf kk y
  | .str => match y with
    | .d (.a (.string s)) => match Nat.beq kk 1 with
      | true => .pure (s.size, fun i _ => .a (.int .u8 (s.data.getD i 0).toNat))
      | false => .fail 69
    | _ => .fail 70
  | _ => .fail 71
def inBound (x : AV) (n : Nat) : RM Nat := (asI x).bind fun p => .chk (0 ≤ p.2 ∧ p.2 < n) (.pure p.2.toNat)
def upTo (x : Option AV) (dflt n : Nat) : RM Nat := match x with
  | none => .pure dflt
  | some x => (asI x).bind fun p => .chk (0 ≤ p.2 ∧ p.2 ≤ n) (.pure p.2.toNat)
def fieldOf (t f : Nat) : RM (Nat × Nat × Bool) := (ty E t).bind fun d => match d.k with
  | .struct fo => match fo[f]? with
    | some x => .pure x
    | none => .fail 10
  | _ => .fail 11
def elemS (t : Nat) : RM Nat := (ty E t).bind fun d => match d.k with
  | .slice e => .pure e
  | _ => .fail 68
/-- A list, told cell by cell. -/
def spineK {α : Type} : List AV → (List AV → RM α) → RM α
  | [], k => k []
  | x :: l, k => spineK l fun l => k (x :: l)
theorem spineK_eq {α : Type} : ∀ (l : List AV) (k : List AV → RM α), spineK l k = k l
  | [], _ => rfl
  | x :: l, k => by rw [spineK, spineK_eq l]
def lenEq : List AV → Nat → Bool
  | [], 0 => true
  | _ :: l, n + 1 => lenEq l n
  | _, _ => false
def lenLe : Nat → List AV → Bool
  | 0, _ => true
  | n + 1, _ :: l => lenLe n l
  | _ + 1, [] => false
theorem lenEq_eq : ∀ {l : List AV} {n : Nat}, lenEq l n = true → l.length = n
  | [], 0, _ => rfl
  | _ :: l, n + 1, h => by rw [List.length_cons, lenEq_eq (l := l) (n := n) h]
  | [], _ + 1, h => by cases h
  | _ :: _, 0, h => by cases h
theorem lenLe_le : ∀ {n : Nat} {l : List AV}, lenLe n l = true → n ≤ l.length
  | 0, _, _ => Nat.zero_le _
  | n + 1, _ :: l, h => by rw [List.length_cons]; exact Nat.succ_le_succ (lenLe_le (l := l) h)
  | _ + 1, [], h => by cases h
def fillL (place : Nat → Option (Nat × Nat)) : List AV → List (Nat × AV) → RM (List AV)
  | cs, [] => .pure cs
  | cs, (i, v) :: l => match place i with
    | none => .fail 13
    | some (off, size) => match oks v.cells && (lenEq v.cells size && lenLe (off + size) cs) with
      | true => spineK (putL cs off v.cells) fun cs => fillL place cs l
      | false => .fail 14
/-- n times the zero value of a type. -/
def zeroL (n : Nat) (z : List Value) : List Value := (List.range (n * z.length)).map fun j => z.getD (j % z.length) (.bool false)
/-- Sums and comparisons of whole numbers. -/
def intOp (op : BinOp) (k : IntKind) (x y : Int) : RM AV := match op with
  | .add => .pure (av (.int k (k.wrap (x + y))))
  | .sub => .pure (av (.int k (k.wrap (x - y))))
  | .mul => .pure (av (.int k (k.wrap (x * y))))
  | .quo => .chk (y ≠ 0) (.pure (av (.int k (k.wrap (x.tdiv y)))))
  | .rem => .chk (y ≠ 0) (.pure (av (.int k (x.tmod y))))
  | .eql => .pure (av (.bool (x == y)))
  | .neq => .pure (av (.bool (x != y)))
  | .lss => .pure (av (.bool (decide (x < y))))
  | .leq => .pure (av (.bool (decide (x ≤ y))))
  | .gtr => .pure (av (.bool (decide (x > y))))
  | .geq => .pure (av (.bool (decide (x ≥ y))))
  | _ => .fail 15
def strOp (op : BinOp) (x y : ByteArray) : RM AV := match op with
  | .add => .chk (x.size + y.size ≤ 4611686018427387904) (.pure (av (.string (x ++ y))))
  | .eql => .pure (av (.bool (x.toList == y.toList)))
  | .neq => .pure (av (.bool (!(x.toList == y.toList))))
  | .lss => .pure (av (.bool (Op.bytesLess x.toList y.toList)))
  | .leq => .pure (av (.bool (Op.bytesLess x.toList y.toList || x.toList == y.toList)))
  | .gtr => .pure (av (.bool !(Op.bytesLess x.toList y.toList || x.toList == y.toList)))
  | .geq => .pure (av (.bool !(Op.bytesLess x.toList y.toList)))
  | _ => .fail 16
/-- Is it surely no nil? -/
def isRef : AV → Bool
  | .pc _ _ => true
  | .pr _ _ _ => true
  | .mp _ => true
  | .fn (.func _) _ _ => true
  | _ => false
/-- Against nil: some b: the answer to '=='. -/
def nilEq (k : TyK) (x y : AV) : Option Bool := match k, x, y with
  | .ptr, .pc _ _, .d (.a (.pointer none)) => some false
  | .ptr, .pr _ _ _, .d (.a (.pointer none)) => some false
  | .ptr, .d (.a (.pointer none)), .pc _ _ => some false
  | .ptr, .d (.a (.pointer none)), .pr _ _ _ => some false
  | .ptr, .d (.a (.pointer none)), .d (.a (.pointer none)) => some true
  | .map _ _, .mp _, .d (.a (.map none)) => some false
  | .map _ _, .d (.a (.map none)), .d (.a (.map none)) => some true
  | .func, .fn _ _ _, .d (.a .nilFunc) => some false
  | .func, .d (.a .nilFunc), .d (.a .nilFunc) => some true
  | .slice _, .d (.a (.slice none _ _)), .d (.a (.slice none _ _)) => some true
  | _, _, _ => none
def binOp (E : Env) (op : BinOp) (t : Nat) (x y : AV) : RM AV := match x, y with
  | .d (.a (.int k a)), .d (.a (.int k' b)) => if k = k' then intOp op k a b else .fail 17
  | .d (.a (.string a)), .d (.a (.string b)) => strOp op a b
  | x, y => (ty E t).bind fun d => match op, nilEq d.k x y with
    | .eql, some b => .pure (av (.bool b))
    | .neq, some b => .pure (av (.bool (!b)))
    | _, _ => .fail 21
/-- What an operation comes to. dst: the slot that it writes; fresh: the name of what it makes. -/
def step (dst fresh : Nat) (op : Op) : RM Eff := match op with
  | .move x => (opd x).bind fun v => .pure ⟨v, [], []⟩
  | .assign x => (opd x).bind fun v => .pure ⟨v, [], []⟩
  | .pick c a b => (opd c).bind fun c => (asB c).bind fun c => .br c ((opd a).bind fun v => .pure ⟨v, [], []⟩) ((opd b).bind fun v => .pure ⟨v, [], []⟩)
  | .alloc t => (ty E t).bind fun d => match d.k with
    | .arr n e => (ty E e).bind fun de => need (Nat.blt 0 n && Nat.ble (n * de.size) d.zero.length) (.pure ⟨.pr fresh 0 0, [], [(fresh, .row n de.size (litC de.size (d.zero.map .a)))]⟩)
    | _ => .pure ⟨.pc fresh 0, [], [(fresh, .cells (d.zero.map av))]⟩
  | .box _ x => (opd x).bind fun v => need (oks v.cells) (.pure ⟨.pc fresh 0, [], [(fresh, .cells v.cells)]⟩)
  | .build t ps => (ty E t).bind fun d => (opds (ps.toList.map (·.2))).bind fun vs => match d.k with
    | .struct fo => (fillL (fun i => (fo[i]?).map fun x => (x.1, x.2.1)) (d.zero.map av) ((ps.toList.map (·.1)).zip vs)).bind fun cs => .pure ⟨.agg cs, [], []⟩
    | .arr _ e => (ty E e).bind fun de => (fillL (fun i => some (i * de.size, de.size)) (d.zero.map av) ((ps.toList.map (·.1)).zip vs)).bind fun cs => .pure ⟨.agg cs, [], []⟩
    | _ => .fail 22
  | .buildSlice t n ps => (elemS E t).bind fun e => (ty E e).bind fun de => (opds (ps.toList.map (·.2))).bind fun vs => need (Nat.ble (n * de.size) 16777216 && Nat.blt 0 de.size)
    ((fillL (fun i => some (i * de.size, de.size)) ((zeroL n de.zero).map av) ((ps.toList.map (·.1)).zip vs)).bind fun cs => (toDs cs).bind fun ds => .pure (newRow E dst fresh true n de.size (litC de.size ds)))
  | .load t x => (ty E t).bind fun d => (opd x).bind fun v => match v with
    | .pc r j => .obj r fun
      | .cells cs => need (Nat.ble (j + d.size) cs.length) ((wrapT d.k.agg ((cs.drop j).take d.size)).bind fun v => .pure ⟨v, [], []⟩)
      | _ => .fail 23
    | .pr r i j => .obj r fun
      | .row _ k c => need (Nat.ble (j + d.size) k) ((wrapT d.k.agg (rangeCells d.size fun q => c i (j + q))).bind fun v => .pure ⟨v, [], []⟩)
      | _ => .fail 24
    | .pv _ k c i j => need (Nat.ble (j + d.size) k) ((wrapT d.k.agg (rangeCells d.size fun q => c i (j + q))).bind fun v => .pure ⟨v, [], []⟩)
    | _ => .fail 25
  | .store t x y => (ty E t).bind fun d => (opd x).bind fun p => (opd y).bind fun v => need (oks v.cells && Nat.beq v.cells.length d.size) (match p with
    | .pc r j => .obj r fun
      | .cells cs => need (Nat.ble (j + v.cells.length) cs.length) (.pure ⟨av undef, [(r, .cells (putL cs j v.cells))], []⟩)
      | _ => .fail 27
    | .pr r i j => .obj r fun
      | .row n k c => (toDs v.cells).bind fun ds => need (Nat.ble (j + v.cells.length) k) (.pure ⟨av undef, [(r, .row n k (putC c i j ds))], []⟩)
      | _ => .fail 29
    | _ => .fail 30)
  | .nilCheck x => (opd x).bind fun v => match isRef v with
    | true => .pure ⟨v, [], []⟩
    | false => .fail 31
  | .binOp op t x y _ => (opd x).bind fun x => (opd y).bind fun y => (binOp E op t x y).bind fun v => .pure ⟨v, [], []⟩
  | .unOp op _ x => (opd x).bind fun x => match op, x with
    | .not, .d (.a (.bool b)) => .pure ⟨av (.bool !b), [], []⟩
    | .neg, .d (.a (.int k n)) => .pure ⟨av (.int k (k.wrap (0 - n))), [], []⟩
    | _, _ => .fail 32
  | .fieldAddr t x f => (fieldOf E t f).bind fun fo => (opd x).bind fun v => need (Nat.blt 0 fo.2.1) (match v with
    | .pc r j => .pure ⟨.pc r (j + fo.1), [], []⟩
    | .pr r i j => .pure ⟨.pr r i (j + fo.1), [], []⟩
    | .pv n k c i j => .pure ⟨.pv n k c i (j + fo.1), [], []⟩
    | _ => .fail 33)
  | .field t x f => (fieldOf E t f).bind fun fo => (opd x).bind fun v => match v with
    | .agg cs => (wrapT fo.2.2 ((cs.drop fo.1).take fo.2.1)).bind fun v => .pure ⟨v, [], []⟩
    | _ => .fail 34
  | .indexAddr t x i => (ty E t).bind fun d => (opd x).bind fun x => (opd i).bind fun i => match d.k with
    | .slice e => (ty E e).bind fun de => match x with
      | .d (.vs _ n k c) => need (Nat.beq k de.size) ((inBound i n).bind fun i => .pure ⟨.pv n k c i 0, [], []⟩)
      | .rs r off len => .obj r fun
        | .row _ k _ => need (Nat.beq k de.size) ((inBound i len).bind fun i => .pure ⟨.pr r (off + i) 0, [], []⟩)
        | _ => .fail 34
      | _ => .fail 36
    | .arr m e => (ty E e).bind fun de => match x with
      | .pr r 0 0 => .obj r fun
        | .row n k _ => need (Nat.beq k de.size && Nat.beq m n) ((inBound i n).bind fun i => .pure ⟨.pr r i 0, [], []⟩)
        | _ => .fail 35
      | _ => .fail 61
    | _ => .fail 67
  | .index t x i => (ty E t).bind fun d => (opd x).bind fun x => (opd i).bind fun i => match d.k, x with
    | .str, .d (.a (.string s)) => (inBound i s.size).bind fun i => .pure ⟨av (.int .u8 (s.data.getD i 0).toNat), [], []⟩
    | _, _ => .fail 37
  | .slice t x lo hi mx => match mx with
    | some _ => .fail 38
    | none => (ty E t).bind fun d => (opd x).bind fun x => (oopd lo).bind fun lo => (oopd hi).bind fun hi => match x with
      | .d (.a (.string s)) => match d.k with
        | .str => (upTo hi s.size s.size).bind fun h => (upTo lo 0 h).bind fun l => .pure ⟨av (.string (s.extract l h)), [], []⟩
        | _ => .fail 62
      | .d (.a (.slice none 0 0)) => match d.k with
        | .slice e => (ty E e).bind fun _ => (upTo hi 0 0).bind fun h => (upTo lo 0 h).bind fun _ => .pure ⟨av (.slice none 0 0), [], []⟩
        | _ => .fail 63
      | .d (.vs x n k c) => match d.k with
        | .slice e => (ty E e).bind fun de => need (Nat.beq k de.size) ((upTo hi n n).bind fun h => (upTo lo 0 h).bind fun l => .pure ⟨.d (.vs (x && hi.isNone) (h - l) k (fun i j => c (l + i) j)), [], []⟩)
        | _ => .fail 64
      | .rs r off len => match d.k with
        | .slice e => (ty E e).bind fun de => .obj r fun
          | .row _ k _ => need (Nat.beq k de.size) ((upTo hi len len).bind fun h => (upTo lo 0 h).bind fun l => .pure ⟨.rs r (off + l) (h - l), [], []⟩)
          | _ => .fail 65
        | _ => .fail 66
      | _ => .fail 39
  | .extract x i => (opd x).bind fun x => match x with
    | .tup vs => match vs[i]? with
      | some v => .pure ⟨v, [], []⟩
      | none => .fail 40
    | _ => .fail 41
  | .makeFunc f a b => (opds a.toList).bind fun a => (opds b.toList).bind fun b => .pure ⟨.fn f a b, [], []⟩
  | .call c => (opds c.args.toList).bind fun args => match c.callee with
    | .value f => (opd f).bind fun f => match f with
      | .fn (.func f) a b => match get E.fs f with
        | some g => g (a ++ args ++ b) fresh
        | none => .fail 42
      | _ => .fail 43
    | .builtin .len => match c.argTypes.toList with
      | [t] => match args with
        | [x] => (ty E t).bind fun d => (lenOf d.k x).bind fun v => .pure ⟨v, [], []⟩
        | _ => .fail 45
      | _ => .fail 44
    | .builtin .append => match c.argTypes.toList with
      | [t, t'] => match args with
       | [x, y] => (elemS E t).bind fun e => (ty E e).bind fun de => (ty E t').bind fun d' => (srcOf d'.k de.size y).bind fun q => need (Nat.blt 0 de.bytes && Nat.ble de.bytes 65536) (match x with
        | .d (.a (.slice none 0 0)) => .chk (q.1 * de.bytes ≤ 35184372088832) (.pure (newRow E dst fresh false q.1 de.size q.2))
        | .d (.vs true 0 _ _) => .chk (q.1 * de.bytes ≤ 35184372088832) (.pure (newRow E dst fresh false q.1 de.size q.2))
        | .rs r 0 len => .obj r fun
          | .row _ k c0 => need (Nat.beq k de.size) (.chk ((len + q.1) * de.bytes ≤ 35184372088832) (.pure (outRow E dst fresh r (len + q.1) k (appC len c0 q.2))))
          | _ => .fail 47
        | _ => .fail 48)
       | _ => .fail 49
      | _ => .fail 72
    | _ => .fail 50
  | _ => .fail 51
def guarded (ops : List Oper) (o : Oper) (m : RM Eff) : RM Eff := match o.guard with
  | none => m
  | some (j, want) => match (ops[j]?).bind (·.dst) with
    | none => .fail 52
    | some g => .slot g fun
      | .d (.a (.bool b)) => match want with
        | true => .br b m (.pure ⟨av undef, [], []⟩)
        | false => .br b (.pure ⟨av undef, [], []⟩) m
      | .d (.a (.tuple _)) => .pure ⟨av undef, [], []⟩
      | _ => .fail 53
/-- New objects have new names. -/
def addNew : Heap → Heap → (Heap → Prop) → Prop
  | [], h, K => K h
  | (r, o) :: l, h, K => match VM.get h r with
    | none => addNew l ((r, o) :: h) K
    | some _ => False
def setOld : Heap → Heap → Heap
  | [], h => h
  | x :: l, h => x :: setOld l h
/-- Values are worked out at once (each says k x). -/
def D.go (x : D) (k : D → Prop) : Prop := match x with
  | .a v => k (.a v)
  | .vs x n kk c => k (.vs x n kk c)
def AV.go0 (x : AV) (k : AV → Prop) : Prop := match x with
  | .d y => y.go fun y => k (.d y)
  | v => k v
def goL0 : List AV → (List AV → Prop) → Prop
  | [], k => k []
  | x :: l, k => x.go0 fun x => goL0 l fun l => k (x :: l)
def AV.go1 (x : AV) (k : AV → Prop) : Prop := match x with
  | .d y => y.go fun y => k (.d y)
  | .agg cs => goL0 cs fun cs => k (.agg cs)
  | v => k v
def goL1 : List AV → (List AV → Prop) → Prop
  | [], k => k []
  | x :: l, k => x.go1 fun x => goL1 l fun l => k (x :: l)
def AV.go (x : AV) (k : AV → Prop) : Prop := match x with
  | .d y => y.go fun y => k (.d y)
  | .agg cs => goL0 cs fun cs => k (.agg cs)
  | .tup cs => goL1 cs fun cs => k (.tup cs)
  | v => k v
def AO.go (x : AO) (k : AO → Prop) : Prop := match x with
  | .cells cs => goL0 cs fun cs => k (.cells cs)
  | o => k o
def goH : Heap → (Heap → Prop) → Prop
  | [], k => k []
  | (r, o) :: l, k => o.go fun o => goH l fun l => k ((r, o) :: l)
def setK : Heap → Heap → (Heap → Prop) → Prop
  | [], h, k => k h
  | x :: l, h, k => setK l h fun h => k (x :: h)
def regWp (ops : List Oper) : List Oper → Slots → Heap → (Slots → Heap → Prop) → Prop
  | [], s, h, K => K s h
  | o :: l, s, h, K => match o.dst with
    | some d => match Nat.blt d E.nt with
     | false => False
     | true => (guarded ops o (step E d d o.op)).wp s h fun
      | ⟨v, up, nw⟩ => v.go fun v => goH up fun up => goH nw fun nw => setK up h fun h => addNew nw h fun h => regWp ops l ((d, v) :: s) h K
    | none => (guarded ops o (step E 0 0 o.op)).wp s h fun
      | ⟨_, up, nw⟩ => goH up fun up => goH nw fun nw => setK up h fun h => addNew nw h fun h => regWp ops l s h K
end
/-- What a function answers. -/
def resR (E : Env) : List ResultVar → RM (List AV)
  | [] => .pure []
  | .tmp t :: l => .slot t fun v => (resR E l).bind fun vs => .pure (v :: vs)
  | .cell p t :: l => (step E 0 0 (.load t (.tmp p))).bind fun
    | .mk v _ _ => (resR E l).bind fun vs => .pure (v :: vs)
def pack : List AV → AV
  | [v] => v
  | vs => .tup vs
def argSlots : List AV → Nat → Slots
  | [], _ => []
  | v :: l, i => (i, v) :: argSlots l (i + 1)
/-! ### regions that draw their order -/
inductive Loc where
  | s (n : Nat)
  | o (r : Nat)
def Loc.eq : Loc → Loc → Bool
  | .s a, .s b => Nat.beq a b
  | .o a, .o b => Nat.beq a b
  | _, _ => false
/-- What an operation did: the slot that it wrote, with what; objects; what it read. -/
structure Rec where
  d : Option Nat
  v : AV
  up : Heap
  nw : Heap
  rd : List Loc
namespace RM
def wpL {α : Type} : RM α → Slots → Heap → List Loc → (α → List Loc → Prop) → Prop
  | .pure a, _, _, R, Q => Q a R
  | .fail _, _, _, _, _ => False
  | .slot n k, s, h, R, Q => match get s n with
    | some v => (k v).wpL s h (.s n :: R) Q
    | none => False
  | .obj r k, s, h, R, Q => match get h r with
    | some o => (k o).wpL s h (.o r :: R) Q
    | none => False
  | .chk p k, s, h, R, Q => Chk p (k.wpL s h R Q)
  | .br b t e, s, h, R, Q => Br b (t.wpL s h R Q) (e.wpL s h R Q)
  | .ex k, s, h, R, Q => ∃ x, (k x).wpL s h R Q
end RM
def Rec.wr (r : Rec) : List Loc := (match r.d with | some d => [.s d] | none => []) ++ (r.up.map fun x => Loc.o x.1) ++ (r.nw.map fun x => Loc.o x.1)
def meets (a b : List Loc) : Bool := a.any fun x => b.any fun y => x.eq y
/-- Is operation i surely done ahead of j? -/
def ordB (ops : List Oper) : Nat → Nat → Nat → Bool
  | 0, _, _ => false
  | n + 1, i, j => match ops[j]? with
    | none => false
    | some o => o.after.toList.any fun e => Region.binds .any e && (Nat.beq e.on i || ordB ops n i e.on)
def apart (ops : List Oper) (i j : Nat) (a b : Rec) : Bool := ordB ops ops.length i j || !(meets a.wr b.wr || meets a.rd b.wr || meets a.wr b.rd)
/-- .. told at once in most cases. -/
def dirB (ops : List Oper) (i j : Nat) : Bool := match ops[j]? with
  | none => false
  | some o => o.after.toList.any fun e => Region.binds .any e && Nat.beq e.on i
def apartF (ops : List Oper) (i j : Nat) (a b : Rec) : Bool := match meets a.wr b.wr || meets a.rd b.wr || meets a.wr b.rd with
  | false => true
  | true => match dirB ops i j with
    | true => true
    | false => ordB ops ops.length i j
def apartAll (ops : List Oper) (i : Nat) (a : Rec) : Nat → List Rec → Bool
  | _, [] => true
  | j, b :: l => apartF ops i j a b && apartAll ops i a (j + 1) l
def noInt (ops : List Oper) : Nat → List Rec → Bool
  | _, [] => true
  | i, a :: l => apartAll ops i a (i + 1) l && noInt ops (i + 1) l
def edgesOk : Nat → List Oper → Bool
  | _, [] => true
  | i, o :: l => (o.after.toList.all fun e => !Region.binds .any e || Nat.blt e.on i) && edgesOk (i + 1) l
def regDr (E : Env) (ops : List Oper) : List Oper → Slots → Heap → List Rec → (Slots → Heap → Prop) → Prop
  | [], s, h, acc, K => Chk ((noInt ops 0 acc.reverse && edgesOk 0 ops) = true) (K s h)
  | o :: l, s, h, acc, K => match o.dst with
    | some d => match Nat.blt d E.nt with
      | false => False
      | true => (guarded ops o (step E d d o.op)).wpL s h [] fun e R => match e with
        | ⟨v, up, nw⟩ => v.go fun v => goH up fun up => goH nw fun nw => setK up h fun h => addNew nw h fun h => regDr E ops l ((d, v) :: s) h (⟨some d, v, up, nw, R⟩ :: acc) K
    | none => (guarded ops o (step E 0 0 o.op)).wpL s h [] fun e R => match e with
      | ⟨v, up, nw⟩ => v.go fun v => goH up fun up => goH nw fun nw => setK up h fun h => addNew nw h fun h => regDr E ops l s h (⟨none, v, up, nw, R⟩ :: acc) K
inductive Ex where
  | nrm
  | ext (id : Nat)
  | ret
/-- What is known may be forgotten; weak s h s' h': a state that is the first one is the second one. -/
abbrev WeakRel := Slots → Heap → Slots → Heap → Prop
def cwp (E : Env) (W : WeakRel) : Code → Slots → Heap → (Ex → Slots → Heap → Prop) → Prop
  | .skip, s, h, K => K .nrm s h
  | .region _ ops d, s, h, K => match d with
    | false => regWp E ops.toList ops.toList s h (K .nrm)
    | true => regDr E ops.toList ops.toList s h [] (K .nrm)
  | .seq a b, s, h, K => cwp E W a s h fun e s h => match e with
    | .nrm => cwp E W b s h K
    | e => K e s h
  | .cond c x y, s, h, K => ((opd c).bind asB).wp s h fun b => Br b (cwp E W x s h K) (cwp E W y s h K)
  | .block id c, s, h, K => cwp E W c s h fun e s h => match e with
    | .ext j => match Nat.beq j id with
      | true => K .nrm s h
      | false => K e s h
    | e => K e s h
  | .loop c, s, h, K => ∃ Inv : Nat → Slots → Heap → Prop, (∃ n s0 h0, W s h s0 h0 ∧ Inv n s0 h0) ∧ ∀ n s0 h0, Inv n s0 h0 → cwp E W c s0 h0 fun e s1 h1 => match e with
    | .nrm => ∃ m s2 h2, m < n ∧ W s1 h1 s2 h2 ∧ Inv m s2 h2
    | e => K e s1 h1
  | .exit id, s, h, K => K (.ext id) s h
  | .ret, s, h, K => K .ret s h
  | _, _, _, _ => False
/-- A function's body, from its arguments to what holds of its answer. -/
def vfun (E : Env) (W : WeakRel) (c : Code) (rs : List ResultVar) (args : List AV) (h : Heap) (Post : AV → Heap → Prop) : Prop := cwp E W c (argSlots args 0) h fun e s h => match e with
  | .ext _ => False
  | _ => (resR E rs).wp s h fun vs => Post (pack vs) h
theorem D.go_eq (x : D) (k : D → Prop) : x.go k = k x := by cases x <;> rfl
theorem AV.go0_eq (x : AV) (k : AV → Prop) : x.go0 k = k x := by cases x <;> simp only [AV.go0, D.go_eq]
theorem goL0_eq : ∀ (l : List AV) (k : List AV → Prop), goL0 l k = k l
  | [], _ => rfl
  | x :: l, k => by rw [goL0, AV.go0_eq, goL0_eq l]
theorem AV.go1_eq (x : AV) (k : AV → Prop) : x.go1 k = k x := by cases x <;> simp only [AV.go1, D.go_eq, goL0_eq]
theorem goL1_eq : ∀ (l : List AV) (k : List AV → Prop), goL1 l k = k l
  | [], _ => rfl
  | x :: l, k => by rw [goL1, AV.go1_eq, goL1_eq l]
theorem AV.go_eq (x : AV) (k : AV → Prop) : x.go k = k x := by cases x <;> simp only [AV.go, D.go_eq, goL0_eq, goL1_eq]
theorem AO.go_eq (x : AO) (k : AO → Prop) : x.go k = k x := by cases x <;> simp only [AO.go, goL0_eq]
theorem goH_eq : ∀ (l : Heap) (k : Heap → Prop), goH l k = k l
  | [], _ => rfl
  | (r, o) :: l, k => by rw [goH, AO.go_eq, goH_eq l]
theorem setK_eq : ∀ (u h : Heap) (k : Heap → Prop), setK u h k = k (setOld u h)
  | [], _, _ => rfl
  | x :: l, h, k => by rw [setK, setK_eq l]; rfl
end Go.VM
namespace Go.VM
/-- Plain data, as it lies in a world; I: blocks that never turn. -/
def D.rep (w : World) (I : Nat → Prop) : D → Value → Prop
  | .a x, v => v = x
  | .vs x n k c, v => ∃ A cap, v = .slice A n cap ∧ n ≤ cap ∧ (x = true → cap = n) ∧ (0 < n → ∃ b o, A = some ⟨b, o, none⟩ ∧ I b ∧ ∀ i j, i < n → j < k → ∃ u, w.cell? ⟨b, o + (i * k + j), none⟩ = some u ∧ u.oneCell' = true ∧ (c i j).rep w I u)
/-- Where an object lies: its block and how many cells that has. -/
abbrev Mu := Nat → Option (Nat × Nat)
mutual
def AV.rep (μ : Mu) (w : World) (I : Nat → Prop) (hp : Heap) : AV → Value → Prop
  | .d x, v => x.rep w I v
  | .rs r off len, v => ∃ A cap, v = .slice A len cap ∧ len ≤ cap ∧ ∃ o, get hp r = some o ∧ ∀ n k c, o = .row n k c → off + len ≤ n ∧ ((μ r = none ∧ cap = 0) ∨ ∃ b z, μ r = some (b, z) ∧ (0 < cap → A = some ⟨b, off * k, none⟩) ∧ (off + cap) * k ≤ z)
  | .pc r j, v => ∃ a, v = .pointer (some a) ∧ ∃ o, get hp r = some o ∧ ∀ cs, o = .cells cs → ∃ b z, μ r = some (b, z) ∧ a = ⟨b, j, none⟩
  | .pr r i j, v => ∃ a, v = .pointer (some a) ∧ ∃ o, get hp r = some o ∧ ∀ n k c, o = .row n k c → i < n ∧ ∃ b z, μ r = some (b, z) ∧ a = ⟨b, i * k + j, none⟩
  | .pv n k c i j, v => ∃ b o, v = .pointer (some ⟨b, o + (i * k + j), none⟩) ∧ i < n ∧ I b ∧ ∀ i j, i < n → j < k → ∃ u, w.cell? ⟨b, o + (i * k + j), none⟩ = some u ∧ u.oneCell' = true ∧ (c i j).rep w I u
  | .mp r, v => ∃ b, v = .map (some b) ∧ ∃ o, get hp r = some o ∧ ∀ n h g, o = .map n h g → ∃ z, μ r = some (b, z)
  | .fn f xs ys, v => ∃ a c, v = .func f a c ∧ AV.reps μ w I hp xs a.toList ∧ AV.reps μ w I hp ys c.toList
  | .agg xs, v => ∃ a, v = .agg a ∧ AV.reps μ w I hp xs a.toList
  | .tup xs, v => ∃ a, v = .tuple a ∧ AV.reps μ w I hp xs a.toList
def AV.reps (μ : Mu) (w : World) (I : Nat → Prop) (hp : Heap) : List AV → List Value → Prop
  | [], [] => True
  | x :: xs, v :: vs => x.rep μ w I hp v ∧ AV.reps μ w I hp xs vs
  | _, _ => False
end
/-- No cell of a block is frozen. -/
def nofz (vs : Array Value) (fz : Nat × Nat) : Prop := ∀ j, j < vs.size → ¬ (fz.1 ≤ j ∧ j < fz.2)
def mapRep (w : World) (I : Nat → Prop) (es : Array MapEntry) (n : Nat) (has : Value → Bool) (get : Value → List D) : Prop := es.size = n ∧ (∀ e ∈ es, has e.key = true ∧ ∃ ds, get e.key = ds) ∧ w = w ∧ I = I
def AO.rep (μ : Mu) (w : World) (I : Nat → Prop) (hp : Heap) (r : Nat) : AO → Prop
  | .dead => True
  | .cells cs => ∃ b z vs t fz, μ r = some (b, z) ∧ w.heap[b]? = some (.cells vs t fz) ∧ nofz vs fz ∧ AV.reps μ w I hp cs vs.toList
  | .row n k c => (μ r = none ∧ n = 0) ∨ ∃ b z vs t fz, μ r = some (b, z) ∧ w.heap[b]? = some (.cells vs t fz) ∧ nofz vs fz ∧ vs.size = z ∧ n * k ≤ z ∧ ∀ i j, i < n → j < k → ∃ u, vs[i * k + j]? = some u ∧ u.oneCell' = true ∧ (c i j).rep w I u
  | .map n has g => ∃ b z es clock, μ r = some (b, z) ∧ w.heap[b]? = some (.map es clock) ∧ mapRep w I es n has g
def AO.like : AO → AO → Prop
  | .dead, .dead => True
  | .cells _, .cells _ => True
  | .row n k _, .row n' k' _ => n = n' ∧ k = k'
  | .map _ _ _, .map _ _ _ => True
  | _, _ => False
theorem AO.like.refl (o : AO) : o.like o := by cases o <;> simp [AO.like]
structure HeapLe (hp : Heap) (μ : Mu) (hp' : Heap) (μ' : Mu) : Prop where
  le : ∀ r o, get hp r = some o → ∃ o', get hp' r = some o' ∧ (o' = .dead ∨ (o.like o' ∧ μ' r = μ r))
theorem HeapLe.refl (hp : Heap) (μ : Mu) : HeapLe hp μ hp μ := ⟨fun _ o h => ⟨o, h, .inr ⟨.refl o, rfl⟩⟩⟩
universe u
theorem get_cons {β : Type u} (l : List (Nat × β)) (m : Nat) (b : β) (n : Nat) : get ((m, b) :: l) n = if m = n then some b else get l n := by
  simp only [get]
  by_cases h : m = n
  · subst h; simp
  · have : Nat.beq m n = false := by
      cases e : Nat.beq m n
      · rfl
      · exact absurd (Nat.eq_of_beq_eq_true e) h
    simp [this, h]
theorem D.rep_mono {w w' : World} {I I' : Nat → Prop} (hw : ∀ b, I b → w'.heap[b]? = w.heap[b]?) (hI : ∀ b, I b → I' b) : ∀ (x : D) (v : Value), x.rep w I v → x.rep w' I' v
  | .a _, _, h => h
  | .vs x n k c, v, h => by
    obtain ⟨A, cap, e, hc, hx, h⟩ := h
    refine ⟨A, cap, e, hc, hx, fun hn => ?_⟩
    obtain ⟨b, o, ea, hb, h⟩ := h hn
    refine ⟨b, o, ea, hI b hb, fun i j hi hj => ?_⟩
    obtain ⟨u, hu, h1, h⟩ := h i j hi hj
    refine ⟨u, ?_, h1, D.rep_mono hw hI (c i j) u h⟩
    rw [World.cell?_of_block (w := w) (w' := w') (hw b hb)]
    exact hu
/-- The same data, as far as it goes. -/
inductive DR : D → D → Prop
  | refl (d : D) : DR d d
  | vs {x x' : Bool} {n n' k : Nat} {c c' : Nat → Nat → D} (hx : x' = true → x = true) (hn : n = n') (hc : ∀ i j, i < n → j < k → DR (c i j) (c' i j)) : DR (.vs x n k c) (.vs x' n' k c')
  | nil {x : Bool} {k : Nat} {c : Nat → Nat → D} : DR (.a (.slice none 0 0)) (.vs x 0 k c)
theorem DR.of {d d' : D} (h : d = d') : DR d d' := h ▸ .refl d
theorem DR.rep {w : World} {I : Nat → Prop} {d d' : D} (h : DR d d') : ∀ {v : Value}, d.rep w I v → d'.rep w I v := by
  induction h with
  | refl => exact fun h => h
  | vs hx hn hc ih =>
    intro v h
    subst hn
    obtain ⟨A, cap, e, h1, h2, h3⟩ := h
    refine ⟨A, cap, e, h1, fun e => h2 (hx e), fun hn => ?_⟩
    obtain ⟨b, o, e, hI, h3⟩ := h3 hn
    refine ⟨b, o, e, hI, fun i j hi hj => ?_⟩
    obtain ⟨u, hu, h1, h⟩ := h3 i j hi hj
    exact ⟨u, hu, h1, ih i j hi hj h⟩
  | nil =>
    intro v h
    exact ⟨none, 0, h, Nat.le_refl _, fun _ => rfl, fun h => absurd h (by decide)⟩
theorem DR.trans {a b : D} (h : DR a b) : ∀ {c : D}, DR b c → DR a c := by
  induction h with
  | refl => exact fun h => h
  | vs hx hn hc ih =>
    intro c h
    cases h with
    | refl => exact .vs hx hn hc
    | vs hx' hn' hc' => exact .vs (fun e => hx (hx' e)) (hn.trans hn') fun i j hi hj => ih i j hi hj (hc' i j (hn ▸ hi) hj)
  | nil =>
    intro c h
    cases h with
    | refl => exact .nil
    | vs hx' hn' hc' => subst hn'; exact .nil
section
variable {μ μ' : Mu} {w w' : World} {I I' : Nat → Prop} {hp hp' : Heap}
theorem AV.reps_len : ∀ {xs : List AV} {vs : List Value}, AV.reps μ w I hp xs vs → xs.length = vs.length
  | [], [], _ => rfl
  | x :: xs, v :: vs, h => by simp [AV.reps_len h.2]
  | [], _ :: _, h => h.elim
  | _ :: _, [], h => h.elim
mutual
theorem AV.rep_mono (hl : HeapLe hp μ hp' μ') (hw : ∀ b, I b → w'.heap[b]? = w.heap[b]?) (hI : ∀ b, I b → I' b) : ∀ (x : AV) (v : Value), x.rep μ w I hp v → x.rep μ' w' I' hp' v
  | .d x, v, h => by rw [AV.rep] at h ⊢; exact D.rep_mono hw hI x v h
  | .rs r off len, v, h => by
    rw [AV.rep] at h ⊢
    obtain ⟨A, cap, e, hc, o, ho, h⟩ := h
    obtain ⟨o', ho', hk⟩ := hl.le r o ho
    refine ⟨A, cap, e, hc, o', ho', fun n k c eo => ?_⟩
    rcases hk with hk | ⟨hk, hm⟩
    · rw [hk] at eo; cases eo
    · subst eo
      match o, hk with
      | .row n' k' c', hk =>
        obtain ⟨rfl, rfl⟩ := hk
        rw [hm]
        exact h _ _ _ rfl
  | .pc r j, v, h => by
    rw [AV.rep] at h ⊢
    obtain ⟨a, e, o, ho, h⟩ := h
    obtain ⟨o', ho', hk⟩ := hl.le r o ho
    refine ⟨a, e, o', ho', fun cs eo => ?_⟩
    rcases hk with hk | ⟨hk, hm⟩
    · rw [hk] at eo; cases eo
    · subst eo
      match o, hk with
      | .cells cs', hk => rw [hm]; exact h _ rfl
  | .pr r i j, v, h => by
    rw [AV.rep] at h ⊢
    obtain ⟨a, e, o, ho, h⟩ := h
    obtain ⟨o', ho', hk⟩ := hl.le r o ho
    refine ⟨a, e, o', ho', fun n k c eo => ?_⟩
    rcases hk with hk | ⟨hk, hm⟩
    · rw [hk] at eo; cases eo
    · subst eo
      match o, hk with
      | .row n' k' c', hk =>
        obtain ⟨rfl, rfl⟩ := hk
        rw [hm]
        exact h _ _ _ rfl
  | .pv n k c i j, v, h => by
    rw [AV.rep] at h ⊢
    obtain ⟨b, o, e, hi, hb, h⟩ := h
    refine ⟨b, o, e, hi, hI b hb, fun i j hi hj => ?_⟩
    obtain ⟨u, hu, h1, h⟩ := h i j hi hj
    refine ⟨u, ?_, h1, D.rep_mono hw hI _ u h⟩
    rw [World.cell?_of_block (w := w) (w' := w') (hw b hb)]
    exact hu
  | .mp r, v, h => by
    rw [AV.rep] at h ⊢
    obtain ⟨b, e, o, ho, h⟩ := h
    obtain ⟨o', ho', hk⟩ := hl.le r o ho
    refine ⟨b, e, o', ho', fun n f g eo => ?_⟩
    rcases hk with hk | ⟨hk, hm⟩
    · rw [hk] at eo; cases eo
    · subst eo
      match o, hk with
      | .map n' f' g', hk => rw [hm]; exact h _ _ _ rfl
  | .fn f xs ys, v, h => by
    rw [AV.rep] at h ⊢
    obtain ⟨a, c, e, h1, h2⟩ := h
    exact ⟨a, c, e, AV.reps_mono hl hw hI xs _ h1, AV.reps_mono hl hw hI ys _ h2⟩
  | .agg xs, v, h => by
    rw [AV.rep] at h ⊢
    obtain ⟨a, e, h1⟩ := h
    exact ⟨a, e, AV.reps_mono hl hw hI xs _ h1⟩
  | .tup xs, v, h => by
    rw [AV.rep] at h ⊢
    obtain ⟨a, e, h1⟩ := h
    exact ⟨a, e, AV.reps_mono hl hw hI xs _ h1⟩
theorem AV.reps_mono (hl : HeapLe hp μ hp' μ') (hw : ∀ b, I b → w'.heap[b]? = w.heap[b]?) (hI : ∀ b, I b → I' b) : ∀ (xs : List AV) (vs : List Value), AV.reps μ w I hp xs vs → AV.reps μ' w' I' hp' xs vs
  | [], [], _ => trivial
  | x :: xs, v :: vs, h => ⟨AV.rep_mono hl hw hI x v h.1, AV.reps_mono hl hw hI xs vs h.2⟩
  | [], _ :: _, h => h.elim
  | _ :: _, [], h => h.elim
end
/-- An object whose block stays as it is. -/
theorem AO.rep_mono {r : Nat} {o : AO} (hl : HeapLe hp μ hp' μ') (hw : ∀ b, I b → w'.heap[b]? = w.heap[b]?) (hI : ∀ b, I b → I' b) (hm : μ' r = μ r) (hb : ∀ b z, μ r = some (b, z) → w'.heap[b]? = w.heap[b]?) (h : o.rep μ w I hp r) : o.rep μ' w' I' hp' r := by
  cases o with
  | dead => trivial
  | cells cs =>
    obtain ⟨b, z, vs, t, fz, e, hh, hf, h⟩ := h
    exact ⟨b, z, vs, t, fz, hm.trans e, (hb b z e).trans hh, hf, AV.reps_mono hl hw hI _ _ h⟩
  | row n k c =>
    rcases h with ⟨e, hn⟩ | ⟨b, z, vs, t, fz, e, hh, hf, hz, hk, h⟩
    · exact .inl ⟨hm.trans e, hn⟩
    · refine .inr ⟨b, z, vs, t, fz, hm.trans e, (hb b z e).trans hh, hf, hz, hk, fun i j hi hj => ?_⟩
      obtain ⟨u, hu, h1, h⟩ := h i j hi hj
      exact ⟨u, hu, h1, D.rep_mono hw hI _ _ h⟩
  | map n f g =>
    obtain ⟨b, z, es, cl, e, hh, h⟩ := h
    exact ⟨b, z, es, cl, hm.trans e, (hb b z e).trans hh, h.1, h.2.1, rfl, rfl⟩
end
/-- What stood when the function began: the world, the blocks that don't turn, the blocks that may. -/
structure Ctx where
  w0 : World
  I0 : Nat → Prop
  B0 : Nat → Prop
  pin : Nat → Option (Option (Nat × Nat))
def live (hp : Heap) (r : Nat) : Prop := ∃ o, get hp r = some o ∧ o ≠ .dead
/-- The world beside what the function may turn. -/
structure Base (G : Ctx) (w : World) : Prop where
  os : w.os = G.w0.os
  tape : w.tape = G.w0.tape
  output : w.output = G.w0.output
  size : G.w0.heap.size ≤ w.heap.size
  block : ∀ b, b < G.w0.heap.size → ¬ G.B0 b → w.heap[b]? = G.w0.heap[b]?
/-- Objects that were handed in stay where they are, or are given up. -/
def PinOk (G : Ctx) (μ : Mu) (hp : Heap) : Prop := ∀ r m, G.pin r = some m → ∃ o, get hp r = some o ∧ (o = .dead ∨ μ r = m)
theorem PinOk.le {G : Ctx} {μ μ' : Mu} {hp hp' : Heap} (h : PinOk G μ hp) (hl : HeapLe hp μ hp' μ') : PinOk G μ' hp' := fun r m e => by
  obtain ⟨o, ho, h⟩ := h r m e
  obtain ⟨o', ho', hk⟩ := hl.le r o ho
  refine ⟨o', ho', ?_⟩
  rcases hk with hk | ⟨hk, hm⟩
  · exact .inl hk
  · rcases h with rfl | h
    · left; cases o' <;> first | rfl | exact hk.elim
    · right; rw [hm]; exact h
/-- The objects and the world. -/
structure HSim (G : Ctx) (μ : Mu) (I : Nat → Prop) (hp : Heap) (w : World) : Prop where
  objs : ∀ r o, get hp r = some o → o.rep μ w I hp r
  inj : ∀ r r' b z z', live hp r → live hp r' → μ r = some (b, z) → μ r' = some (b, z') → r = r'
  own : ∀ r b z, live hp r → μ r = some (b, z) → ¬ I b ∧ b < w.heap.size ∧ (G.B0 b ∨ G.w0.heap.size ≤ b)
  imm : ∀ b, I b → b < w.heap.size ∧ (G.I0 b ∨ G.B0 b ∨ G.w0.heap.size ≤ b)
  base : Base G w
  pin : PinOk G μ hp
  keep : ∀ b, G.I0 b → I b
def SlotsRep (μ : Mu) (w : World) (I : Nat → Prop) (hp : Heap) (sl : Slots) (a : Act) : Prop := ∀ n v, get sl n = some v → ∃ u, a.tmps[n]? = some u ∧ v.rep μ w I hp u
/-- A state of the abstract machine, and the model's. -/
structure Sim (G : Ctx) (N : Nat) (μ : Mu) (I : Nat → Prop) (sl : Slots) (hp : Heap) (a : Act) (w : World) : Prop where
  slots : SlotsRep μ w I hp sl a
  heap : HSim G μ I hp w
  size : N ≤ a.tmps.size
  defers : a.defers = []
/-- What an operation may do: values that stood stand. -/
structure Ext (μ : Mu) (I : Nat → Prop) (hp : Heap) (w : World) (μ' : Mu) (I' : Nat → Prop) (hp' : Heap) (w' : World) : Prop where
  le : HeapLe hp μ hp' μ'
  imm : ∀ b, I b → I' b
  same : ∀ b, I b → w'.heap[b]? = w.heap[b]?
theorem Ext.refl (μ : Mu) (I : Nat → Prop) (hp : Heap) (w : World) : Ext μ I hp w μ I hp w := ⟨.refl _ _, fun _ h => h, fun _ _ => rfl⟩
theorem Ext.rep {μ μ' : Mu} {I I' : Nat → Prop} {hp hp' : Heap} {w w' : World} (h : Ext μ I hp w μ' I' hp' w') {x : AV} {v : Value} (hr : x.rep μ w I hp v) : x.rep μ' w' I' hp' v := AV.rep_mono h.le h.same h.imm x v hr
theorem Ext.reps {μ μ' : Mu} {I I' : Nat → Prop} {hp hp' : Heap} {w w' : World} (h : Ext μ I hp w μ' I' hp' w') {x : List AV} {v : List Value} (hr : AV.reps μ w I hp x v) : AV.reps μ' w' I' hp' x v := AV.reps_mono h.le h.same h.imm x v hr
theorem SlotsRep.ext {μ μ' : Mu} {I I' : Nat → Prop} {hp hp' : Heap} {w w' : World} (h : Ext μ I hp w μ' I' hp' w') {sl : Slots} {a : Act} (hr : SlotsRep μ w I hp sl a) : SlotsRep μ' w' I' hp' sl a := fun n v e => let ⟨u, hu, hv⟩ := hr n v e; ⟨u, hu, h.rep hv⟩
/-- A slot is written. -/
theorem SlotsRep.put {μ : Mu} {I : Nat → Prop} {hp : Heap} {w : World} {sl : Slots} {a : Act} {N d : Nat} {v : AV} {u : Value} (h : SlotsRep μ w I hp sl a) (hN : N ≤ a.tmps.size) (hd : d < N) (hv : v.rep μ w I hp u) : SlotsRep μ w I hp ((d, v) :: sl) (a.put (some d) u) := by
  intro n x e
  rw [get_cons] at e
  by_cases hn : d = n
  · rw [if_pos hn] at e; injection e with e; subst e; subst hn
    exact ⟨u, by simp only [Act.put]; rw [Array.getElem?_setIfInBounds, if_pos rfl, if_pos (by omega)], hv⟩
  · rw [if_neg hn] at e
    obtain ⟨y, hy, hx⟩ := h n x e
    exact ⟨y, by simp only [Act.put]; rw [Array.getElem?_setIfInBounds, if_neg hn]; exact hy, hx⟩
end Go.VM
namespace Go.VM
open RM
/-! ### types -/
def aggD : Option TypeDesc → Bool
  | some (.struct _) => true
  | some (.array _ _) => true
  | _ => false
def fieldD (P : Program) (f : Field) : Option (Nat × Nat × Bool) := match P.info? f.type, P.underlying f.type with
  | some i, some u => some (f.offset, i.size, aggD (some u))
  | _, _ => none
def allSome {α : Type} : List (Option α) → Option (List α)
  | [] => some []
  | none :: _ => none
  | some x :: l => (allSome l).map (x :: ·)
theorem allSome_is {α : Type} : ∀ {l : List (Option α)} {r : List α}, allSome l = some r → l = r.map some
  | [], r, h => by injection h with h; subst h; rfl
  | none :: _, r, h => by exact absurd h (by simp [allSome])
  | some x :: l, r, h => by
    simp only [allSome, Option.map_eq_some_iff] at h
    obtain ⟨q, hq, rfl⟩ := h
    rw [allSome_is hq]; rfl
def kOf (P : Program) : TypeDesc → Option TyK
  | .struct fs => (allSome (fs.toList.map (fieldD P))).map .struct
  | .array n e => some (.arr n e)
  | .slice e => some (.slice e)
  | .map k e => some (.map k e)
  | .string => some .str
  | .named _ _ => none
  | .pointer _ => some .ptr
  | .func _ _ _ => some .func
  | _ => some .atom
def kGood (P : Program) : TyK → TypeDesc → Prop
  | .struct fo, u => ∃ fs, u = .struct fs ∧ fs.toList.map (fieldD P) = fo.map some
  | .arr n e, u => u = .array n e
  | .slice e, u => u = .slice e
  | .map k e, u => u = .map k e
  | .str, u => u = .string
  | .ptr, u => ∃ e, u = .pointer e
  | .func, u => ∃ p r v, u = .func p r v
  | .atom, u => aggD (some u) = false
theorem kOf_good {P : Program} {u : TypeDesc} {k : TyK} (h : kOf P u = some k) : kGood P k u ∧ aggD (some u) = k.agg := by
  cases u <;> simp only [kOf, Option.some.injEq, Option.map_eq_some_iff, reduceCtorEq] at h
  case struct fs =>
    obtain ⟨fo, hf, rfl⟩ := h
    exact ⟨⟨fs, rfl, allSome_is hf⟩, rfl⟩
  all_goals (subst h; first | exact ⟨rfl, rfl⟩ | exact ⟨⟨_, rfl⟩, rfl⟩ | exact ⟨⟨_, _, _, rfl⟩, rfl⟩)
/-- A type, as the abstract machine knows it. -/
def tyOf (P : Program) (t : Nat) : Option TyD := match P.info? t, P.underlying t with
  | some i, some u => match i.zero with
    | some z => match Nat.beq z.cells.toList.length i.size && z.cells.toList.all Value.one with
      | true => (kOf P u).map fun k => ⟨k, i.size, z.cells.toList, i.bytes⟩
      | false => none
    | none => none
  | _, _ => none
structure TyGood (P : Program) (t : Nat) (d : TyD) where
  i : TypeInfo
  z : Value
  u : TypeDesc
  info : P.info? t = some i
  size : i.size = d.size
  bytes : i.bytes = d.bytes
  zero : i.zero = some z
  cells : z.cells.toList = d.zero
  und : P.underlying t = some u
  k : kGood P d.k u
  agg : aggD (some u) = d.k.agg
  len : d.zero.length = d.size
  one : ∀ v ∈ d.zero, Value.one v = true
theorem tyOf_good {P : Program} {t : Nat} {d : TyD} (h : tyOf P t = some d) : Nonempty (TyGood P t d) := by
  unfold tyOf at h
  cases hi : P.info? t with
  | none => rw [hi] at h; cases h
  | some i =>
    cases hu : P.underlying t with
    | none => rw [hi, hu] at h; cases h
    | some u =>
      rw [hi, hu] at h
      simp only at h
      cases hz : i.zero with
      | none => rw [hz] at h; cases h
      | some z =>
        rw [hz] at h
        simp only at h
        split at h
        · rename_i hb
          rw [Bool.and_eq_true] at hb
          rw [Option.map_eq_some_iff] at h
          obtain ⟨k, hk, rfl⟩ := h
          have hg := kOf_good hk
          exact ⟨⟨i, z, u, hi, rfl, rfl, hz, rfl, hu, hg.1, hg.2, Nat.eq_of_beq_eq_true hb.1, fun v hv => List.all_eq_true.1 hb.2 v hv⟩⟩
        · cases h
def TyOk (P : Program) (tt : List (Nat × TyD)) : Prop := ∀ t d, get tt t = some d → tyOf P t = some d
theorem tyOk_of {P : Program} : ∀ {tt : List (Nat × TyD)}, tt.map (fun x => tyOf P x.1) = tt.map (fun x => some x.2) → TyOk P tt
  | [], _, t, d, h => by cases h
  | (m, b) :: l, e, t, d, h => by
    simp only [List.map_cons, List.cons.injEq] at e
    rw [get_cons] at h
    by_cases hm : m = t
    · rw [if_pos hm] at h; injection h with h; subst hm; subst h; exact e.1
    · rw [if_neg hm] at h; exact tyOk_of e.2 t d h
theorem TyOk.good {P : Program} {tt : List (Nat × TyD)} (h : TyOk P tt) {t : Nat} {d : TyD} (e : get tt t = some d) : Nonempty (TyGood P t d) := tyOf_good (h t d e)
theorem TyGood.isAgg {P : Program} {t : Nat} {d : TyD} (g : TyGood P t d) (w : World) : (isAgg t).run P w = .ok d.k.agg w := by
  rw [← g.agg]
  unfold Go.isAgg
  rw [Sem.run_bind, run_underlying g.und]
  cases g.u <;> rfl
theorem TyGood.sizeOf {P : Program} {t : Nat} {d : TyD} (g : TyGood P t d) (w : World) : (sizeOf t).run P w = .ok d.size w := by
  simp [Go.sizeOf, typeInfo, g.info, g.size]
theorem TyGood.zeroValue {P : Program} {t : Nat} {d : TyD} (g : TyGood P t d) (w : World) : (zeroValue t).run P w = .ok g.z w := by
  simp [Go.zeroValue, typeInfo, g.info, g.zero]
theorem TyGood.field {P : Program} {t : Nat} {d : TyD} (g : TyGood P t d) {fo : List (Nat × Nat × Bool)} {f : Nat} {x : Nat × Nat × Bool} (hk : d.k = .struct fo) (hx : fo[f]? = some x) : ∃ fs fl i u, P.underlying t = some (.struct fs) ∧ fs[f]? = some fl ∧ P.info? fl.type = some i ∧ P.underlying fl.type = some u ∧ x = (fl.offset, i.size, aggD (some u)) := by
  have h := g.k
  rw [hk] at h
  obtain ⟨fs, hu, hf⟩ := h
  have e : (fs.toList.map (fieldD P))[f]? = some (some x) := by rw [hf, List.getElem?_map, hx]; rfl
  rw [List.getElem?_map, Option.map_eq_some_iff] at e
  obtain ⟨fl, hfl, e⟩ := e
  unfold fieldD at e
  split at e
  · rename_i i u hi hu2
    injection e with e
    exact ⟨fs, fl, i, u, by rw [g.und, hu], by simpa using hfl, hi, hu2, e.symm⟩
  · cases e
/-! ### the reader -/
section
variable {α β : Type} {sl : Slots} {hp : Heap}
theorem wp_bind (m : RM α) (f : α → RM β) (Q : β → Prop) : (m.bind f).wp sl hp Q = m.wp sl hp fun a => (f a).wp sl hp Q := by
  induction m with
  | pure a => rfl
  | fail n => rfl
  | slot n k ih => simp only [RM.bind, RM.wp]; cases get sl n <;> simp [ih]
  | obj n k ih => simp only [RM.bind, RM.wp]; cases get hp n <;> simp [ih]
  | chk p k ih => simp only [RM.bind, RM.wp, ih]
  | br b t e i1 i2 => simp only [RM.bind, RM.wp, i1, i2]
  | ex k ih => simp only [RM.bind, RM.wp, ih]
theorem wp_mono {m : RM α} {Q Q' : α → Prop} (hq : ∀ a, Q a → Q' a) (h : m.wp sl hp Q) : m.wp sl hp Q' := by
  induction m with
  | pure a => exact hq _ h
  | fail n => exact h
  | slot n k ih => simp only [RM.wp] at h ⊢; cases e : get sl n with
    | none => rw [e] at h; exact h
    | some v => rw [e] at h; exact ih _ h
  | obj n k ih => simp only [RM.wp] at h ⊢; cases e : get hp n with
    | none => rw [e] at h; exact h
    | some v => rw [e] at h; exact ih _ h
  | chk p k ih => exact ⟨h.l, ih h.r⟩
  | br b t e i1 i2 => exact ⟨fun hb => i1 (h.t hb), fun hb => i2 (h.f hb)⟩
  | ex k ih => obtain ⟨x, h⟩ := h; exact ⟨x, ih x h⟩
theorem need_wp {b : Bool} {m : RM α} {Q : α → Prop} (h : (need b m).wp sl hp Q) : b = true ∧ m.wp sl hp Q := by
  cases b with
  | true => exact ⟨rfl, h⟩
  | false => exact h.elim
theorem obj_wp {r : Nat} {k : AO → RM α} {Q : α → Prop} (h : (RM.obj r k).wp sl hp Q) : ∃ o, get hp r = some o ∧ (k o).wp sl hp Q := by
  simp only [RM.wp] at h
  cases e : get hp r with
  | none => rw [e] at h; exact h.elim
  | some o => rw [e] at h; exact ⟨o, rfl, h⟩
theorem slot_wp {r : Nat} {k : AV → RM α} {Q : α → Prop} (h : (RM.slot r k).wp sl hp Q) : ∃ o, get sl r = some o ∧ (k o).wp sl hp Q := by
  simp only [RM.wp] at h
  cases e : get sl r with
  | none => rw [e] at h; exact h.elim
  | some o => rw [e] at h; exact ⟨o, rfl, h⟩
theorem ty_wp {E : Env} {t : Nat} {Q : TyD → Prop} (h : (ty E t).wp sl hp Q) : ∃ d, get E.tt t = some d ∧ Q d := by
  unfold ty at h
  cases e : get E.tt t with
  | none => rw [e] at h; exact h.elim
  | some d => rw [e] at h; exact ⟨d, rfl, h⟩
theorem elemS_wp {E : Env} {t : Nat} {Q : Nat → Prop} (h : (elemS E t).wp sl hp Q) : ∃ d e, get E.tt t = some d ∧ d.k = .slice e ∧ Q e := by
  unfold elemS at h
  rw [wp_bind] at h
  obtain ⟨d, hd, h⟩ := ty_wp h
  cases hk : d.k <;> rw [hk] at h <;> first | exact h.elim | exact ⟨d, _, hd, hk, h⟩
theorem fieldOf_wp {E : Env} {t f : Nat} {Q : Nat × Nat × Bool → Prop} (h : (fieldOf E t f).wp sl hp Q) : ∃ d fo x, get E.tt t = some d ∧ d.k = .struct fo ∧ fo[f]? = some x ∧ Q x := by
  unfold fieldOf at h
  rw [wp_bind] at h
  obtain ⟨d, hd, h⟩ := ty_wp h
  cases hk : d.k <;> rw [hk] at h
  case struct fo =>
    simp only at h
    cases hf : fo[f]? with
    | none => rw [hf] at h; exact h.elim
    | some x => rw [hf] at h; exact ⟨d, fo, x, hd, hk, hf, h⟩
  all_goals exact h.elim
theorem asI_wp {v : AV} {Q : IntKind × Int → Prop} (h : (asI v).wp sl hp Q) : ∃ k n, v = av (.int k n) ∧ Q (k, n) := by
  unfold asI at h
  split at h
  · exact ⟨_, _, rfl, h⟩
  · exact h.elim
theorem asB_wp {v : AV} {Q : Bool → Prop} (h : (asB v).wp sl hp Q) : ∃ b, v = av (.bool b) ∧ Q b := by
  unfold asB at h
  split at h
  · exact ⟨_, rfl, h⟩
  · exact h.elim
theorem inBound_wp {v : AV} {n : Nat} {Q : Nat → Prop} (h : (inBound v n).wp sl hp Q) : ∃ k i, v = av (.int k i) ∧ 0 ≤ i ∧ i < n ∧ Q i.toNat := by
  unfold inBound at h
  rw [wp_bind] at h
  obtain ⟨k, i, e, h⟩ := asI_wp h
  exact ⟨k, i, e, h.l.1, h.l.2, h.r⟩
end
section
variable {μ : Mu} {w : World} {I : Nat → Prop} {hp : Heap} {sl : Slots} {a : Act}
theorem reps_atoms : ∀ (l : List Value), AV.reps μ w I hp (l.map av) l
  | [] => trivial
  | v :: l => ⟨by rw [AV.rep, D.rep], reps_atoms l⟩
theorem opd_wp {x : Operand} {Q : AV → Prop} (hs : SlotsRep μ w I hp sl a) (h : (opd x).wp sl hp Q) : ∃ v, Q v ∧ v.rep μ w I hp (a.eval x) := by
  cases x with
  | tmp t =>
    obtain ⟨v, e, h⟩ := slot_wp h
    obtain ⟨u, hu, hr⟩ := hs t v e
    refine ⟨v, h, ?_⟩
    have : a.eval (.tmp t) = u := by simp [Act.eval, Array.getD_eq_getD_getElem?, hu]
    rw [this]; exact hr
  | const c =>
    cases c <;> first
      | exact ⟨_, h, by rw [AV.rep, D.rep]; rfl⟩
      | exact ⟨_, h, by rw [AV.rep]; exact ⟨_, rfl, reps_atoms _⟩⟩
  | global g => exact ⟨_, h, by rw [AV.rep, D.rep]; rfl⟩
  | func f => exact ⟨_, h, by rw [AV.rep]; exact ⟨#[], #[], rfl, trivial, trivial⟩⟩
theorem opds_wp {Q : List AV → Prop} (hs : SlotsRep μ w I hp sl a) : ∀ {xs : List Operand} {Q : List AV → Prop}, (opds xs).wp sl hp Q → ∃ vs, Q vs ∧ AV.reps μ w I hp vs (xs.map a.eval)
  | [], Q, h => ⟨[], h, trivial⟩
  | x :: xs, Q, h => by
    unfold opds at h
    rw [wp_bind] at h
    obtain ⟨v, h, hv⟩ := opd_wp hs h
    rw [wp_bind] at h
    obtain ⟨vs, h, hvs⟩ := opds_wp (Q := fun vs => Q (v :: vs)) hs h
    exact ⟨v :: vs, h, hv, hvs⟩
theorem reps_get : ∀ {xs : List AV} {vs : List Value} {i : Nat} {x : AV}, AV.reps μ w I hp xs vs → xs[i]? = some x → ∃ v, vs[i]? = some v ∧ x.rep μ w I hp v
  | x :: xs, v :: vs, 0, y, h, e => by simp at e; subst e; exact ⟨v, by simp, h.1⟩
  | x :: xs, v :: vs, i + 1, y, h, e => by simp at e; obtain ⟨u, hu, hr⟩ := reps_get h.2 e; exact ⟨u, by simpa using hu, hr⟩
  | [], _, _, _, _, e => by simp at e
  | _ :: _, [], _, _, h, _ => h.elim
theorem reps_drop : ∀ {xs : List AV} {vs : List Value} (n : Nat), AV.reps μ w I hp xs vs → AV.reps μ w I hp (xs.drop n) (vs.drop n)
  | xs, vs, 0, h => h
  | [], [], _ + 1, _ => trivial
  | x :: xs, v :: vs, n + 1, h => reps_drop n h.2
  | [], _ :: _, _ + 1, h => h.elim
  | _ :: _, [], _ + 1, h => h.elim
theorem reps_take : ∀ {xs : List AV} {vs : List Value} (n : Nat), AV.reps μ w I hp xs vs → AV.reps μ w I hp (xs.take n) (vs.take n)
  | xs, vs, 0, h => trivial
  | [], [], _ + 1, _ => trivial
  | x :: xs, v :: vs, n + 1, h => ⟨h.1, reps_take n h.2⟩
  | [], _ :: _, _ + 1, h => h.elim
  | _ :: _, [], _ + 1, h => h.elim
theorem reps_app : ∀ {xs ys : List AV} {vs us : List Value}, AV.reps μ w I hp xs vs → AV.reps μ w I hp ys us → AV.reps μ w I hp (xs ++ ys) (vs ++ us)
  | [], ys, [], us, _, h => h
  | x :: xs, ys, v :: vs, us, h, h' => ⟨h.1, reps_app h.2 h'⟩
  | [], _, _ :: _, _, h, _ => h.elim
  | _ :: _, _, [], _, h, _ => h.elim
theorem reps_set : ∀ {xs : List AV} {vs : List Value} {i : Nat} {x : AV} {v : Value}, AV.reps μ w I hp xs vs → x.rep μ w I hp v → AV.reps μ w I hp (xs.set i x) (vs.set i v)
  | x :: xs, v :: vs, 0, y, u, h, e => ⟨e, h.2⟩
  | x :: xs, v :: vs, i + 1, y, u, h, e => ⟨h.1, reps_set h.2 e⟩
  | [], [], _, _, _, _, _ => trivial
  | [], _ :: _, _, _, _, h, _ => h.elim
  | _ :: _, [], _, _, _, h, _ => h.elim
theorem reps_put : ∀ {ys : List AV} {us : List Value} {xs : List AV} {vs : List Value} {i : Nat}, AV.reps μ w I hp xs vs → AV.reps μ w I hp ys us → AV.reps μ w I hp (putL xs i ys) (putL vs i us)
  | [], [], xs, vs, i, h, _ => h
  | y :: ys, u :: us, xs, vs, i, h, h' => reps_put (xs := xs.set i y) (vs := vs.set i u) (reps_set h h'.1) h'.2
  | [], _ :: _, _, _, _, _, h => h.elim
  | _ :: _, [], _, _, _, _, h => h.elim
/-- A value's cells. -/
theorem rep_cells {v : AV} {u : Value} (h : v.rep μ w I hp u) (ho : oks v.cells = true) : AV.reps μ w I hp v.cells u.cells.toList ∧ ∀ x ∈ u.cells.toList, x.oneCell' = true := by
  have one : ∀ {x : AV} {v : Value}, x.rep μ w I hp v → x.ok = true → v.oneCell' = true := by
    intro x v hr hx
    cases x with
    | d x =>
      rw [AV.rep] at hr
      cases x with
      | a x => rw [D.rep] at hr; subst hr; cases v <;> first | rfl | (simp [AV.ok, D.ok, Value.one] at hx)
      | vs x n k c => rw [D.rep] at hr; obtain ⟨A, cap, e, _⟩ := hr; subst e; rfl
    | rs => rw [AV.rep] at hr; obtain ⟨A, cap, e, _⟩ := hr; subst e; rfl
    | pc => rw [AV.rep] at hr; obtain ⟨A, e, _⟩ := hr; subst e; rfl
    | pr => rw [AV.rep] at hr; obtain ⟨A, e, _⟩ := hr; subst e; rfl
    | pv => rw [AV.rep] at hr; obtain ⟨b, o, e, _⟩ := hr; subst e; rfl
    | mp => rw [AV.rep] at hr; obtain ⟨b, e, _⟩ := hr; subst e; rfl
    | fn => rw [AV.rep] at hr; obtain ⟨b, c, e, _⟩ := hr; subst e; rfl
    | agg => simp [AV.ok] at hx
    | tup => simp [AV.ok] at hx
  have all : ∀ {xs : List AV} {vs : List Value}, AV.reps μ w I hp xs vs → oks xs = true → ∀ x ∈ vs, x.oneCell' = true := by
    intro xs
    induction xs with
    | nil => intro vs h _ x hx; cases vs with
      | nil => cases hx
      | cons => exact h.elim
    | cons y ys ih =>
      intro vs h ho x hx
      cases vs with
      | nil => cases hx
      | cons v vs =>
        unfold oks at ho
        split at ho
        · rename_i hy
          rcases List.mem_cons.1 hx with rfl | hx
          · exact one h.1 hy
          · exact ih h.2 ho x hx
        · cases ho
  cases v with
  | agg cs =>
    rw [AV.rep] at h
    obtain ⟨a, rfl, h⟩ := h
    exact ⟨h, all h ho⟩
  | _ =>
    have hx : u.oneCell' = true := all (xs := [_]) (vs := [u]) ⟨h, trivial⟩ ho u (by simp)
    have hu : u.cells = #[u] := by cases u <;> first | rfl | cases hx
    rw [hu]
    exact ⟨⟨h, trivial⟩, fun x hx' => by simp at hx'; subst hx'; exact hx⟩
end
end Go.VM
namespace Go.VM
def upd (μ : Mu) (r : Nat) (m : Option (Nat × Nat)) : Mu := fun q => if q = r then m else μ q
theorem upd_same (μ : Mu) (r : Nat) (m : Option (Nat × Nat)) : upd μ r m r = m := if_pos rfl
theorem upd_other {μ : Mu} {r q : Nat} {m : Option (Nat × Nat)} (h : q ≠ r) : upd μ r m q = μ q := if_neg h
section
variable {G : Ctx} {μ : Mu} {I : Nat → Prop} {hp : Heap} {w w' : World}
/-- The same blocks, and what else a world has but the count of draws. -/
structure Like (w w' : World) : Prop where
  os : w'.os = w.os
  tape : w'.tape = w.tape
  output : w'.output = w.output
theorem Like.refl (w : World) : Like w w := ⟨rfl, rfl, rfl⟩
theorem HSim.same (S : HSim G μ I hp w) (hl : Like w w') (hh : w'.heap = w.heap) : HSim G μ I hp w' where
  objs r o h := AO.rep_mono (.refl _ _) (fun b _ => by rw [hh]) (fun _ h => h) rfl (fun b z _ => by rw [hh]) (S.objs r o h)
  inj := S.inj
  own r b z h e := by rw [hh]; exact S.own r b z h e
  imm b h := by rw [hh]; exact S.imm b h
  base := ⟨hl.os.trans S.base.os, hl.tape.trans S.base.tape, hl.output.trans S.base.output, by rw [hh]; exact S.base.size, fun b h1 h2 => by rw [hh]; exact S.base.block b h1 h2⟩
  pin := S.pin
  keep := S.keep
theorem Ext.of_heap (hh : w'.heap = w.heap) : Ext μ I hp w μ I hp w' := ⟨.refl _ _, fun _ h => h, fun b _ => by rw [hh]⟩
theorem live_cons {hp : Heap} {r r' : Nat} {o : AO} (h : live ((r, o) :: hp) r') (hne : r' ≠ r) : live hp r' := by
  obtain ⟨o', e, h⟩ := h
  rw [get_cons, if_neg (fun e => hne e.symm)] at e
  exact ⟨o', e, h⟩
/-- An object is laid: a new one, or in the place of one of its kind. -/
theorem HSim.set (S : HSim G μ I hp w) {r : Nat} {o : AO} {m : Option (Nat × Nat)} (hl : Like w w') (hsz : w.heap.size ≤ w'.heap.size)
    (hle : HeapLe hp μ ((r, o) :: hp) (upd μ r m))
    (hfresh : ∀ r' b z z', live hp r' → r' ≠ r → μ r' = some (b, z) → m ≠ some (b, z'))
    (hI : ∀ b z, m = some (b, z) → ¬ I b ∧ b < w'.heap.size ∧ (G.B0 b ∨ G.w0.heap.size ≤ b))
    (hw : ∀ b, b < w.heap.size → (∀ z, m ≠ some (b, z)) → w'.heap[b]? = w.heap[b]?)
    (ho : Ext μ I hp w (upd μ r m) I ((r, o) :: hp) w' → o.rep (upd μ r m) w' I ((r, o) :: hp) r) :
    HSim G (upd μ r m) I ((r, o) :: hp) w' ∧ Ext μ I hp w (upd μ r m) I ((r, o) :: hp) w' := by
  have hIw : ∀ b, I b → w'.heap[b]? = w.heap[b]? := fun b hb => hw b (S.imm b hb).1 (fun z e => (hI b z e).1 hb)
  have X : Ext μ I hp w (upd μ r m) I ((r, o) :: hp) w' := ⟨hle, fun _ h => h, hIw⟩
  refine ⟨⟨fun r' o' e => ?_, fun r1 r2 b z z' h1 h2 e1 e2 => ?_, fun r' b z h e => ?_, fun b h => ⟨Nat.lt_of_lt_of_le (S.imm b h).1 hsz, (S.imm b h).2⟩, ?_, S.pin.le hle, S.keep⟩, X⟩
  · rw [get_cons] at e
    by_cases hr : r = r'
    · rw [if_pos hr] at e; injection e with e; subst e; subst hr; exact ho X
    · rw [if_neg hr] at e
      by_cases hd : o' = .dead
      · subst hd; trivial
      · exact AO.rep_mono hle hIw (fun _ h => h) (upd_other (fun e => hr e.symm)) (fun b z e2 => hw b (S.own r' b z ⟨o', e, hd⟩ e2).2.1 (fun z' e3 => hfresh r' b z z' ⟨o', e, hd⟩ (fun e => hr e.symm) e2 e3)) (S.objs r' o' e)
  · by_cases c1 : r1 = r
    · by_cases c2 : r2 = r
      · rw [c1, c2]
      · subst c1
        rw [upd_same] at e1; rw [upd_other c2] at e2
        exact absurd e1 (hfresh r2 b z' z (live_cons h2 c2) c2 e2)
    · by_cases c2 : r2 = r
      · subst c2
        rw [upd_same] at e2; rw [upd_other c1] at e1
        exact absurd e2 (hfresh r1 b z z' (live_cons h1 c1) c1 e1)
      · rw [upd_other c1] at e1; rw [upd_other c2] at e2
        exact S.inj r1 r2 b z z' (live_cons h1 c1) (live_cons h2 c2) e1 e2
  · by_cases c : r' = r
    · subst c; rw [upd_same] at e; exact hI b z e
    · rw [upd_other c] at e
      have := S.own r' b z (live_cons h c) e
      exact ⟨this.1, Nat.lt_of_lt_of_le this.2.1 hsz, this.2.2⟩
  · refine ⟨hl.os.trans S.base.os, hl.tape.trans S.base.tape, hl.output.trans S.base.output, Nat.le_trans S.base.size hsz, fun b h1 h2 => ?_⟩
    rw [hw b (Nat.lt_of_lt_of_le h1 S.base.size) (fun z e => by rcases (hI b z e).2.2 with h | h; exact h2 h; omega)]
    exact S.base.block b h1 h2
theorem le_new {r : Nat} {o : AO} {m : Option (Nat × Nat)} (h : get hp r = none) : HeapLe hp μ ((r, o) :: hp) (upd μ r m) := ⟨fun q o' e => by
  have hq : q ≠ r := by intro e2; subst e2; rw [h] at e; cases e
  exact ⟨o', by rw [get_cons, if_neg (fun e => hq e.symm)]; exact e, .inr ⟨.refl _, upd_other hq⟩⟩⟩
theorem le_set {r : Nat} {o o' : AO} {m : Option (Nat × Nat)} (h : get hp r = some o) (hk : o.like o') (hm : m = μ r) : HeapLe hp μ ((r, o') :: hp) (upd μ r m) := ⟨fun q p e => by
  by_cases hq : q = r
  · subst hq
    rw [h] at e; injection e with e; subst e
    exact ⟨o', by rw [get_cons, if_pos rfl], .inr ⟨hk, by rw [upd_same, hm]⟩⟩
  · exact ⟨p, by rw [get_cons, if_neg (fun e => hq e.symm)]; exact e, .inr ⟨.refl _, upd_other hq⟩⟩⟩
/-- A new object in a new block. -/
theorem HSim.new (S : HSim G μ I hp w) {r : Nat} (hr : get hp r = none) (ob : Obj) (z : Nat) (o : AO) (hl : Like w w') (hh : w'.heap = w.heap.push ob)
    (ho : Ext μ I hp w (upd μ r (some (w.heap.size, z))) I ((r, o) :: hp) w' → o.rep (upd μ r (some (w.heap.size, z))) w' I ((r, o) :: hp) r) :
    HSim G (upd μ r (some (w.heap.size, z))) I ((r, o) :: hp) w' ∧ Ext μ I hp w (upd μ r (some (w.heap.size, z))) I ((r, o) :: hp) w' := by
  refine S.set hl (by rw [hh]; simp) (le_new hr) (fun r' b z1 z2 h1 h2 e1 e2 => ?_) (fun b z' e => ?_) (fun b hb hne => ?_) ho
  · injection e2 with e2; injection e2 with e2 e3
    have := (S.own r' b z1 h1 e1).2.1
    omega
  · injection e with e; injection e with e e'
    subst e
    refine ⟨fun h => ?_, by rw [hh]; simp, .inr S.base.size⟩
    have := (S.imm _ h).1
    omega
  · rw [hh, Array.getElem?_push, if_neg (by omega)]
/-- A row of no elements, nowhere yet. -/
theorem HSim.newV (S : HSim G μ I hp w) {r k : Nat} (hr : get hp r = none) (c : Nat → Nat → D) :
    HSim G (upd μ r none) I ((r, .row 0 k c) :: hp) w ∧ Ext μ I hp w (upd μ r none) I ((r, .row 0 k c) :: hp) w :=
  S.set (.refl w) (Nat.le_refl _) (le_new hr) (fun _ _ _ _ _ _ _ => by simp) (fun _ _ e => by cases e) (fun _ _ _ => rfl) (fun _ => .inl ⟨upd_same _ _ _, rfl⟩)
/-- A block is turned whose object stands. -/
theorem HSim.turn (S : HSim G μ I hp w) {r b z : Nat} {o o' : AO} (hr : get hp r = some o) (hd : o ≠ .dead) (hk : o.like o') (hm : μ r = some (b, z)) (hl : Like w w') (hsz : w'.heap.size = w.heap.size)
    (hw : ∀ k, k ≠ b → w'.heap[k]? = w.heap[k]?)
    (ho : Ext μ I hp w μ I ((r, o') :: hp) w' → o'.rep μ w' I ((r, o') :: hp) r) :
    HSim G μ I ((r, o') :: hp) w' ∧ Ext μ I hp w μ I ((r, o') :: hp) w' := by
  have e : upd μ r (some (b, z)) = μ := by
    funext q
    by_cases h : q = r
    · subst h; rw [upd_same, hm]
    · exact upd_other h
  have := S.set (r := r) (o := o') (m := some (b, z)) hl (Nat.le_of_eq hsz.symm) (le_set hr hk hm.symm) (fun r' b' z1 z2 h1 h2 e1 e2 => ?_) (fun b' z' e2 => ?_) (fun k hk hne => ?_) (by rw [e]; exact ho)
  · rw [e] at this; exact this
  · injection e2 with e2; injection e2 with e2 e3
    subst e2
    exact h2 (S.inj r' r b z1 z h1 ⟨o, hr, hd⟩ e1 hm)
  · injection e2 with e2; injection e2 with e2 e3
    subst e2
    have := S.own r b z ⟨o, hr, hd⟩ hm
    exact ⟨this.1, by rw [hsz]; exact this.2.1, this.2.2⟩
  · exact hw k (fun e => hne z (by rw [e]))
/-- An object is given up. -/
theorem HSim.kill (S : HSim G μ I hp w) (r : Nat) : HSim G μ I ((r, .dead) :: hp) w ∧ Ext μ I hp w μ I ((r, .dead) :: hp) w := by
  have hle : HeapLe hp μ ((r, .dead) :: hp) μ := ⟨fun q o e => by
    by_cases h : r = q
    · exact ⟨.dead, by rw [get_cons, if_pos h], .inl rfl⟩
    · exact ⟨o, by rw [get_cons, if_neg h]; exact e, .inr ⟨.refl _, rfl⟩⟩⟩
  have lv : ∀ {q}, live ((r, .dead) :: hp) q → live hp q ∧ q ≠ r := fun {q} ⟨o, e, h⟩ => by
    rw [get_cons] at e
    by_cases hq : r = q
    · rw [if_pos hq] at e; injection e with e; exact absurd e.symm h
    · rw [if_neg hq] at e; exact ⟨⟨o, e, h⟩, fun e => hq e.symm⟩
  refine ⟨⟨fun q o e => ?_, fun r1 r2 b z z' h1 h2 => S.inj r1 r2 b z z' (lv h1).1 (lv h2).1, fun q b z h => S.own q b z (lv h).1, S.imm, S.base, S.pin.le hle, S.keep⟩, ⟨hle, fun _ h => h, fun _ _ => rfl⟩⟩
  rw [get_cons] at e
  by_cases hq : r = q
  · rw [if_pos hq] at e; injection e with e; subst e; trivial
  · rw [if_neg hq] at e
    exact AO.rep_mono hle (fun _ _ => rfl) (fun _ h => h) rfl (fun _ _ _ => rfl) (S.objs q o e)
/-- A given object's block goes to a new one. -/
theorem HSim.hand (S : HSim G μ I hp w) {r f b z : Nat} {o : AO} (hr : get hp r = some o) (hd : o ≠ .dead) (hf : get hp f = none) (hm : μ r = some (b, z)) (o' : AO) (hl : Like w w') (hsz : w'.heap.size = w.heap.size)
    (hw : ∀ k, k ≠ b → w'.heap[k]? = w.heap[k]?)
    (ho : Ext μ I hp w (upd μ f (some (b, z))) I ((f, o') :: (r, .dead) :: hp) w' → o'.rep (upd μ f (some (b, z))) w' I ((f, o') :: (r, .dead) :: hp) f) :
    HSim G (upd μ f (some (b, z))) I ((f, o') :: (r, .dead) :: hp) w' ∧ Ext μ I hp w (upd μ f (some (b, z))) I ((f, o') :: (r, .dead) :: hp) w' := by
  obtain ⟨S1, X1⟩ := S.kill r
  have hrf : r ≠ f := by intro e; subst e; rw [hr] at hf; cases hf
  have hf1 : get ((r, AO.dead) :: hp) f = none := by rw [get_cons, if_neg hrf]; exact hf
  have tr : ∀ {μ' : Mu} {hp' : Heap}, Ext μ I ((r, .dead) :: hp) w μ' I hp' w' → Ext μ I hp w μ' I hp' w' := fun {μ' hp'} X2 => ⟨⟨fun q p e => by
    obtain ⟨p1, e1, h1⟩ := X1.le.le q p e
    obtain ⟨p2, e2, h2⟩ := X2.le.le q p1 e1
    refine ⟨p2, e2, ?_⟩
    rcases h2 with h2 | ⟨h2, m2⟩
    · exact .inl h2
    · rcases h1 with h1 | ⟨h1, m1⟩
      · subst h1
        left
        cases p2 <;> first | rfl | exact h2.elim
      · right
        refine ⟨?_, m2⟩
        cases p <;> cases p1 <;> cases p2 <;> simp_all [AO.like]⟩, fun b hb => hb, X2.same⟩
  have := S1.set (r := f) (o := o') (m := some (b, z)) hl (Nat.le_of_eq hsz.symm) (le_new hf1) (fun r' b' z1 z2 h1 h2 e1 e2 => ?_) (fun b' z' e2 => ?_) (fun k hk hne => hw k (fun e => hne z (by rw [e]))) (fun X => ho (tr X))
  · exact ⟨this.1, tr this.2⟩
  · injection e2 with e2; injection e2 with e2 e3
    subst e2
    obtain ⟨p, e, hp'⟩ := h1
    rw [get_cons] at e
    by_cases hq : r = r'
    · rw [if_pos hq] at e; injection e with e; exact hp' e.symm
    · rw [if_neg hq] at e
      exact hq (S.inj r r' b z z1 ⟨o, hr, hd⟩ ⟨p, e, hp'⟩ hm e1)
  · injection e2 with e2; injection e2 with e2 e3
    subst e2
    have := S.own r b z ⟨o, hr, hd⟩ hm
    exact ⟨this.1, by rw [hsz]; exact this.2.1, this.2.2⟩
/-- A new block that never turns. -/
theorem HSim.imm_new (S : HSim G μ I hp w) (ob : Obj) (hl : Like w w') (hh : w'.heap = w.heap.push ob) :
    HSim G μ (fun b => I b ∨ b = w.heap.size) hp w' ∧ Ext μ I hp w μ (fun b => I b ∨ b = w.heap.size) hp w' := by
  have hw : ∀ b, b < w.heap.size → w'.heap[b]? = w.heap[b]? := fun b hb => by rw [hh, Array.getElem?_push, if_neg (by omega)]
  have hIw : ∀ b, I b → w'.heap[b]? = w.heap[b]? := fun b hb => hw b (S.imm b hb).1
  refine ⟨⟨fun r o e => ?_, S.inj, fun r b z h e => ?_, fun b h => ?_, ?_, S.pin, fun b h => .inl (S.keep b h)⟩, ⟨.refl _ _, fun _ h => .inl h, hIw⟩⟩
  · by_cases hd : o = .dead
    · subst hd; trivial
    · exact AO.rep_mono (.refl _ _) hIw (fun _ h => .inl h) rfl (fun b z e2 => hw b (S.own r b z ⟨o, e, hd⟩ e2).2.1) (S.objs r o e)
  · have := S.own r b z h e
    refine ⟨fun h => ?_, by rw [hh]; simp; omega, this.2.2⟩
    rcases h with h | h
    · exact this.1 h
    · omega
  · rcases h with h | h
    · have := S.imm b h
      exact ⟨by rw [hh]; simp; omega, this.2⟩
    · subst h
      exact ⟨by rw [hh]; simp, .inr (.inr S.base.size)⟩
  · refine ⟨hl.os.trans S.base.os, hl.tape.trans S.base.tape, hl.output.trans S.base.output, by rw [hh]; simp; exact Nat.le_succ_of_le S.base.size, fun b h1 h2 => ?_⟩
    rw [hw b (Nat.lt_of_lt_of_le h1 S.base.size)]
    exact S.base.block b h1 h2
/-- A given object's block is turned and never turns again. -/
theorem HSim.freeze (S : HSim G μ I hp w) {r b z : Nat} {o : AO} (hr : get hp r = some o) (hd : o ≠ .dead) (hm : μ r = some (b, z)) (hl : Like w w') (hsz : w'.heap.size = w.heap.size) (hw : ∀ k, k ≠ b → w'.heap[k]? = w.heap[k]?) :
    HSim G μ (fun k => I k ∨ k = b) ((r, .dead) :: hp) w' ∧ Ext μ I hp w μ (fun k => I k ∨ k = b) ((r, .dead) :: hp) w' := by
  obtain ⟨S1, X1⟩ := S.kill r
  have hob := S.own r b z ⟨o, hr, hd⟩ hm
  have hIw : ∀ k, I k → w'.heap[k]? = w.heap[k]? := fun k hk => hw k (fun e => hob.1 (e ▸ hk))
  have lv : ∀ {q}, live ((r, .dead) :: hp) q → live hp q ∧ q ≠ r := fun {q} ⟨o, e, h⟩ => by
    rw [get_cons] at e
    by_cases hq : r = q
    · rw [if_pos hq] at e; injection e with e; exact absurd e.symm h
    · rw [if_neg hq] at e; exact ⟨⟨o, e, h⟩, fun e => hq e.symm⟩
  refine ⟨⟨fun q p e => ?_, S1.inj, fun q b' z' h e => ?_, fun k hk => ?_, ?_, S1.pin, fun k hk => .inl (S.keep k hk)⟩, ⟨X1.le, fun _ h => .inl h, hIw⟩⟩
  · by_cases hd2 : p = .dead
    · subst hd2; trivial
    · refine AO.rep_mono (.refl _ _) hIw (fun _ h => .inl h) rfl (fun b' z' e2 => hw b' (fun e3 => ?_)) (S1.objs q p e)
      have hlv := lv ⟨p, e, hd2⟩
      rw [e3] at e2
      exact hlv.2 (S.inj q r b z' z hlv.1 ⟨o, hr, hd⟩ e2 hm)
  · have hlv := lv h
    have := S.own q b' z' hlv.1 e
    refine ⟨fun h => ?_, by rw [hsz]; exact this.2.1, this.2.2⟩
    rcases h with h | h
    · exact this.1 h
    · rw [h] at e; exact hlv.2 (S.inj q r b z' z hlv.1 ⟨o, hr, hd⟩ e hm)
  · rw [hsz]
    rcases hk with hk | hk
    · exact S.imm k hk
    · rw [hk]; exact ⟨hob.2.1, .inr hob.2.2⟩
  · refine ⟨hl.os.trans S.base.os, hl.tape.trans S.base.tape, hl.output.trans S.base.output, by rw [hsz]; exact S.base.size, fun k h1 h2 => ?_⟩
    rw [hw k (fun e => by rw [e] at h1 h2; rcases hob.2.2 with h | h; exact h2 h; omega)]
    exact S.base.block k h1 h2
end
end Go.VM
namespace Go.VM
open RM
/-- What stands behind an operation. -/
def Then (G : Ctx) (N : Nat) (sl : Slots) (a : Act) (dst : Option Tmp) (K : Act → World → Prop) (hp : Heap) : Eff → Prop
  | .mk v up nw => addNew nw (setOld up hp) fun hp' => ∀ μ' I' u w', Sim G N μ' I' sl hp' a w' → v.rep μ' w' I' hp' u → K (a.put dst u) w'
theorem Sim.next {G : Ctx} {N : Nat} {μ μ' : Mu} {I I' : Nat → Prop} {sl : Slots} {hp hp' : Heap} {a : Act} {w w' : World} (S : Sim G N μ I sl hp a w) (H : HSim G μ' I' hp' w' ∧ Ext μ I hp w μ' I' hp' w') : Sim G N μ' I' sl hp' a w' := ⟨S.slots.ext H.2, H.1, S.size, S.defers⟩
section
variable {P : Program} {E : Env} {G : Ctx} {N : Nat} {μ : Mu} {I : Nat → Prop} {sl : Slots} {hp : Heap} {a : Act} {w : World} {K : Act → World → Prop} {Q : Exit → Act → World → Prop} {o : Oper} {d f : Nat}
theorem upV {u : Value} {w' : World} (hr : (execOp a.eval o).run P w = .ok (.value u) w') (hK : K (a.put o.dst u) w') : o.wp P a w K Q := by unfold Oper.wp; rw [hr]; exact hK
theorem upS {w' : World} (hr : (execOp a.eval o).run P w = .ok .skip w') (hK : K (a.put o.dst undef) w') : o.wp P a w K Q := by unfold Oper.wp; rw [hr]; exact hK
theorem rep_a {x v : Value} (h : (av x).rep μ w I hp v) : v = x := by rw [AV.rep, D.rep] at h; exact h
theorem a_rep (x : Value) : (av x).rep μ w I hp x := by rw [AV.rep, D.rep]
theorem undef_rep : (av undef).rep μ w I hp undef := a_rep _
theorem op_move {x : Operand} (ho : o.op = .move x ∨ o.op = .assign x) (S : Sim G N μ I sl hp a w) (h : ((opd x).bind fun v => RM.pure (Eff.mk v [] [])).wp sl hp (Then G N sl a o.dst K hp)) : o.wp P a w K Q := by
  rw [wp_bind] at h
  obtain ⟨v, h, hv⟩ := opd_wp S.slots h
  exact upV (u := a.eval x) (w' := w) (by rcases ho with ho | ho <;> simp [execOp, ho]) (h μ I _ w S hv)
theorem op_pick {c x y : Operand} (ho : o.op = .pick c x y) (S : Sim G N μ I sl hp a w) (h : (step E d f (.pick c x y)).wp sl hp (Then G N sl a o.dst K hp)) : o.wp P a w K Q := by
  unfold step at h
  rw [wp_bind] at h
  obtain ⟨v, h, hv⟩ := opd_wp S.slots h
  rw [wp_bind] at h
  obtain ⟨b, rfl, h⟩ := asB_wp h
  have hc := rep_a hv
  cases b with
  | true =>
    have h := h.t rfl
    rw [wp_bind] at h
    obtain ⟨v, h, hv⟩ := opd_wp S.slots h
    exact upV (u := a.eval x) (w' := w) (by simp [execOp, ho, hc, asBool]) (h μ I _ w S hv)
  | false =>
    have h := h.f rfl
    rw [wp_bind] at h
    obtain ⟨v, h, hv⟩ := opd_wp S.slots h
    exact upV (u := a.eval y) (w' := w) (by simp [execOp, ho, hc, asBool]) (h μ I _ w S hv)
/-- A new object, behind an operation. -/
theorem Then.new {v : AV} {r z : Nat} {o' : AO} {ob : Obj} {w' : World} {dst : Option Tmp} {u : Value} (S : Sim G N μ I sl hp a w) (h : Then G N sl a dst K hp (.mk v [] [(r, o')])) (hl : Like w w') (hh : w'.heap = w.heap.push ob)
    (ho : Ext μ I hp w (upd μ r (some (w.heap.size, z))) I ((r, o') :: hp) w' → o'.rep (upd μ r (some (w.heap.size, z))) w' I ((r, o') :: hp) r)
    (hv : Ext μ I hp w (upd μ r (some (w.heap.size, z))) I ((r, o') :: hp) w' → v.rep (upd μ r (some (w.heap.size, z))) w' I ((r, o') :: hp) u) : K (a.put dst u) w' := by
  have h : (match get hp r with
    | none => _
    | some _ => False) := h
  cases hr : get hp r with
  | some x => rw [hr] at h; exact h.elim
  | none =>
    rw [hr] at h
    have H := S.heap.new hr ob z o' hl hh ho
    exact h _ _ _ _ (S.next H) (hv H.2)
theorem heap_push_self (w : World) (ob : Obj) : (w.alloc ob).heap[w.heap.size]? = some ob := by show (w.heap.push ob)[w.heap.size]? = _; simp
theorem nofz0 (vs : Array Value) : nofz vs (0, 0) := fun j _ h => by omega
theorem pc_rep_new {r z b : Nat} {cs : List AV} (j : Nat) (hb : b = w.heap.size) : ∀ {w' : World}, (AV.pc r j).rep (upd μ r (some (b, z))) w' I ((r, .cells cs) :: hp) (.pointer (some ⟨b, j, none⟩)) := by
  intro w'
  rw [AV.rep]
  exact ⟨_, rfl, .cells cs, by rw [get_cons, if_pos rfl], fun cs' _ => ⟨b, z, upd_same _ _ _, rfl⟩⟩
theorem one_of {v : Value} (h : Value.one v = true) : v.oneCell' = true := by cases v <;> first | rfl | cases h
theorem op_alloc {t : Nat} (ho : o.op = .alloc t) (T : TyOk P E.tt) (S : Sim G N μ I sl hp a w) (h : (step E d f (.alloc t)).wp sl hp (Then G N sl a o.dst K hp)) : o.wp P a w K Q := by
  unfold step at h
  rw [wp_bind] at h
  obtain ⟨td, ht, h⟩ := ty_wp h
  obtain ⟨g⟩ := T.good ht
  have hrun : (execOp a.eval o).run P w = .ok (.value (.pointer (some ⟨w.heap.size, 0, none⟩))) (w.alloc (.cells g.z.cells t)) := by
    simp [execOp, ho, Instr.alloc, g.zeroValue, newVar, Go.newRow]
  refine upV hrun ?_
  have cellsCase : ∀ {K : Act → World → Prop}, Then G N sl a o.dst K hp (.mk (.pc f 0) [] [(f, .cells (td.zero.map av))]) → K (a.put o.dst (.pointer (some ⟨w.heap.size, 0, none⟩))) (w.alloc (.cells g.z.cells t)) := fun h =>
    Then.new (z := 0) S h ⟨rfl, rfl, rfl⟩ rfl (fun X => ⟨w.heap.size, 0, g.z.cells, t, (0, 0), upd_same _ _ _, heap_push_self _ _, nofz0 _, by rw [g.cells]; exact reps_atoms _⟩) (fun X => pc_rep_new 0 rfl)
  cases hk : td.k with
  | arr n e =>
    rw [hk] at h
    simp only at h
    rw [wp_bind] at h
    obtain ⟨te, hte, h⟩ := ty_wp h
    obtain ⟨hb, h⟩ := need_wp h
    rw [Bool.and_eq_true] at hb
    have hn : 0 < n := by have := hb.1; simpa [Nat.blt_eq] using this
    have hle : n * te.size ≤ td.zero.length := Nat.le_of_ble_eq_true hb.2
    refine Then.new (z := g.z.cells.size) S h ⟨rfl, rfl, rfl⟩ rfl (fun X => .inr ⟨w.heap.size, _, g.z.cells, t, (0, 0), upd_same _ _ _, heap_push_self _ _, nofz0 _, rfl, ?_, fun i j hi hj => ?_⟩) (fun X => ?_)
    · rw [← Array.length_toList, g.cells]; exact hle
    · have hlt : i * te.size + j < td.zero.length := by
        have : (i + 1) * te.size ≤ n * te.size := Nat.mul_le_mul_right _ hi
        rw [Nat.add_mul] at this; omega
      refine ⟨td.zero[i * te.size + j], ?_, one_of (g.one _ (List.getElem_mem hlt)), ?_⟩
      · rw [← Array.getElem?_toList, g.cells, List.getElem?_eq_getElem hlt]
      · simp only [litC]
        rw [List.getD_eq_getElem?_getD, List.getElem?_map, List.getElem?_eq_getElem hlt]
        simp [D.rep]
    · rw [AV.rep]
      refine ⟨_, rfl, _, by rw [get_cons, if_pos rfl], fun n' k' c' e => ?_⟩
      injection e with e1 e2 e3
      subst e1; subst e2
      exact ⟨hn, w.heap.size, _, upd_same _ _ _, by simp⟩
  | atom => rw [hk] at h; exact cellsCase h
  | struct fo => rw [hk] at h; exact cellsCase h
  | slice e => rw [hk] at h; exact cellsCase h
  | map k e => rw [hk] at h; exact cellsCase h
  | str => rw [hk] at h; exact cellsCase h
  | ptr => rw [hk] at h; exact cellsCase h
  | func => rw [hk] at h; exact cellsCase h
theorem op_box {t : Nat} {x : Operand} (ho : o.op = .box t x) (S : Sim G N μ I sl hp a w) (h : (step E d f (.box t x)).wp sl hp (Then G N sl a o.dst K hp)) : o.wp P a w K Q := by
  unfold step at h
  rw [wp_bind] at h
  obtain ⟨v, h, hv⟩ := opd_wp S.slots h
  obtain ⟨hb, h⟩ := need_wp h
  have hc := rep_cells hv hb
  have hrun : (execOp a.eval o).run P w = .ok (.value (.pointer (some ⟨w.heap.size, 0, none⟩))) (w.alloc (.cells (a.eval x).cells t)) := by
    simp [execOp, ho, Instr.box, newVar, Go.newRow]
  exact upV hrun (Then.new (z := 0) S h ⟨rfl, rfl, rfl⟩ rfl (fun X => ⟨w.heap.size, 0, _, t, (0, 0), upd_same _ _ _, heap_push_self _ _, nofz0 _, X.reps hc.1⟩) (fun X => pc_rep_new 0 rfl))
theorem op_nilCheck {x : Operand} (ho : o.op = .nilCheck x) (S : Sim G N μ I sl hp a w) (h : (step E d f (.nilCheck x)).wp sl hp (Then G N sl a o.dst K hp)) : o.wp P a w K Q := by
  unfold step at h
  rw [wp_bind] at h
  obtain ⟨v, h, hv⟩ := opd_wp S.slots h
  cases v <;> simp only [isRef] at h <;> try exact h.elim
  case pc r j =>
    have hv' := hv
    rw [AV.rep] at hv'
    obtain ⟨p, e, _⟩ := hv'
    exact upV (u := a.eval x) (w' := w) (by simp [execOp, ho, e]) (h μ I _ w S hv)
  case pr r i j =>
    have hv' := hv
    rw [AV.rep] at hv'
    obtain ⟨p, e, _⟩ := hv'
    exact upV (u := a.eval x) (w' := w) (by simp [execOp, ho, e]) (h μ I _ w S hv)
  case mp r =>
    have hv' := hv
    rw [AV.rep] at hv'
    obtain ⟨p, e, _⟩ := hv'
    exact upV (u := a.eval x) (w' := w) (by simp [execOp, ho, e]) (h μ I _ w S hv)
  case fn g xs ys =>
    have hv' := hv
    rw [AV.rep] at hv'
    obtain ⟨p, q, e, _⟩ := hv'
    cases g <;> first
      | exact h.elim
      | exact upV (u := a.eval x) (w' := w) (by simp [execOp, ho, e]) (h μ I _ w S hv)
end
end Go.VM
namespace Go.VM
open RM Go.RowKit
section
variable {α : Type} {sl : Slots} {hp : Heap}
theorem wrapT_wp {b : Bool} {cs : List AV} {Q : AV → Prop} (h : (wrapT b cs).wp sl hp Q) : (b = true ∧ Q (.agg cs)) ∨ (b = false ∧ ∃ v, cs = [v] ∧ Q v) := by
  unfold wrapT at h
  cases b with
  | true => exact .inl ⟨rfl, h⟩
  | false =>
    simp only at h
    split at h
    · exact .inr ⟨rfl, _, rfl, h⟩
    · exact h.elim
theorem toDs_wp : ∀ {xs : List AV} {Q : List D → Prop}, (toDs xs).wp sl hp Q → ∃ ds, xs = ds.map .d ∧ (∀ x ∈ ds, x.ok = true) ∧ Q ds
  | [], Q, h => ⟨[], rfl, fun _ h => (by cases h), h⟩
  | x :: xs, Q, h => by
    unfold toDs at h
    rw [wp_bind] at h
    cases x <;> simp only [AV.toD] at h <;> try exact h.elim
    rename_i x
    split at h
    · rename_i hx
      have h : ((toDs xs).bind fun vs => RM.pure (x :: vs)).wp sl hp Q := h
      rw [wp_bind] at h
      obtain ⟨ds, e, ho, h⟩ := toDs_wp (Q := fun vs => Q (x :: vs)) h
      exact ⟨x :: ds, by rw [e]; rfl, fun y hy => by rcases List.mem_cons.1 hy with rfl | hy; exact hx; exact ho y hy, h⟩
    · exact h.elim
end
section
variable {P : Program} {E : Env} {G : Ctx} {N : Nat} {μ : Mu} {I : Nat → Prop} {sl : Slots} {hp : Heap} {a : Act} {w : World} {K : Act → World → Prop} {Q : Exit → Act → World → Prop} {o : Oper} {d f : Nat}
theorem exists_list {p : Nat → Value → Prop} : ∀ {n : Nat}, (∀ q, q < n → ∃ u, p q u) → ∃ l : List Value, l.length = n ∧ ∀ q u, l[q]? = some u → p q u
  | 0, _ => ⟨[], rfl, fun q u h => by simp at h⟩
  | n + 1, h => by
    obtain ⟨l, hl, hp⟩ := exists_list (n := n) fun q hq => h q (by omega)
    obtain ⟨u, hu⟩ := h n (by omega)
    refine ⟨l ++ [u], by simp [hl], fun q v e => ?_⟩
    rcases Nat.lt_or_ge q n with hq | hq
    · rw [List.getElem?_append_left (by omega)] at e; exact hp q v e
    · rw [List.getElem?_append_right (by omega)] at e
      have : q - l.length = 0 := by
        rcases Nat.lt_or_ge (q - l.length) 1 with h | h
        · omega
        · rw [List.getElem?_eq_none (by simpa using h)] at e; cases e
      rw [this] at e
      simp at e
      have : q = n := by omega
      subst this; subst e; exact hu
theorem reps_ds {F : Nat → D} : ∀ {l : List Value} {s : Nat}, (∀ q u, l[q]? = some u → (F (s + q)).rep w I u) → AV.reps μ w I hp ((List.range' s l.length).map fun j => .d (F j)) l
  | [], _, _ => trivial
  | u :: l, s, h => by
    refine ⟨by rw [AV.rep]; exact h 0 u (by simp), ?_⟩
    exact reps_ds (fun q v e => by have := h (q + 1) v (by simpa using e); rwa [show s + (q + 1) = s + 1 + q from by omega] at this)
theorem reps_range {F : Nat → D} {l : List Value} {n : Nat} (hl : l.length = n) (h : ∀ q u, l[q]? = some u → (F q).rep w I u) : AV.reps μ w I hp (rangeCells n F) l := by
  unfold rangeCells
  rw [List.range_eq_range', ← hl]
  exact reps_ds (by simpa using h)
theorem add_lit0 (b o n : Nat) : Addr.add ⟨b, o, none⟩ n = ⟨b, o + n, none⟩ := Addr.add_lit b o n
/-- A variable is read, cell by cell. -/
theorem run_loadT {t : Nat} {td : TyD} (g : TyGood P t td) {b j : Nat} {l : List Value} (hl : l.length = td.size) (hc : ∀ i v, l[i]? = some v → w.cell? ⟨b, j + i, none⟩ = some v) {cs : List AV} (hr : AV.reps μ w I hp cs l) {Q : AV → Prop} (h : (wrapT td.k.agg cs).wp sl hp Q) :
    ∃ v u, Q v ∧ v.rep μ w I hp u ∧ (loadVar t ⟨b, j, none⟩).run P w = .ok u w := by
  have hcells : (loadCells ⟨b, j, none⟩ td.size).run P w = .ok l.toArray w := by
    rw [← hl]
    exact run_loadCells_list (P := P) w ⟨b, j, none⟩ l (fun i v e => by rw [add_lit0]; exact hc i v e)
  rcases wrapT_wp h with ⟨hb, h2⟩ | ⟨hb, v, e, h2⟩
  · refine ⟨_, .agg l.toArray, h2, by rw [AV.rep]; exact ⟨_, rfl, hr⟩, ?_⟩
    simp [loadVar, g.isAgg, hb, g.sizeOf, hcells]
  · subst e
    match l, hr, hl, hc with
    | [u], hr, hl, hc =>
      refine ⟨v, u, h2, hr.1, ?_⟩
      have := hc 0 u rfl
      simp only [Nat.add_zero] at this
      simp [loadVar, g.isAgg, hb, this]
theorem load_run {t : Nat} {x : Operand} {Φ : Eff → Prop} (T : TyOk P E.tt) (S : Sim G N μ I sl hp a w) (h : (step E d f (.load t x)).wp sl hp Φ) : ∃ v u p, Φ (.mk v [] []) ∧ v.rep μ w I hp u ∧ a.eval x = .pointer (some p) ∧ (loadVar t p).run P w = .ok u w := by
  unfold step at h
  rw [wp_bind] at h
  obtain ⟨td, ht, h⟩ := ty_wp h
  obtain ⟨g⟩ := T.good ht
  rw [wp_bind] at h
  obtain ⟨v, h, hv⟩ := opd_wp S.slots h
  have fin : ∀ {b j : Nat} {l : List Value} {cs : List AV}, a.eval x = .pointer (some ⟨b, j, none⟩) → l.length = td.size → (∀ i v, l[i]? = some v → w.cell? ⟨b, j + i, none⟩ = some v) → AV.reps μ w I hp cs l → ((wrapT td.k.agg cs).bind fun v => RM.pure (Eff.mk v [] [])).wp sl hp Φ → ∃ v u p, Φ (.mk v [] []) ∧ v.rep μ w I hp u ∧ a.eval x = .pointer (some p) ∧ (loadVar t p).run P w = .ok u w := by
    intro b j l cs hx hl hc hr h
    rw [wp_bind] at h
    obtain ⟨v, u, h, hvr, hrun⟩ := run_loadT (P := P) (μ := μ) (I := I) (sl := sl) (hp := hp) g hl hc hr h
    exact ⟨v, u, _, h, hvr, hx, hrun⟩
  cases v with
  | pc r j =>
    obtain ⟨ob, e, h⟩ := obj_wp h
    cases ob with
    | dead => exact h.elim
    | row _ _ _ => exact h.elim
    | map _ _ _ => exact h.elim
    | cells cs =>
    obtain ⟨hb, h⟩ := need_wp h
    have hb := Nat.le_of_ble_eq_true hb
    rw [AV.rep] at hv
    obtain ⟨p, hx, ob, e2, hv⟩ := hv
    rw [e] at e2; injection e2 with e2; subst e2
    obtain ⟨b, z, hm, rfl⟩ := hv _ rfl
    obtain ⟨b', z', vs, t', fz, hm', hh, hf, hr⟩ := S.heap.objs r _ e
    rw [hm] at hm'; injection hm' with hm'; injection hm' with e1 e2; subst e1; subst e2
    have hlen : cs.length = vs.size := by rw [AV.reps_len hr]; simp
    refine fin (l := (vs.toList.drop j).take td.size) hx (by rw [List.length_take, List.length_drop, Array.length_toList]; omega) (fun i v e => ?_) (reps_take _ (reps_drop _ hr)) h
    rw [cell_of_row w b (j + i) vs t' fz hh]
    rw [List.getElem?_take] at e
    split at e
    · rw [List.getElem?_drop] at e; simpa using e
    · cases e
  | pr r i j =>
    obtain ⟨ob, e, h⟩ := obj_wp h
    cases ob with
    | dead => exact h.elim
    | cells _ => exact h.elim
    | map _ _ _ => exact h.elim
    | row n k c =>
    obtain ⟨hb, h⟩ := need_wp h
    have hb := Nat.le_of_ble_eq_true hb
    rw [AV.rep] at hv
    obtain ⟨p, hx, ob, e2, hv⟩ := hv
    rw [e] at e2; injection e2 with e2; subst e2
    obtain ⟨hi, b, z, hm, rfl⟩ := hv _ _ _ rfl
    rcases S.heap.objs r _ e with ⟨hm', hn⟩ | ⟨b', z', vs, t', fz, hm', hh, hf, hz, hk, hr⟩
    · omega
    rw [hm] at hm'; injection hm' with hm'; injection hm' with e1 e2; subst e1; subst e2
    obtain ⟨l, hl, hp'⟩ := exists_list (n := td.size) (p := fun q u => vs[i * k + (j + q)]? = some u ∧ (c i (j + q)).rep w I u) (fun q hq => let ⟨u, h1, _, h2⟩ := hr i (j + q) hi (by omega); ⟨u, h1, h2⟩)
    refine fin (l := l) hx hl (fun q v e => ?_) (reps_range hl (fun q u e => (hp' q u e).2)) h
    rw [cell_of_row w b _ vs t' fz hh, ← (hp' q v e).1]
    congr 1; omega
  | pv n k c i j =>
    obtain ⟨hb, h⟩ := need_wp h
    have hb := Nat.le_of_ble_eq_true hb
    rw [AV.rep] at hv
    obtain ⟨b, off, hx, hi, hI, hr⟩ := hv
    obtain ⟨l, hl, hp'⟩ := exists_list (n := td.size) (p := fun q u => w.cell? ⟨b, off + (i * k + (j + q)), none⟩ = some u ∧ (c i (j + q)).rep w I u) (fun q hq => let ⟨u, h1, _, h2⟩ := hr i (j + q) hi (by omega); ⟨u, h1, h2⟩)
    refine fin (l := l) hx hl (fun q v e => ?_) (reps_range hl (fun q u e => (hp' q u e).2)) h
    rw [← (hp' q v e).1]
    congr 2; omega
  | _ => exact h.elim
theorem op_load {t : Nat} {x : Operand} (ho : o.op = .load t x) (T : TyOk P E.tt) (S : Sim G N μ I sl hp a w) (h : (step E d f (.load t x)).wp sl hp (Then G N sl a o.dst K hp)) : o.wp P a w K Q := by
  obtain ⟨v, u, p, h, hv, hx, hrun⟩ := load_run (P := P) T S h
  exact upV (u := u) (w' := w) (by simp [execOp, ho, hx, Instr.loadAt, Instr.sureAddr, hrun]) (h μ I _ w S hv)
/-! ### stores -/
def putA (vs : Array Value) : Nat → List Value → Array Value
  | _, [] => vs
  | o, u :: l => putA (vs.setIfInBounds o u) (o + 1) l
theorem putA_list : ∀ (l : List Value) (vs : Array Value) (o : Nat), (putA vs o l).toList = putL vs.toList o l
  | [], _, _ => rfl
  | u :: l, vs, o => by rw [putA, putL, putA_list l]; simp
theorem putA_size : ∀ (l : List Value) (vs : Array Value) (o : Nat), (putA vs o l).size = vs.size
  | [], _, _ => rfl
  | u :: l, vs, o => by rw [putA, putA_size l]; simp
theorem putA_out : ∀ (l : List Value) (vs : Array Value) (o i : Nat), (i < o ∨ o + l.length ≤ i) → (putA vs o l)[i]? = vs[i]?
  | [], _, _, _, _ => rfl
  | u :: l, vs, o, i, h => by
    rw [putA, putA_out l _ _ _ (by simp only [List.length_cons] at h; omega), Array.getElem?_setIfInBounds, if_neg (by simp only [List.length_cons] at h; omega)]
theorem putA_in : ∀ (l : List Value) (vs : Array Value) (o q : Nat), q < l.length → o + l.length ≤ vs.size → (putA vs o l)[o + q]? = l[q]?
  | u :: l, vs, o, 0, _, h => by
    rw [putA, putA_out l _ _ _ (by omega), Nat.add_zero, Array.getElem?_setIfInBounds, if_pos rfl, if_pos (by simp only [List.length_cons] at h; omega)]; rfl
  | u :: l, vs, o, q + 1, hq, h => by
    have := putA_in l (vs.setIfInBounds o u) (o + 1) q (by simpa using hq) (by simp only [List.length_cons] at h; simp; omega)
    rw [putA, show o + (q + 1) = o + 1 + q from by omega, this]; simp
  | [], _, _, _, h, _ => by simp at h
theorem setCells_block (b : Nat) : ∀ (l : List Value) (o : Nat) (w : World) (vs : Array Value) (t : Nat) (fz : Nat × Nat), w.heap[b]? = some (.cells vs t fz) → (w.setCells b o l).heap[b]? = some (.cells (putA vs o l) t fz)
  | [], _, _, _, _, _, h => h
  | u :: l, o, w, vs, t, fz, h => by
    rw [World.setCells, putA]
    refine setCells_block b l (o + 1) _ _ t fz ?_
    simp [World.setCell, Array.getElem?_modify, h]
theorem setCells_far (b : Nat) : ∀ (l : List Value) (o : Nat) (w : World) (k : Nat), k ≠ b → (w.setCells b o l).heap[k]? = w.heap[k]?
  | [], _, _, _, _ => rfl
  | u :: l, o, w, k, h => by rw [World.setCells, setCells_far b l _ _ k h, Below.heap_setCell _ _ _ _ h]
theorem setCells_like (b : Nat) : ∀ (l : List Value) (o : Nat) (w : World), Like w (w.setCells b o l) ∧ (w.setCells b o l).heap.size = w.heap.size
  | [], _, _ => ⟨.refl _, rfl⟩
  | u :: l, o, w => by
    obtain ⟨h, hs⟩ := setCells_like b l (o + 1) (w.setCell ⟨b, o, none⟩ u)
    exact ⟨⟨h.os.trans rfl, h.tape.trans rfl, h.output.trans rfl⟩, by rw [World.setCells, hs]; simp⟩
theorem nofz_frozen {b j : Nat} {vs : Array Value} {t : Nat} {fz : Nat × Nat} (hh : w.heap[b]? = some (.cells vs t fz)) (hf : nofz vs fz) (hj : j < vs.size) : w.frozen? ⟨b, j, none⟩ = false := by
  have := hf j hj
  obtain ⟨lo, hi⟩ := fz
  simp only [World.frozen?, hh]
  simp only at this
  rw [Bool.and_eq_false_iff]
  rcases Nat.lt_or_ge j lo with h | h
  · left; exact decide_eq_false (by omega)
  · right; exact decide_eq_false (by omega)
theorem nofz_put {vs : Array Value} {fz : Nat × Nat} (h : nofz vs fz) (o : Nat) (l : List Value) : nofz (putA vs o l) fz := fun j hj => h j (by rw [putA_size] at hj; exact hj)
/-- A variable is written. -/
theorem run_storeT {t : Nat} {td : TyD} (g : TyGood P t td) {b j : Nat} {u : Value} {vs : Array Value} {t' : Nat} {fz : Nat × Nat} (hsz : u.cells.toList.length = td.size) (h1 : ∀ x ∈ u.cells.toList, x.oneCell' = true) (hh : w.heap[b]? = some (.cells vs t' fz)) (hf : nofz vs fz) (hin : j + td.size ≤ vs.size) :
    (storeVar t ⟨b, j, none⟩ u).run P w = .ok () (w.setCells b j u.cells.toList) := by
  have hst := run_storeCells_cells (P := P) b j u.cells.toList 0 w (fun q hq => by rw [cell_of_row w b _ vs t' fz hh, Array.getElem?_eq_getElem (by omega)]; rfl) (fun q hq => nofz_frozen hh hf (by omega)) h1
  simp only [Nat.add_zero] at hst
  have hs2 : u.cells.size = td.size := by rw [← Array.length_toList]; exact hsz
  simp [storeVar, g.sizeOf, hs2, hst]
theorem idx_eq {i i' k x y : Nat} (hx : x < k) (hy : y < k) (h : i * k + x = i' * k + y) : i = i' ∧ x = y := by
  have h1 : (i * k + x) / k = i := by rw [Nat.mul_comm, Nat.mul_add_div (by omega), Nat.div_eq_of_lt hx]; omega
  have h2 : (i' * k + y) / k = i' := by rw [Nat.mul_comm, Nat.mul_add_div (by omega), Nat.div_eq_of_lt hy]; omega
  have : i = i' := by rw [← h1, ← h2, h]
  subst this
  exact ⟨rfl, by omega⟩
theorem reps_d : ∀ {ds : List D} {vs : List Value} {q : Nat} {x : D}, AV.reps μ w I hp (ds.map .d) vs → ds[q]? = some x → ∃ v, vs[q]? = some v ∧ x.rep w I v := by
  intro ds vs q x h e
  obtain ⟨v, hv, hr⟩ := reps_get (x := .d x) h (by rw [List.getElem?_map, e]; rfl)
  rw [AV.rep] at hr
  exact ⟨v, hv, hr⟩
theorem op_store {t : Nat} {x y : Operand} (ho : o.op = .store t x y) (T : TyOk P E.tt) (S : Sim G N μ I sl hp a w) (h : (step E d f (.store t x y)).wp sl hp (Then G N sl a o.dst K hp)) : o.wp P a w K Q := by
  unfold step at h
  rw [wp_bind] at h
  obtain ⟨td, ht, h⟩ := ty_wp h
  obtain ⟨g⟩ := T.good ht
  rw [wp_bind] at h
  obtain ⟨p, h, hp'⟩ := opd_wp S.slots h
  rw [wp_bind] at h
  obtain ⟨v, h, hv⟩ := opd_wp S.slots h
  obtain ⟨hb, h⟩ := need_wp h
  rw [Bool.and_eq_true] at hb
  have hsz := Nat.eq_of_beq_eq_true hb.2
  obtain ⟨hc, h1⟩ := rep_cells hv hb.1
  have hlen := AV.reps_len hc
  have hsz2 : (a.eval y).cells.toList.length = td.size := by rw [← hlen, hsz]
  have fin : ∀ {r b j z : Nat} {ob ob' : AO} {vs : Array Value} {t' : Nat} {fz : Nat × Nat}, a.eval x = .pointer (some ⟨b, j, none⟩) → get hp r = some ob → ob ≠ .dead → ob.like ob' → μ r = some (b, z) → w.heap[b]? = some (.cells vs t' fz) → nofz vs fz → j + td.size ≤ vs.size →
      (Ext μ I hp w μ I ((r, ob') :: hp) (w.setCells b j (a.eval y).cells.toList) → ob'.rep μ (w.setCells b j (a.eval y).cells.toList) I ((r, ob') :: hp) r) → Then G N sl a o.dst K hp (.mk (av undef) [(r, ob')] []) → o.wp P a w K Q := by
    intro r b j z ob ob' vs t' fz hx e hd hk hm hh hf hin hrep h
    have hrun := run_storeT (P := P) g hsz2 h1 hh hf hin
    have hl := setCells_like b (a.eval y).cells.toList j w
    have H := S.heap.turn e hd hk hm hl.1 hl.2 (setCells_far b _ _ _) hrep
    exact upS (w' := w.setCells b j (a.eval y).cells.toList) (by simp [execOp, ho, hx, Instr.storeAt, Instr.sureAddr, hrun]) (h _ _ undef _ (S.next H) undef_rep)
  cases p with
  | pc r j =>
    obtain ⟨ob, e, h⟩ := obj_wp h
    cases ob with
    | dead => exact h.elim
    | row _ _ _ => exact h.elim
    | map _ _ _ => exact h.elim
    | cells cs =>
    obtain ⟨hb2, h⟩ := need_wp h
    have hb2 := Nat.le_of_ble_eq_true hb2
    rw [AV.rep] at hp'
    obtain ⟨q, hx, ob, e2, hq⟩ := hp'
    rw [e] at e2; injection e2 with e2; subst e2
    obtain ⟨b, z, hm, rfl⟩ := hq _ rfl
    obtain ⟨b', z', vs, t', fz, hm', hh, hf, hr⟩ := S.heap.objs r _ e
    rw [hm] at hm'; injection hm' with hm'; injection hm' with e1 e2; subst e1; subst e2
    have hcl : cs.length = vs.size := by rw [AV.reps_len hr]; simp
    refine fin (ob' := .cells (putL cs j v.cells)) hx e (by simp) trivial hm hh hf (by omega) (fun X => ⟨b, z, _, t', fz, hm, setCells_block b _ _ _ _ _ _ hh, nofz_put hf _ _, ?_⟩) h
    rw [putA_list]
    exact reps_put (X.reps hr) (X.reps hc)
  | pr r i j =>
    obtain ⟨ob, e, h⟩ := obj_wp h
    cases ob with
    | dead => exact h.elim
    | cells _ => exact h.elim
    | map _ _ _ => exact h.elim
    | row n k c =>
    rw [wp_bind] at h
    obtain ⟨ds, ed, hok, h⟩ := toDs_wp h
    obtain ⟨hb2, h⟩ := need_wp h
    have hb2 := Nat.le_of_ble_eq_true hb2
    rw [AV.rep] at hp'
    obtain ⟨q, hx, ob, e2, hq⟩ := hp'
    rw [e] at e2; injection e2 with e2; subst e2
    obtain ⟨hi, b, z, hm, rfl⟩ := hq _ _ _ rfl
    rcases S.heap.objs r _ e with ⟨hm', hn⟩ | ⟨b', z', vs, t', fz, hm', hh, hf, hz, hk, hr⟩
    · omega
    rw [hm] at hm'; injection hm' with hm'; injection hm' with e1 e2; subst e1; subst e2
    have hmul : (i + 1) * k ≤ n * k := Nat.mul_le_mul_right _ hi
    rw [Nat.add_mul] at hmul
    have hdl : ds.length = td.size := by rw [← hsz, ed, List.length_map]
    refine fin (ob' := .row n k (putC c i j ds)) hx e (by simp) ⟨rfl, rfl⟩ hm hh hf (by omega) (fun X => .inr ⟨b, z, _, t', fz, hm, setCells_block b _ _ _ _ _ _ hh, nofz_put hf _ _, by rw [putA_size]; exact hz, hk, fun i' j' hi' hj' => ?_⟩) h
    simp only [putC]
    by_cases hc2 : i' = i ∧ j ≤ j' ∧ j' < j + ds.length
    · rw [if_pos hc2]
      obtain ⟨rfl, hj1, hj2⟩ := hc2
      have hq : j' - j < ds.length := by omega
      rw [ed] at hc
      obtain ⟨u, hu, hur⟩ := reps_d hc (List.getElem?_eq_getElem hq)
      refine ⟨u, ?_, h1 u (List.mem_of_getElem? hu), ?_⟩
      · have hul : j' - j < (a.eval y).cells.toList.length := by rw [hsz2, ← hdl]; exact hq
        have := putA_in (a.eval y).cells.toList vs (i' * k + j) (j' - j) hul (by rw [hsz2]; omega)
        rw [show i' * k + j' = i' * k + j + (j' - j) from by omega, this]; exact hu
      · rw [List.getD_eq_getElem?_getD, List.getElem?_eq_getElem hq]
        exact D.rep_mono X.same X.imm _ _ hur
    · rw [if_neg hc2]
      obtain ⟨u, hu, hu1, hur⟩ := hr i' j' hi' hj'
      refine ⟨u, ?_, hu1, D.rep_mono X.same X.imm _ _ hur⟩
      rw [putA_out _ _ _ _ ?_]
      · exact hu
      · rw [hsz2]
        rcases Nat.lt_or_ge (i' * k + j') (i * k + j) with h3 | h3
        · exact .inl h3
        · right
          rcases Nat.lt_or_ge (i' * k + j') (i * k + j + td.size) with h4 | h4
          · exfalso
            have := idx_eq (i := i') (i' := i) (k := k) (x := j') (y := i' * k + j' - i * k) hj' (by omega) (by omega)
            exact hc2 ⟨this.1, by have := this.2; rw [‹i' = i ∧ _›.1] at h3; omega, by have := this.2; rw [‹i' = i ∧ _›.1] at h4; omega⟩
          · exact h4
  | _ => exact h.elim
end
end Go.VM
namespace Go.VM
open RM Go.RowKit
section
variable {P : Program} {E : Env} {G : Ctx} {N : Nat} {μ : Mu} {I : Nat → Prop} {sl : Slots} {hp : Heap} {a : Act} {w : World} {K : Act → World → Prop} {Q : Exit → Act → World → Prop} {o : Oper} {d f : Nat}
theorem run_und {t : Nat} {u : TypeDesc} (h : P.underlying t = some u) : (underlying t).run P w = .ok u w := run_underlying h w
theorem run_size {t : Nat} {i : TypeInfo} (h : P.info? t = some i) : (sizeOf t).run P w = .ok i.size w := by simp [sizeOf, typeInfo, h]
theorem op_fieldAddr {t q : Nat} {x : Operand} (ho : o.op = .fieldAddr t x q) (T : TyOk P E.tt) (S : Sim G N μ I sl hp a w) (h : (step E d f (.fieldAddr t x q)).wp sl hp (Then G N sl a o.dst K hp)) : o.wp P a w K Q := by
  unfold step at h
  rw [wp_bind] at h
  obtain ⟨td, fo, y, ht, hk, hy, h⟩ := fieldOf_wp h
  obtain ⟨g⟩ := T.good ht
  obtain ⟨fs, fl, i, u, hu, hfl, hi, hu2, rfl⟩ := g.field hk hy
  rw [wp_bind] at h
  obtain ⟨v, h, hv⟩ := opd_wp S.slots h
  obtain ⟨hb, h⟩ := need_wp h
  have hne : i.size ≠ 0 := by have : 0 < i.size := by simpa [Nat.blt_eq] using hb
                              omega
  have hrun : ∀ {p : Addr}, a.eval x = .pointer (some p) → (execOp a.eval o).run P w = .ok (.value (.pointer (some (p.add fl.offset)))) w := fun {p} e => by
    simp [execOp, ho, e, Instr.fieldAt, run_und hu, hfl, Instr.sureAddr, fieldPlace, run_size hi, hne]
  cases v with
  | pc r j =>
    rw [AV.rep] at hv
    obtain ⟨p, e, ob, hob, hv⟩ := hv
    refine upV (hrun e) (h μ I _ w S ?_)
    rw [AV.rep]
    refine ⟨_, rfl, ob, hob, fun cs ec => ?_⟩
    obtain ⟨b, z, hm, rfl⟩ := hv cs ec
    exact ⟨b, z, hm, add_lit0 _ _ _⟩
  | pr r i' j =>
    rw [AV.rep] at hv
    obtain ⟨p, e, ob, hob, hv⟩ := hv
    refine upV (hrun e) (h μ I _ w S ?_)
    rw [AV.rep]
    refine ⟨_, rfl, ob, hob, fun n k c ec => ?_⟩
    obtain ⟨hi', b, z, hm, rfl⟩ := hv n k c ec
    exact ⟨hi', b, z, hm, by rw [add_lit0, Nat.add_assoc]⟩
  | pv n k c i' j =>
    rw [AV.rep] at hv
    obtain ⟨b, off, e, hi', hI, hv⟩ := hv
    refine upV (hrun e) (h μ I _ w S ?_)
    rw [AV.rep]
    exact ⟨b, off, by rw [add_lit0, Nat.add_assoc, Nat.add_assoc], hi', hI, hv⟩
  | _ => exact h.elim
/-- A part of a struct's cells. -/
theorem run_part {t : Nat} {i : TypeInfo} {u : TypeDesc} {cs : List AV} {ar : Array Value} {off : Nat} (hi : P.info? t = some i) (hu : P.underlying t = some u) (hr : AV.reps μ w I hp cs ar.toList) {R : AV → Prop} (h : (wrapT (aggD (some u)) ((cs.drop off).take i.size)).wp sl hp R) :
    ∃ v x, R v ∧ v.rep μ w I hp x ∧ (part t ar off).run P w = .ok x w := by
  have hagg : (isAgg t).run P w = .ok (aggD (some u)) w := by
    unfold isAgg
    rw [Sem.run_bind, run_underlying hu]
    cases u <;> rfl
  have hs := reps_take i.size (reps_drop off hr)
  rcases wrapT_wp h with ⟨hb, h2⟩ | ⟨hb, v, e, h2⟩
  · refine ⟨_, .agg (ar.extract off (off + i.size)), h2, ?_, by simp [part, hagg, hb, run_size hi]⟩
    rw [AV.rep]
    refine ⟨_, rfl, ?_⟩
    rw [Array.toList_extract, List.extract_eq_take_drop, show off + i.size - off = i.size from by omega]
    exact hs
  · rw [e] at hs
    cases hl : (ar.toList.drop off).take i.size with
    | nil => rw [hl] at hs; exact hs.elim
    | cons y l =>
      rw [hl] at hs
      have hy : ar[off]? = some y := by
        have : ((ar.toList.drop off).take i.size)[0]? = some y := by rw [hl]; rfl
        rw [List.getElem?_take] at this
        split at this
        · rw [List.getElem?_drop] at this; simpa using this
        · cases this
      exact ⟨v, y, h2, hs.1, by simp [part, hagg, hb, hy]⟩
theorem op_field {t q : Nat} {x : Operand} (ho : o.op = .field t x q) (T : TyOk P E.tt) (S : Sim G N μ I sl hp a w) (h : (step E d f (.field t x q)).wp sl hp (Then G N sl a o.dst K hp)) : o.wp P a w K Q := by
  unfold step at h
  rw [wp_bind] at h
  obtain ⟨td, fo, y, ht, hk, hy, h⟩ := fieldOf_wp h
  obtain ⟨g⟩ := T.good ht
  obtain ⟨fs, fl, i, u, hu, hfl, hi, hu2, rfl⟩ := g.field hk hy
  rw [wp_bind] at h
  obtain ⟨v, h, hv⟩ := opd_wp S.slots h
  cases v with
  | agg cs =>
    rw [AV.rep] at hv
    obtain ⟨ar, e, hr⟩ := hv
    have h : ((wrapT (aggD (some u)) ((cs.drop fl.offset).take i.size)).bind fun v => RM.pure (Eff.mk v [] [])).wp sl hp (Then G N sl a o.dst K hp) := h
    rw [wp_bind] at h
    obtain ⟨v, x', h, hv, hrun⟩ := run_part (P := P) hi hu2 hr h
    exact upV (u := x') (w' := w) (by simp [execOp, ho, e, Instr.field, run_und hu, hfl, asAgg, hrun]) (h μ I _ w S hv)
  | _ => exact h.elim
theorem op_extract {q : Nat} {x : Operand} (ho : o.op = .extract x q) (S : Sim G N μ I sl hp a w) (h : (step E d f (.extract x q)).wp sl hp (Then G N sl a o.dst K hp)) : o.wp P a w K Q := by
  unfold step at h
  rw [wp_bind] at h
  obtain ⟨v, h, hv⟩ := opd_wp S.slots h
  cases v with
  | tup vs =>
    rw [AV.rep] at hv
    obtain ⟨ar, e, hr⟩ := hv
    cases hq : vs[q]? with
    | none => simp only [hq] at h; exact h.elim
    | some y =>
      simp only [hq] at h
      obtain ⟨u, hu, hur⟩ := reps_get hr hq
      exact upV (u := u) (w' := w) (by
        have : ar[q]? = some u := by simpa using hu
        simp [execOp, ho, e, Instr.extract, this]) (h μ I _ w S hur)
  | _ => exact h.elim
theorem op_index {t : Nat} {x y : Operand} (ho : o.op = .index t x y) (T : TyOk P E.tt) (S : Sim G N μ I sl hp a w) (h : (step E d f (.index t x y)).wp sl hp (Then G N sl a o.dst K hp)) : o.wp P a w K Q := by
  unfold step at h
  rw [wp_bind] at h
  obtain ⟨td, ht, h⟩ := ty_wp h
  obtain ⟨g⟩ := T.good ht
  rw [wp_bind] at h
  obtain ⟨v, h, hv⟩ := opd_wp S.slots h
  rw [wp_bind] at h
  obtain ⟨v2, h, hv2⟩ := opd_wp S.slots h
  split at h
  · rename_i s hk _
    rw [wp_bind] at h
    obtain ⟨k, i, rfl, h0, h1, h⟩ := inBound_wp h
    have e1 := rep_a hv
    have e2 := rep_a hv2
    have hkk := g.k
    rw [hk] at hkk
    have hund : P.underlying t = some .string := by rw [g.und, hkk]
    refine upV (u := .int .u8 (s.data.getD i.toNat 0).toNat) (w' := w) ?_ (h μ I _ w S (a_rep _))
    have hlt : i.toNat < s.size := by omega
    have hb : s[i.toNat]? = some (s.data.getD i.toNat 0) := by
      rw [ByteArray.getElem?_lt' s _ hlt]
      simp only [Array.getD_eq_getD_getElem?]
      rw [Array.getElem?_eq_getElem (by exact hlt)]
      rfl
    simp [execOp, ho, e1, e2, Instr.index, asIntOf, run_und hund, h0, hb]
  · exact h.elim
theorem op_indexAddr {t : Nat} {x y : Operand} (ho : o.op = .indexAddr t x y) (T : TyOk P E.tt) (S : Sim G N μ I sl hp a w) (h : (step E d f (.indexAddr t x y)).wp sl hp (Then G N sl a o.dst K hp)) : o.wp P a w K Q := by
  unfold step at h
  rw [wp_bind] at h
  obtain ⟨td, ht, h⟩ := ty_wp h
  obtain ⟨g⟩ := T.good ht
  rw [wp_bind] at h
  obtain ⟨v, h, hv⟩ := opd_wp S.slots h
  rw [wp_bind] at h
  obtain ⟨v2, h, hv2⟩ := opd_wp S.slots h
  have hkk := g.k
  cases hel : td.k with
  | slice el =>
    rw [hel] at h hkk
    have hund : P.underlying t = some (.slice el) := by rw [g.und, hkk]
    have h : ((ty E el).bind _).wp sl hp (Then G N sl a o.dst K hp) := h
    rw [wp_bind] at h
    obtain ⟨te, hte, h⟩ := ty_wp h
    obtain ⟨ge⟩ := T.good hte
    have hs := fun (w : World) => ge.sizeOf w
    cases v with
    | d x' =>
      cases x' with
      | a _ => exact h.elim
      | vs ex n k c =>
        obtain ⟨hb, h⟩ := need_wp h
        have hk := Nat.eq_of_beq_eq_true hb
        rw [wp_bind] at h
        obtain ⟨kk, i, rfl, h0, h1, h⟩ := inBound_wp h
        have e2 := rep_a hv2
        rw [AV.rep, D.rep] at hv
        obtain ⟨A, cap, e, hc, hx, hv⟩ := hv
        obtain ⟨b, off, rfl, hI, hv⟩ := hv (by omega)
        refine upV (u := .pointer (some ⟨b, off + (i.toNat * k + 0), none⟩)) (w' := w) ?_ (h μ I _ w S (by rw [AV.rep]; exact ⟨b, off, rfl, by omega, hI, hv⟩))
        simp [execOp, ho, e, e2, Instr.indexAt, asIntOf, run_und hund, h0, h1, hs, hk, add_lit0]
    | rs r off len =>
      obtain ⟨ob, e, h⟩ := obj_wp h
      cases ob with
      | row n k c =>
        obtain ⟨hb, h⟩ := need_wp h
        have hk := Nat.eq_of_beq_eq_true hb
        rw [wp_bind] at h
        obtain ⟨kk, i, rfl, h0, h1, h⟩ := inBound_wp h
        have e2 := rep_a hv2
        rw [AV.rep] at hv
        obtain ⟨A, cap, ex, hc, ob, e3, hv⟩ := hv
        rw [e] at e3; injection e3 with e3; subst e3
        obtain ⟨hn, hv⟩ := hv _ _ _ rfl
        rcases hv with ⟨_, hv⟩ | ⟨b, z, hm, hA, hz⟩
        · omega
        have hA := hA (by omega)
        subst hA
        refine upV (u := .pointer (some ⟨b, (off + i.toNat) * k + 0, none⟩)) (w' := w) ?_ (h μ I _ w S ?_)
        · simp [execOp, ho, ex, e2, Instr.indexAt, asIntOf, run_und hund, h0, h1, hs, ← hk, add_lit0, Nat.add_mul]
        · rw [AV.rep]
          refine ⟨_, rfl, _, e, fun n' k' c' eo => ?_⟩
          injection eo with q1 q2 q3
          subst q1; subst q2
          exact ⟨by omega, b, z, hm, rfl⟩
      | _ => exact h.elim
    | _ => exact h.elim
  | arr m el =>
    rw [hel] at h hkk
    have hund : P.underlying t = some (.array m el) := by rw [g.und, hkk]
    have h : ((ty E el).bind _).wp sl hp (Then G N sl a o.dst K hp) := h
    rw [wp_bind] at h
    obtain ⟨te, hte, h⟩ := ty_wp h
    obtain ⟨ge⟩ := T.good hte
    have hs := fun (w : World) => ge.sizeOf w
    split at h
    · rename_i r
      obtain ⟨ob, e, h⟩ := obj_wp h
      cases ob with
      | row n k c =>
        obtain ⟨hb, h⟩ := need_wp h
        rw [Bool.and_eq_true] at hb
        have hk := Nat.eq_of_beq_eq_true hb.1
        have hmn := Nat.eq_of_beq_eq_true hb.2
        rw [wp_bind] at h
        obtain ⟨kk, i, rfl, h0, h1, h⟩ := inBound_wp h
        have e2 := rep_a hv2
        rw [AV.rep] at hv
        obtain ⟨p, ex, ob, e3, hv⟩ := hv
        rw [e] at e3; injection e3 with e3; subst e3
        obtain ⟨hn, b, z, hm, rfl⟩ := hv _ _ _ rfl
        refine upV (u := .pointer (some ⟨b, i.toNat * k + 0, none⟩)) (w' := w) ?_ (h μ I _ w S ?_)
        · have h1' : i < (m : Int) := by omega
          simp [execOp, ho, ex, e2, Instr.indexAt, asIntOf, run_und hund, Instr.sureAddr, h0, h1', hs, ← hk, add_lit0]
        · rw [AV.rep]
          refine ⟨_, rfl, _, e, fun n' k' c' eo => ?_⟩
          injection eo with q1 q2 q3
          subst q1; subst q2
          exact ⟨by omega, b, z, hm, rfl⟩
      | _ => exact h.elim
    · exact h.elim
  | _ => rw [hel] at h; exact h.elim
end
end Go.VM
namespace Go.VM
open RM Go.RowKit
section
variable {P : Program} {E : Env} {G : Ctx} {N : Nat} {μ : Mu} {I : Nat → Prop} {sl : Slots} {hp : Heap} {a : Act} {w : World} {K : Act → World → Prop} {Q : Exit → Act → World → Prop} {o : Oper} {d f : Nat}
theorem oopd_wp {x : Option Operand} {R : Option AV → Prop} (hs : SlotsRep μ w I hp sl a) (h : (oopd x).wp sl hp R) : ∃ v, R v ∧ ((x = none ∧ v = none) ∨ ∃ y v', x = some y ∧ v = some v' ∧ v'.rep μ w I hp (a.eval y)) := by
  cases x with
  | none => exact ⟨none, h, .inl ⟨rfl, rfl⟩⟩
  | some y =>
    unfold oopd at h
    rw [wp_bind] at h
    obtain ⟨v, h, hv⟩ := opd_wp hs h
    exact ⟨some v, h, .inr ⟨y, v, rfl, rfl, hv⟩⟩
/-- A bound of a slice expression. -/
def Bnd (x : Option Operand) (a : Act) (dflt n h : Nat) : Prop := (x = none ∧ h = dflt) ∨ ∃ y k i, x = some y ∧ a.eval y = .int k i ∧ 0 ≤ i ∧ i ≤ n ∧ h = i.toNat
theorem upTo_wp {x : Option Operand} {v : Option AV} {dflt n : Nat} {R : Nat → Prop} (hx : (x = none ∧ v = none) ∨ ∃ y v', x = some y ∧ v = some v' ∧ v'.rep μ w I hp (a.eval y)) (h : (upTo v dflt n).wp sl hp R) : ∃ m, R m ∧ Bnd x a dflt n m := by
  rcases hx with ⟨rfl, rfl⟩ | ⟨y, v', rfl, rfl, hv⟩
  · exact ⟨dflt, h, .inl ⟨rfl, rfl⟩⟩
  · unfold upTo at h
    simp only at h
    rw [wp_bind] at h
    obtain ⟨k, i, rfl, h⟩ := asI_wp h
    exact ⟨i.toNat, h.r, .inr ⟨y, k, i, rfl, rep_a hv, h.l.1, h.l.2, rfl⟩⟩
theorem Bnd.le {x : Option Operand} {dflt n h : Nat} (b : Bnd x a dflt n h) (hd : dflt ≤ n) : h ≤ n := by
  rcases b with ⟨_, rfl⟩ | ⟨y, k, i, _, _, h0, h1, rfl⟩
  · exact hd
  · omega
theorem run_bounds {isS : Bool} {len cap n h l : Nat} {lo hi : Option Operand} (bh : Bnd hi a len n h) (hn : n ≤ cap) (bl : Bnd lo a 0 h l) :
    (Instr.sliceBounds isS len cap (lo.map a.eval) (hi.map a.eval) none).run P w = .ok (l, h, cap) w := by
  rcases bh with ⟨rfl, rfl⟩ | ⟨y, k, i, rfl, ey, h0, h1, rfl⟩ <;> rcases bl with ⟨rfl, rfl⟩ | ⟨y2, k2, i2, rfl, ey2, g0, g1, rfl⟩
  · simp [Instr.sliceBounds]
  · simp [Instr.sliceBounds, Instr.sliceBound, asIntOf, ey2, g0, g1]
  · have : i ≤ (cap : Int) := by omega
    simp [Instr.sliceBounds, Instr.sliceBound, asIntOf, ey, h0, this]
  · have : i ≤ (cap : Int) := by omega
    have g1' : i2 ≤ (i.toNat : Int) := g1
    simp [Instr.sliceBounds, Instr.sliceBound, asIntOf, ey, ey2, h0, this, g0]
    intro hh
    omega
theorem op_slice {t : Nat} {x : Operand} {lo hi : Option Operand} (ho : o.op = .slice t x lo hi none) (T : TyOk P E.tt) (S : Sim G N μ I sl hp a w) (h : (step E d f (.slice t x lo hi none)).wp sl hp (Then G N sl a o.dst K hp)) : o.wp P a w K Q := by
  unfold step at h
  have h : ((ty E t).bind _).wp sl hp (Then G N sl a o.dst K hp) := h
  rw [wp_bind] at h
  obtain ⟨td, ht, h⟩ := ty_wp h
  obtain ⟨g⟩ := T.good ht
  have hkk := g.k
  rw [wp_bind] at h
  obtain ⟨v, h, hv⟩ := opd_wp S.slots h
  rw [wp_bind] at h
  obtain ⟨vlo, h, hlo⟩ := oopd_wp S.slots h
  rw [wp_bind] at h
  obtain ⟨vhi, h, hhi⟩ := oopd_wp S.slots h
  have hrunS : ∀ {e : Nat} {ie : TypeInfo} {A : Option Addr} {len cap n hh l : Nat}, P.underlying t = some (.slice e) → P.info? e = some ie → a.eval x = .slice A len cap → Bnd hi a len n hh → n ≤ cap → Bnd lo a 0 hh l →
      (execOp a.eval o).run P w = .ok (.value (.slice (if cap = l then A else A.map (·.add (l * ie.size))) (hh - l) (cap - l))) w := by
    intro e ie A len cap n hh l hu hi' ex bh hn bl
    simp [execOp, ho, ex, Instr.sliceAt, run_und hu, Instr.slice, run_bounds bh hn bl, run_size hi']
  cases v with
  | d x' =>
    cases x' with
    | a val =>
      cases val with
      | string s =>
        cases hk : td.k with
        | str =>
          rw [hk] at h hkk
          have h : ((upTo vhi s.size s.size).bind _).wp sl hp (Then G N sl a o.dst K hp) := h
          rw [wp_bind] at h
          obtain ⟨hh, h, bh⟩ := upTo_wp hhi h
          rw [wp_bind] at h
          obtain ⟨l, h, bl⟩ := upTo_wp hlo h
          have hund : P.underlying t = some .string := by rw [g.und, hkk]
          refine upV (u := .string (s.extract l hh)) (w' := w) ?_ (h μ I _ w S (a_rep _))
          simp [execOp, ho, rep_a hv, Instr.sliceAt, run_und hund, Instr.slice, run_bounds bh (Nat.le_refl _) bl]
        | _ => rw [hk] at h; exact h.elim
      | slice A n c =>
        cases A with
        | some _ => exact h.elim
        | none =>
          match n, c with
          | 0, 0 =>
            cases hk : td.k with
            | slice e =>
              rw [hk] at h hkk
              have hund : P.underlying t = some (.slice e) := by rw [g.und, hkk]
              have h : ((ty E e).bind _).wp sl hp (Then G N sl a o.dst K hp) := h
              rw [wp_bind] at h
              obtain ⟨te, hte, h⟩ := ty_wp h
              obtain ⟨ge⟩ := T.good hte
              rw [wp_bind] at h
              obtain ⟨hh, h, bh⟩ := upTo_wp hhi h
              rw [wp_bind] at h
              obtain ⟨l, h9, bl⟩ := upTo_wp hlo h
              have hh0 : hh = 0 := Nat.le_zero.1 (bh.le (Nat.le_refl _))
              have hl0 : l = 0 := by have := bl.le (Nat.zero_le _); omega
              subst hh0; subst hl0
              exact upV (hrunS hund ge.info (rep_a hv) bh (Nat.le_refl _) bl) (h9 μ I _ w S (a_rep _))
            | _ => rw [hk] at h; exact h.elim
          | 0, _ + 1 => exact h.elim
          | _ + 1, _ => exact h.elim
      | _ => exact h.elim
    | vs ex n k c =>
      cases hk : td.k with
      | slice e =>
        rw [hk] at h hkk
        have hund : P.underlying t = some (.slice e) := by rw [g.und, hkk]
        have h : ((ty E e).bind _).wp sl hp (Then G N sl a o.dst K hp) := h
        rw [wp_bind] at h
        obtain ⟨te, hte, h⟩ := ty_wp h
        obtain ⟨ge⟩ := T.good hte
        obtain ⟨hb, h⟩ := need_wp h
        have hks := Nat.eq_of_beq_eq_true hb
        rw [wp_bind] at h
        obtain ⟨hh, h, bh⟩ := upTo_wp hhi h
        rw [wp_bind] at h
        obtain ⟨l, h, bl⟩ := upTo_wp hlo h
        have hle := bh.le (Nat.le_refl _)
        have hll := bl.le (Nat.zero_le _)
        rw [AV.rep, D.rep] at hv
        obtain ⟨A, cap, e1, hc, hx, hv⟩ := hv
        refine upV (hrunS hund ge.info e1 bh hc bl) (h μ I _ w S ?_)
        rw [AV.rep, D.rep]
        refine ⟨_, _, rfl, by omega, fun he => ?_, fun hpos => ?_⟩
        · rw [Bool.and_eq_true] at he
          have := hx he.1
          rcases bh with ⟨_, rfl⟩ | ⟨y, _, _, e3, _⟩
          · omega
          · rcases hhi with ⟨e4, _⟩ | ⟨y', v', e4, e5, _⟩
            · rw [e4] at e3; cases e3
            · rw [e5] at he; exact absurd he.2 (by simp)
        · obtain ⟨b, off, rfl, hI, hv⟩ := hv (by omega)
          refine ⟨b, off + l * k, ?_, hI, fun i j hi hj => ?_⟩
          · rw [if_neg (by omega), ge.size, ← hks]; simp [add_lit0]
          · obtain ⟨u, hu, hu1, hur⟩ := hv (l + i) j (by omega) hj
            exact ⟨u, by rw [← hu, Nat.add_mul]; congr 2; omega, hu1, hur⟩
      | _ => rw [hk] at h; exact h.elim
  | rs r off len =>
    cases hk : td.k with
    | slice e =>
      rw [hk] at h hkk
      have hund : P.underlying t = some (.slice e) := by rw [g.und, hkk]
      have h : ((ty E e).bind _).wp sl hp (Then G N sl a o.dst K hp) := h
      rw [wp_bind] at h
      obtain ⟨te, hte, h⟩ := ty_wp h
      obtain ⟨ge⟩ := T.good hte
      obtain ⟨ob, eo, h⟩ := obj_wp h
      cases ob with
      | row n k c =>
        obtain ⟨hb, h⟩ := need_wp h
        have hks := Nat.eq_of_beq_eq_true hb
        rw [wp_bind] at h
        obtain ⟨hh, h, bh⟩ := upTo_wp hhi h
        rw [wp_bind] at h
        obtain ⟨l, h, bl⟩ := upTo_wp hlo h
        have hle := bh.le (Nat.le_refl _)
        have hll := bl.le (Nat.zero_le _)
        rw [AV.rep] at hv
        obtain ⟨A, cap, e1, hc, ob, e3, hv⟩ := hv
        rw [eo] at e3; injection e3 with e3; subst e3
        refine upV (hrunS hund ge.info e1 bh hc bl) (h μ I _ w S ?_)
        rw [AV.rep]
        refine ⟨_, _, rfl, by omega, _, eo, fun n' k' c' eq => ?_⟩
        injection eq with q1 q2 q3
        subst q1; subst q2
        obtain ⟨hn, hv⟩ := hv _ _ _ rfl
        refine ⟨by omega, ?_⟩
        rcases hv with ⟨hm, hc0⟩ | ⟨b, z, hm, hA, hz⟩
        · exact .inl ⟨hm, by omega⟩
        · refine .inr ⟨b, z, hm, fun hpos => ?_, Nat.le_trans (Nat.mul_le_mul_right _ (by omega)) hz⟩
          rw [hA (by omega), if_neg (by omega), ge.size, ← hks]
          simp [add_lit0, Nat.add_mul]
      | _ => exact h.elim
    | _ => rw [hk] at h; exact h.elim
  | _ => exact h.elim
/-! ### sums -/
theorem eqG {op : BinOp} {t : Nat} {x y : Operand} {u v : Value} (h1 : ∀ q, u ≠ .agg q) (h2 : u ≠ .nilIface) : eqGuard op t x y u v = (Pure.pure () : Sem Unit) := by
  unfold eqGuard
  cases op <;> first
    | rfl
    | (cases u <;> first | rfl | exact absurd rfl h2 | exact absurd rfl (h1 _))
theorem intOp_wp {op : BinOp} {k : IntKind} {x y : Int} {R : AV → Prop} {t : Nat} (h : (intOp op k x y).wp sl hp R) : ∃ u, R (av u) ∧ (Go.binOp op t (.int k x) (.int k y)).run P w = .ok u w := by
  cases op <;> simp only [intOp] at h <;> first
    | exact h.elim
    | exact ⟨_, h, by simp [Go.binOp, Op.intArith, Op.intCmp]⟩
    | exact ⟨_, h.r, by simp [Go.binOp, Op.intDiv, h.l]⟩
theorem strOp_wp {op : BinOp} {x y : ByteArray} {R : AV → Prop} {t : Nat} (h : (strOp op x y).wp sl hp R) : ∃ u, R (av u) ∧ (Go.binOp op t (.string x) (.string y)).run P w = .ok u w := by
  cases op <;> simp only [strOp] at h <;> first
    | exact h.elim
    | exact ⟨_, h, by simp [Go.binOp, Op.stringOp]⟩
    | exact ⟨_, h.r, by
        have hl := h.l
        have : ¬ (((x.size + y.size : Nat) : Int) > IntKind.i64.max) := by
          have : IntKind.i64.max = 9223372036854775807 := by decide
          rw [this]; omega
        simp only [Go.binOp, Op.stringOp]
        rw [if_neg this]; rfl⟩
theorem nilEq_run {k : TyK} {x y : AV} {b : Bool} {u v : Value} {t : Nat} {td : TyD} (g : TyGood P t td) (hk : td.k = k) (h : nilEq k x y = some b) (hx : x.rep μ w I hp u) (hy : y.rep μ w I hp v) :
    (Op.equal t u v).run P w = .ok b w ∧ (∀ q, u ≠ .agg q) ∧ u ≠ .nilIface ∧ (∀ q n, u ≠ .int q n) ∧ (∀ q, u ≠ .string q) ∧ (∀ q n, u ≠ .float q n) ∧ (∀ q m n, u ≠ .complex q m n) := by
  have hkk := g.k
  rw [hk] at hkk
  unfold nilEq at h
  split at h <;> first | (cases h; done) | skip
  all_goals
    injection h with h
    subst h
    first
      | (obtain ⟨e, hu⟩ := hkk; have hund := g.und; rw [hu] at hund)
      | (obtain ⟨e1, e2, e3, hu⟩ := hkk; have hund := g.und; rw [hu] at hund)
      | (have hund := g.und; rw [hkk] at hund)
  all_goals (try rw [AV.rep] at hx)
  all_goals (try rw [AV.rep] at hy)
  all_goals (try rw [D.rep] at hx)
  all_goals (try rw [D.rep] at hy)
  all_goals (try (obtain ⟨_, rfl, _⟩ := hx))
  all_goals (try (obtain ⟨_, rfl, _⟩ := hy))
  all_goals (try (obtain ⟨_, _, rfl, _⟩ := hx))
  all_goals (try subst hx)
  all_goals (try subst hy)
  all_goals refine ⟨?_, fun _ e => (by cases e), fun e => (by cases e), fun _ _ e => (by cases e), fun _ e => (by cases e), fun _ _ e => (by cases e), fun _ _ _ e => (by cases e)⟩
  all_goals
    show (Op.equalIn (9999 + 1) _ _ _).run P w = _
    unfold Op.equalIn
    simp [run_und hund]
theorem op_binOp {bo : BinOp} {t t' : Nat} {x y : Operand} (ho : o.op = .binOp bo t x y t') (T : TyOk P E.tt) (S : Sim G N μ I sl hp a w) (h : (step E d f (.binOp bo t x y t')).wp sl hp (Then G N sl a o.dst K hp)) : o.wp P a w K Q := by
  unfold step at h
  rw [wp_bind] at h
  obtain ⟨u, h, hu⟩ := opd_wp S.slots h
  rw [wp_bind] at h
  obtain ⟨v, h, hv⟩ := opd_wp S.slots h
  rw [wp_bind] at h
  have fin : ∀ {r : Value}, (eqGuard bo t x y (a.eval x) (a.eval y) = (Pure.pure () : Sem Unit)) → (Go.binOp bo t (a.eval x) (a.eval y)).run P w = .ok r w → (RM.pure (Eff.mk (av r) [] [])).wp sl hp (Then G N sl a o.dst K hp) → o.wp P a w K Q := by
    intro r hg hrun h
    exact upV (u := r) (w' := w) (by simp [execOp, ho, hg, hrun]) (h μ I _ w S (a_rep _))
  unfold binOp at h
  split at h
  · split at h
    · rename_i k1 p k2 q hk
      subst hk
      obtain ⟨r, h, hrun⟩ := intOp_wp (P := P) (w := w) (t := t) h
      have e1 := rep_a hu
      have e2 := rep_a hv
      exact fin (by rw [e1]; exact eqG (fun _ e => by cases e) (fun e => by cases e)) (by rw [e1, e2]; exact hrun) h
    · exact h.elim
  · obtain ⟨r, h, hrun⟩ := strOp_wp (P := P) (w := w) (t := t) h
    have e1 := rep_a hu
    have e2 := rep_a hv
    exact fin (by rw [e1]; exact eqG (fun _ e => by cases e) (fun e => by cases e)) (by rw [e1, e2]; exact hrun) h
  · rw [wp_bind] at h
    obtain ⟨td, ht, h⟩ := ty_wp h
    obtain ⟨g⟩ := T.good ht
    cases hq : nilEq td.k u v with
    | none => rw [hq] at h; cases bo <;> exact h.elim
    | some b =>
      rw [hq] at h
      obtain ⟨hrun, g1, g2, g3, g4, g5, g6⟩ := nilEq_run (P := P) g rfl hq hu hv
      cases bo <;> first
        | exact h.elim
        | (refine fin (eqG g1 g2) ?_ h
           generalize a.eval x = p at *
           generalize a.eval y = q at *
           cases p <;> cases q <;> first
             | (exfalso; exact g3 _ _ rfl)
             | (exfalso; exact g4 _ rfl)
             | (exfalso; exact g5 _ _ rfl)
             | (exfalso; exact g6 _ _ _ rfl)
             | simp [Go.binOp, hrun])
theorem op_unOp {u : UnOp} {t : Nat} {x : Operand} (ho : o.op = .unOp u t x) (S : Sim G N μ I sl hp a w) (h : (step E d f (.unOp u t x)).wp sl hp (Then G N sl a o.dst K hp)) : o.wp P a w K Q := by
  unfold step at h
  rw [wp_bind] at h
  obtain ⟨v, h, hv⟩ := opd_wp S.slots h
  split at h
  · exact upV (w' := w) (by simp [execOp, ho, rep_a hv, Op.unary]) (h μ I _ w S (a_rep _))
  · exact upV (w' := w) (by simp [execOp, ho, rep_a hv, Op.unary, Op.intArith]) (h μ I _ w S (a_rep _))
  · exact h.elim
theorem op_makeFunc {fn : Fn} {xs ys : Array Operand} (ho : o.op = .makeFunc fn xs ys) (S : Sim G N μ I sl hp a w) (h : (step E d f (.makeFunc fn xs ys)).wp sl hp (Then G N sl a o.dst K hp)) : o.wp P a w K Q := by
  unfold step at h
  rw [wp_bind] at h
  obtain ⟨us, h, hus⟩ := opds_wp (Q := fun _ => True) S.slots h
  rw [wp_bind] at h
  obtain ⟨vs, h, hvs⟩ := opds_wp (Q := fun _ => True) S.slots h
  refine upV (w' := w) (u := .func fn (xs.map a.eval) (ys.map a.eval)) (by simp [execOp, ho, Instr.makeFunc]) (h μ I _ w S ?_)
  rw [AV.rep]
  exact ⟨_, _, rfl, by rw [Array.toList_map]; exact hus, by rw [Array.toList_map]; exact hvs⟩
end
end Go.VM
namespace Go.VM
open RM Go.RowKit
section
variable {P : Program} {E : Env} {G : Ctx} {N : Nat} {μ : Mu} {I : Nat → Prop} {sl : Slots} {hp : Heap} {a : Act} {w : World} {K : Act → World → Prop} {Q : Exit → Act → World → Prop} {o : Oper} {d f : Nat}
/-! ### struct literals -/
theorem foldl_put : ∀ (l : List Value) (s off : Nat) (cs : Array Value), ((l.zipIdx s).foldl (fun cs (x : Value × Nat) => cs.setIfInBounds (off + x.2) x.1) cs).toList = putL cs.toList (off + s) l
  | [], _, _, _ => rfl
  | u :: l, s, off, cs => by
    rw [List.zipIdx_cons, List.foldl_cons, foldl_put l (s + 1) off, putL]
    simp [Nat.add_assoc]
theorem putL_len {β : Type} : ∀ (l : List β) (cs : List β) (o : Nat), (putL cs o l).length = cs.length
  | [], _, _ => rfl
  | x :: l, cs, o => by rw [putL, putL_len l]; simp
theorem zip_fill {place : Nat → Option (Nat × Nat)} : ∀ {is : List Nat} {cs : List AV} {ar : Array Value} {vs : List AV} {us : List Value} {R : List AV → Prop}, AV.reps μ w I hp cs ar.toList → AV.reps μ w I hp vs us →
    (fillL place cs (is.zip vs)).wp sl hp R → ∃ cs' ar', R cs' ∧ Instr.fill place ar (is.zip us) = some ar' ∧ AV.reps μ w I hp cs' ar'.toList ∧ ar'.size = ar.size
  | [], cs, ar, vs, us, R, h, _, hR => ⟨cs, ar, hR, rfl, h, rfl⟩
  | _ :: _, cs, ar, [], [], R, h, _, hR => ⟨cs, ar, hR, rfl, h, rfl⟩
  | _ :: _, _, _, [], _ :: _, _, _, h, _ => h.elim
  | _ :: _, _, _, _ :: _, [], _, _, h, _ => h.elim
  | i :: is, cs, ar, v :: vs, u :: us, R, h, hv, hR => by
    simp only [List.zip_cons_cons, fillL] at hR
    cases hp' : place i with
    | none => rw [hp'] at hR; exact hR.elim
    | some os =>
      obtain ⟨off, size⟩ := os
      rw [hp'] at hR
      simp only at hR
      split at hR
      · rename_i hb
        rw [Bool.and_eq_true, Bool.and_eq_true] at hb
        rw [spineK_eq] at hR
        have hsz := lenEq_eq hb.2.1
        have hin := lenLe_le hb.2.2
        obtain ⟨hcells, _⟩ := rep_cells hv.1 hb.1
        have hl : v.cells.length = u.cells.size := by rw [AV.reps_len hcells]; simp
        have hl2 : cs.length = ar.size := by rw [AV.reps_len h]; simp
        have e1 : u.cells.size = size := by omega
        have e2 : ¬ (ar.size < off + size) := by omega
        have hput : (u.cells.zipIdx.foldl (fun cs (x : Value × Nat) => cs.setIfInBounds (off + x.2) x.1) ar).toList = putL ar.toList off u.cells.toList := by
          rw [← Array.foldl_toList, Array.toList_zipIdx, foldl_put, Nat.add_zero]
        obtain ⟨cs', ar', hR', hf, hr⟩ := zip_fill (is := is) (place := place) (ar := u.cells.zipIdx.foldl (fun cs (x : Value × Nat) => cs.setIfInBounds (off + x.2) x.1) ar) (by rw [hput]; exact reps_put h hcells) hv.2 hR
        refine ⟨cs', ar', hR', ?_, hr.1, by rw [hr.2, ← Array.length_toList, hput, putL_len, Array.length_toList]⟩
        simp only [List.zip_cons_cons, Instr.fill, hp', e1]
        simpa [e2] using hf
      · exact hR.elim
theorem zip_parts (ps : Array (Nat × Operand)) : (ps.map fun (i, x) => (i, a.eval x)).toList = (ps.toList.map (·.1)).zip ((ps.toList.map (·.2)).map a.eval) := by
  rw [Array.toList_map]
  generalize ps.toList = l
  induction l with
  | nil => rfl
  | cons x l ih => simp only [List.map_cons, List.zip_cons_cons, ih]
theorem mapM_places {fs : List Field} {fo : List (Nat × Nat × Bool)} : fs.map (fieldD P) = fo.map some → fs.mapM (fun f => (P.info? f.type).map fun i => (f.offset, i.size)) = some (fo.map fun x => (x.1, x.2.1)) := by
  induction fs generalizing fo with
  | nil => intro h; cases fo with
    | nil => rfl
    | cons => simp at h
  | cons f fs ih =>
    intro h
    cases fo with
    | nil => simp at h
    | cons x fo =>
      simp only [List.map_cons, List.cons.injEq] at h
      have hx := h.1
      unfold fieldD at hx
      split at hx
      · rename_i i u hi hu
        injection hx with hx
        simp [List.mapM_cons, hi, ih h.2, ← hx]
      · cases hx
theorem op_build {t : Nat} {ps : Array (Nat × Operand)} (ho : o.op = .build t ps) (T : TyOk P E.tt) (S : Sim G N μ I sl hp a w) (h : (step E d f (.build t ps)).wp sl hp (Then G N sl a o.dst K hp)) : o.wp P a w K Q := by
  unfold step at h
  rw [wp_bind] at h
  obtain ⟨td, ht, h⟩ := ty_wp h
  obtain ⟨g⟩ := T.good ht
  have hkk := g.k
  rw [wp_bind] at h
  obtain ⟨vs, h, hvs⟩ := opds_wp (Q := fun _ => True) S.slots h
  have fin : ∀ {place : Nat → Option (Nat × Nat)}, (∀ ar', Instr.fill place g.z.cells (ps.map fun (i, x) => (i, a.eval x)).toList = some ar' → P.built t (ps.map fun (i, x) => (i, a.eval x)).toList = some ar') →
      ((fillL place (td.zero.map av) ((ps.toList.map (·.1)).zip vs)).bind fun cs => RM.pure (Eff.mk (.agg cs) [] [])).wp sl hp (Then G N sl a o.dst K hp) → o.wp P a w K Q := by
    intro place hb h
    rw [wp_bind] at h
    obtain ⟨cs', ar', h, hf, hr, _⟩ := zip_fill (ar := g.z.cells) (by rw [g.cells]; exact reps_atoms _) hvs h
    rw [← zip_parts] at hf
    have hrun := run_build w t _ ar' (hb ar' hf)
    refine upV (u := .agg ar') (w' := w) (by simp only [execOp, ho]; rw [Sem.run_bind, hrun]; rfl) (h μ I _ w S ?_)
    rw [AV.rep]
    exact ⟨_, rfl, hr⟩
  cases hk : td.k with
  | struct fo =>
    rw [hk] at h hkk
    obtain ⟨fs, hu, hf⟩ := hkk
    refine fin (fun ar' e => ?_) h
    have hund := g.und
    rw [hu] at hund
    simp only [Program.built, g.info, hund, g.zero, mapM_places hf]
    rw [← e]
    congr 1
    funext i
    simp
  | arr n e =>
    rw [hk] at h hkk
    have h : ((ty E e).bind _).wp sl hp (Then G N sl a o.dst K hp) := h
    rw [wp_bind] at h
    obtain ⟨te, hte, h⟩ := ty_wp h
    obtain ⟨ge⟩ := T.good hte
    refine fin (fun ar' e' => ?_) h
    have hund := g.und
    rw [hkk] at hund
    simp only [Program.built, g.info, hund, g.zero, ge.info, ge.size]
    exact e'
  | _ => rw [hk] at h; exact h.elim
/-- A new row, one's own or a value, behind an operation. -/
theorem newRow_ok {dst n k : Nat} {x : Bool} {c : Nat → Nat → D} {vs : Array Value} {t cap : Nat} {fz : Nat × Nat} {w' : World} (S : Sim G N μ I sl hp a w) (h : Then G N sl a o.dst K hp (newRow E dst f x n k c)) (hl : Like w w') (hh : w'.heap = w.heap.push (.cells vs t fz)) (hf : nofz vs fz)
    (hc : n ≤ cap) (hx : x = true → cap = n) (hsz : cap * k ≤ vs.size) (hr : ∀ i j, i < n → j < k → ∃ u, vs[i * k + j]? = some u ∧ u.oneCell' = true ∧ (c i j).rep w I u) :
    K (a.put o.dst (.slice (some ⟨w.heap.size, 0, none⟩) n cap)) w' := by
  have hget : w'.heap[w.heap.size]? = some (.cells vs t fz) := by rw [hh]; simp
  unfold newRow at h
  split at h
  · have H := S.heap.imm_new (.cells vs t fz) hl hh
    refine h _ _ _ _ (S.next H) ?_
    rw [AV.rep, D.rep]
    refine ⟨_, cap, rfl, hc, hx, fun _ => ⟨w.heap.size, 0, rfl, .inr rfl, fun i j hi hj => ?_⟩⟩
    obtain ⟨u, hu, h1, hur⟩ := hr i j hi hj
    exact ⟨u, by rw [Nat.zero_add, cell_of_row w' _ _ _ _ _ hget]; exact hu, h1, D.rep_mono H.2.same H.2.imm _ _ hur⟩
  · refine Then.new (z := vs.size) S h hl hh (fun X => .inr ⟨w.heap.size, _, vs, t, fz, upd_same _ _ _, hget, hf, rfl, Nat.le_trans (Nat.mul_le_mul_right _ hc) hsz, fun i j hi hj => ?_⟩) (fun X => ?_)
    · obtain ⟨u, hu, h1, hur⟩ := hr i j hi hj
      exact ⟨u, hu, h1, D.rep_mono X.same X.imm _ _ hur⟩
    · rw [AV.rep]
      refine ⟨_, cap, rfl, hc, _, by rw [get_cons, if_pos rfl], fun n' k' c' e => ?_⟩
      injection e with e1 e2 e3
      subst e1; subst e2
      exact ⟨by omega, .inr ⟨w.heap.size, _, upd_same _ _ _, fun _ => by rw [Nat.zero_mul], by rw [Nat.zero_add]; exact hsz⟩⟩
theorem d_one {x : D} {v : Value} (h : x.ok = true) (hr : x.rep w I v) : v.oneCell' = true := by
  cases x with
  | a x => rw [D.rep] at hr; subst hr; exact one_of h
  | vs x n k c => rw [D.rep] at hr; obtain ⟨A, cap, e, _⟩ := hr; subst e; rfl
theorem op_buildSlice {t n : Nat} {ps : Array (Nat × Operand)} (ho : o.op = .buildSlice t n ps) (T : TyOk P E.tt) (S : Sim G N μ I sl hp a w) (h : (step E d f (.buildSlice t n ps)).wp sl hp (Then G N sl a o.dst K hp)) : o.wp P a w K Q := by
  unfold step at h
  rw [wp_bind] at h
  obtain ⟨td, e, ht, hel, h⟩ := elemS_wp h
  obtain ⟨g⟩ := T.good ht
  have hkk := g.k
  rw [wp_bind] at h
  obtain ⟨te, hte, h⟩ := ty_wp h
  obtain ⟨ge⟩ := T.good hte
  rw [wp_bind] at h
  obtain ⟨vs, h, hvs⟩ := opds_wp (Q := fun _ => True) S.slots h
  obtain ⟨hb, h⟩ := need_wp h
  rw [Bool.and_eq_true] at hb
  have hsm := Nat.le_of_ble_eq_true hb.1
  have hpos : 0 < te.size := by simpa [Nat.blt_eq] using hb.2
  rw [wp_bind] at h
  have hz : ((Array.range (n * te.size)).map (ge.z.cells[· % ge.z.cells.size]!)).toList = zeroL n te.zero := by
    have hzl : ge.z.cells.size = te.zero.length := by rw [← Array.length_toList, ge.cells]
    unfold zeroL
    rw [Array.toList_map, Array.toList_range, ge.len]
    apply List.map_congr_left
    intro j _
    have hlt : j % te.zero.length < te.zero.length := Nat.mod_lt _ (by rw [ge.len]; exact hpos)
    rw [hzl, ge.len] at *
    rw [List.getD_eq_getElem?_getD, ← ge.cells, getElem!_def, ← Array.getElem?_toList]
    rw [List.getElem?_eq_getElem (by rw [ge.cells, ge.len]; exact hlt)]
    rfl
  obtain ⟨cs', ar', h, hf, hr, hsz⟩ := zip_fill (ar := (Array.range (n * te.size)).map (ge.z.cells[· % ge.z.cells.size]!)) (by rw [hz]; exact reps_atoms _) hvs h
  rw [wp_bind] at h
  obtain ⟨ds, ed, hok, h⟩ := toDs_wp h
  rw [← zip_parts] at hf
  rw [hel] at hkk
  have hund : P.underlying t = some (.slice e) := by rw [g.und, hkk]
  have hsz2 : ar'.size = n * te.size := by rw [hsz]; simp
  have hrun : (execOp a.eval o).run P w = .ok (.value (.slice (some ⟨w.heap.size, 0, none⟩) n n)) (w.alloc (.cells ar' e)) := by
    have key : (Instr.buildSlice t n (ps.map fun (i, x) => (i, a.eval x))).run P w = .ok (.slice (some ⟨w.heap.size, 0, none⟩) n n) (w.alloc (.cells ar' e)) := by
      generalize (ps.map fun (i, x) => (i, a.eval x)) = parts at hf
      by_cases h0 : n * te.size = 0
      · have r0 : ∀ F : Nat → Value, (Array.range 0).map F = #[] := fun F => by apply Array.ext'; simp
        rw [h0, r0] at hf
        simp [Instr.buildSlice, run_und hund, ge.sizeOf, h0, r0, hf, Go.newRow]
      · exact run_buildSlice w t e n parts ar' ge.i ge.z hund ge.info ge.zero (by rw [ge.size]; omega) (by rw [ge.size]; exact h0) (by rw [ge.size]; exact hf)
    simp only [execOp, ho]
    rw [Sem.run_bind, key]
    rfl
  refine upV hrun (newRow_ok S h ⟨rfl, rfl, rfl⟩ rfl (nofz0 _) (Nat.le_refl _) (fun _ => rfl) (Nat.le_of_eq hsz2.symm) (fun i j hi hj => ?_))
  have hlt : i * te.size + j < ar'.size := by
    have : (i + 1) * te.size ≤ n * te.size := Nat.mul_le_mul_right _ hi
    rw [Nat.add_mul] at this; omega
  subst ed
  have hdl : ds.length = ar'.size := by have := AV.reps_len hr; simpa using this
  obtain ⟨u, hu, hur⟩ := reps_d hr (List.getElem?_eq_getElem (l := ds) (i := i * te.size + j) (by omega))
  refine ⟨u, by simpa using hu, d_one (hok _ (List.getElem_mem _)) hur, ?_⟩
  simp only [litC]
  rw [List.getD_eq_getElem?_getD, List.getElem?_eq_getElem (by omega)]
  exact hur
end
end Go.VM
namespace Go.VM
open RM Go.RowKit
/-- A function whose body is there. -/
def FnIs (P : Program) (f : Nat) : Prop := ∃ fn, P.funcs[f]? = some fn ∧ (fn.name == "runtime.NumGoroutine") = false ∧ fn.body.isNone = false
/-- What is known of a function is so. -/
structure SummOk (P : Program) (f : Nat) (g : Summ) : Prop where
  is : FnIs P f
  ok : ∀ (G : Ctx) (N : Nat) (μ : Mu) (I : Nat → Prop) (sl : Slots) (hp : Heap) (a : Act) (w : World) (args : List AV) (vals : List Value) (fr : Nat) (dst : Option Tmp) (K : Act → World → Prop),
    Sim G N μ I sl hp a w → AV.reps μ w I hp args vals → (g args fr).wp sl hp (Then G N sl a dst K hp) → Calls P f vals.toArray w fun e w' => ∃ u, e = .returned u ∧ K (a.put dst u) w'
def FnsOk (P : Program) (E : Env) : Prop := ∀ f g, get E.fs f = some g → SummOk P f g
section
variable {P : Program} {E : Env} {G : Ctx} {N : Nat} {μ : Mu} {I : Nat → Prop} {sl : Slots} {hp : Heap} {a : Act} {w : World} {K : Act → World → Prop} {Q : Exit → Act → World → Prop} {o : Oper} {d f : Nat}
theorem map_toArray (xs : Array Operand) {l : List Value} (h : xs.toList.map a.eval = l) : xs.map a.eval = l.toArray := by
  apply Array.ext'
  rw [Array.toList_map, h]
/-! ### len -/
theorem lenOf_wp {t : Nat} {td : TyD} {x : AV} {v : Value} {ty : Nat} {R : AV → Prop} (g : TyGood P t td) (hv : x.rep μ w I hp v) (h : (lenOf td.k x).wp sl hp R) : ∃ u, R (av u) ∧ (Builtin.len_ #[t] ty #[v]).run P w = .ok u w := by
  have hkk := g.k
  unfold lenOf at h
  cases hk : td.k with
  | str =>
    rw [hk] at h hkk
    have hund : P.underlying t = some .string := by rw [g.und, hkk]
    cases x with
    | d x =>
      cases x with
      | a val =>
        cases val with
        | string s => exact ⟨_, h, by rw [rep_a hv]; simp [Builtin.len_, run_und hund, goInt]⟩
        | _ => exact h.elim
      | vs _ _ _ _ => exact h.elim
    | _ => exact h.elim
  | slice e =>
    rw [hk] at h hkk
    have hund : P.underlying t = some (.slice e) := by rw [g.und, hkk]
    cases x with
    | d x =>
      cases x with
      | a val =>
        cases val with
        | slice A n c' =>
          cases A with
          | some _ => exact h.elim
          | none =>
            match n, c', hv, h with
            | 0, 0, hv, h => exact ⟨_, h, by rw [rep_a hv]; simp [Builtin.len_, run_und hund, goInt]⟩
            | 0, _ + 1, _, h => exact h.elim
            | _ + 1, _, _, h => exact h.elim
        | _ => exact h.elim
      | vs x n k c' =>
        rw [AV.rep, D.rep] at hv
        obtain ⟨A, cap, e, _⟩ := hv
        exact ⟨_, h, by rw [e]; simp [Builtin.len_, run_und hund, goInt]⟩
    | rs r off n =>
      rw [AV.rep] at hv
      obtain ⟨A, cap, e, _⟩ := hv
      exact ⟨_, h, by rw [e]; simp [Builtin.len_, run_und hund, goInt]⟩
    | _ => exact h.elim
  | _ => rw [hk] at h; exact h.elim
theorem reps1 {x : AV} {vs : List Value} (h : AV.reps μ w I hp [x] vs) : ∃ v, vs = [v] ∧ x.rep μ w I hp v := by
  match vs, h with
  | [v], h => exact ⟨v, rfl, h.1⟩
  | _ :: _ :: _, h => exact h.2.elim
theorem reps2 {x y : AV} {vs : List Value} (h : AV.reps μ w I hp [x, y] vs) : ∃ v u, vs = [v, u] ∧ x.rep μ w I hp v ∧ y.rep μ w I hp u := by
  match vs, h with
  | [v, u], h => exact ⟨v, u, rfl, h.1, h.2.1⟩
  | [_], h => exact h.2.elim
  | _ :: _ :: _ :: _, h => exact h.2.2.elim
theorem op_len {c : Call} (ho : o.op = .call c) (hc : c.callee = .builtin .len) (T : TyOk P E.tt) (S : Sim G N μ I sl hp a w) (h : (step E d f (.call c)).wp sl hp (Then G N sl a o.dst K hp)) : o.wp P a w K Q := by
  unfold step at h
  rw [wp_bind] at h
  obtain ⟨vs, h, hvs⟩ := opds_wp (Q := fun _ => True) S.slots h
  rw [hc] at h
  simp only at h
  cases hat : c.argTypes.toList with
  | nil => rw [hat] at h; exact h.elim
  | cons t l =>
    cases l with
    | cons _ _ => rw [hat] at h; exact h.elim
    | nil =>
      rw [hat] at h
      match vs, hvs, h with
      | [], _, h => exact h.elim
      | _ :: _ :: _, _, h => exact h.elim
      | [x], hvs, h =>
        have h : ((ty E t).bind _).wp sl hp (Then G N sl a o.dst K hp) := h
        rw [wp_bind] at h
        obtain ⟨td, ht, h⟩ := ty_wp h
        obtain ⟨g⟩ := T.good ht
        rw [wp_bind] at h
        obtain ⟨v, he, hv⟩ := reps1 hvs
        obtain ⟨u, h, hrun⟩ := lenOf_wp (P := P) (ty := o.type) g hv h
        have hat' : c.argTypes = #[t] := by apply Array.ext'; rw [hat]
        have := map_toArray c.args he
        exact upV (u := u) (w' := w) (by simp [execOp, ho, resolve, hc, invoke, builtin, hat', this, hrun]) (h μ I _ w S (a_rep _))
/-! ### append -/
/-- What is appended, cell by cell. -/
structure News (P : Program) (kk : Nat) (t' : Nat) (v : Value) (n : Nat) (c : Nat → Nat → D) (w : World) (I : Nat → Prop) (l : List Value) : Prop where
  src : Src P kk t' v n l w
  cells : ∀ i j, i < n → j < kk → ∃ u, l[i * kk + j]? = some u ∧ u.oneCell' = true ∧ (c i j).rep w I u
theorem news_of {kk t' e' : Nat} {A : Option Addr} {cap n : Nat} {c : Nat → Nat → D} (hu : P.underlying t' = some (.slice e')) (hn : 0 < n → ∃ b o, A = some ⟨b, o, none⟩ ∧ ∀ i j, i < n → j < kk → ∃ u, w.cell? ⟨b, o + (i * kk + j), none⟩ = some u ∧ u.oneCell' = true ∧ (c i j).rep w I u) :
    ∃ l, News P kk t' (.slice A n cap) n c w I l := by
  cases n with
  | zero =>
    refine ⟨[], ?_, fun i j hi => by omega⟩
    cases A with
    | none => exact Src.ofNil w hu cap
    | some b => exact Src.ofSlice w hu b 0 cap [] (by simp) (fun j u e => by simp at e) (fun u h => by simp at h)
  | succ m =>
    obtain ⟨b, o, rfl, h⟩ := hn (by omega)
    have dm : ∀ q, q < (m + 1) * kk → q / kk < m + 1 ∧ q % kk < kk ∧ q / kk * kk + q % kk = q := fun q hq => by
      have hk : 0 < kk := by cases kk with
        | zero => simp at hq
        | succ k => omega
      refine ⟨(Nat.div_lt_iff_lt_mul hk).2 hq, Nat.mod_lt _ hk, by rw [Nat.mul_comm]; exact Nat.div_add_mod q kk⟩
    obtain ⟨l, hl, hp'⟩ := exists_list (n := (m + 1) * kk) (p := fun q u => w.cell? ⟨b, o + q, none⟩ = some u ∧ u.oneCell' = true ∧ (c (q / kk) (q % kk)).rep w I u) (fun q hq => by
      obtain ⟨h1, h2, h3⟩ := dm q hq
      obtain ⟨u, hu⟩ := h (q / kk) (q % kk) h1 h2
      rw [h3] at hu
      exact ⟨u, hu⟩)
    refine ⟨l, Src.ofSlice w hu ⟨b, o, none⟩ (m + 1) cap l hl (fun j u e => by rw [add_lit0]; exact (hp' j u e).1) (fun u hu => ?_), fun i j hi hj => ?_⟩
    · obtain ⟨q, hq⟩ := List.getElem?_of_mem hu
      exact (hp' q u hq).2.1
    · have hlt : i * kk + j < l.length := by
        have : (i + 1) * kk ≤ (m + 1) * kk := Nat.mul_le_mul_right _ hi
        rw [Nat.add_mul] at this; omega
      have := hp' (i * kk + j) _ (List.getElem?_eq_getElem hlt)
      have hd := dm (i * kk + j) (by omega)
      have he := idx_eq hd.2.1 hj hd.2.2
      rw [he.1, he.2] at this
      exact ⟨_, List.getElem?_eq_getElem hlt, this.2.1, this.2.2⟩
theorem rowOf_wp {kk t' e' : Nat} {y : AV} {v : Value} {R : Nat × (Nat → Nat → D) → Prop} (H : HSim G μ I hp w) (hu : P.underlying t' = some (.slice e')) (hv : y.rep μ w I hp v) (h : (rowOf kk y).wp sl hp R) : ∃ n c l, R (n, c) ∧ News P kk t' v n c w I l := by
  unfold rowOf at h
  cases y with
  | d x =>
    cases x with
    | a val =>
      cases val with
      | slice A n c =>
        cases A with
        | some _ => exact h.elim
        | none =>
          match n, c with
          | 0, 0 =>
            have e := rep_a hv
            subst e
            obtain ⟨l, hl⟩ := news_of (P := P) (kk := kk) (A := none) (cap := 0) (n := 0) (c := fun _ _ => default) (w := w) (I := I) hu (fun h => by omega)
            exact ⟨0, _, l, h, hl⟩
          | 0, _ + 1 => exact h.elim
          | _ + 1, _ => exact h.elim
      | _ => exact h.elim
    | vs x n k c =>
      obtain ⟨hb, h9⟩ := need_wp h
      have hk := Nat.eq_of_beq_eq_true hb
      subst hk
      rw [AV.rep, D.rep] at hv
      obtain ⟨A, cap, rfl, hc, hx, hv⟩ := hv
      obtain ⟨l, hl⟩ := news_of (P := P) (kk := k) (A := A) (cap := cap) (n := n) (c := c) (w := w) (I := I) hu (fun hn => let ⟨b, o, e, _, h⟩ := hv hn; ⟨b, o, e, h⟩)
      exact ⟨n, c, l, h9, hl⟩
  | rs r off len =>
    obtain ⟨ob, e, h⟩ := obj_wp h
    cases ob with
    | row n k c =>
      obtain ⟨hb, h9⟩ := need_wp h
      have hk := Nat.eq_of_beq_eq_true hb
      subst hk
      rw [AV.rep] at hv
      obtain ⟨A, cap, rfl, hc, ob, e3, hv⟩ := hv
      rw [e] at e3; injection e3 with e3; subst e3
      obtain ⟨hn, hv⟩ := hv _ _ _ rfl
      obtain ⟨l, hl⟩ := news_of (P := P) (kk := k) (A := A) (cap := cap) (n := len) (c := fun i j => c (off + i) j) (w := w) (I := I) hu (fun hpos => by
        rcases hv with ⟨_, hv⟩ | ⟨b, z, hm, hA, hz⟩
        · omega
        · refine ⟨b, off * k, hA (by omega), fun i j hi hj => ?_⟩
          rcases H.objs r _ e with ⟨hm', hn'⟩ | ⟨b', z', vs, t'', fz, hm', hh, hf, hz', hk, hr⟩
          · omega
          · rw [hm] at hm'; injection hm' with hm'; injection hm' with e1 e2; subst e1; subst e2
            obtain ⟨u, hu, h1, hur⟩ := hr (off + i) j (by omega) hj
            refine ⟨u, ?_, h1, hur⟩
            rw [cell_of_row w b _ vs t'' fz hh, ← hu, Nat.add_mul]
            congr 1; omega)
      exact ⟨len, _, l, h9, hl⟩
    | _ => exact h.elim
  | _ => exact h.elim
theorem srcOf_wp {kk t' : Nat} {td' : TyD} {y : AV} {v : Value} {R : Nat × (Nat → Nat → D) → Prop} (H : HSim G μ I hp w) (g : TyGood P t' td') (hv : y.rep μ w I hp v) (h : (srcOf td'.k kk y).wp sl hp R) : ∃ n c l, R (n, c) ∧ News P kk t' v n c w I l := by
  have hkk := g.k
  unfold srcOf at h
  cases hk : td'.k with
  | slice e =>
    rw [hk] at h hkk
    exact rowOf_wp H (by rw [g.und, hkk]) hv h
  | str =>
    rw [hk] at h hkk
    have hund : P.underlying t' = some .string := by rw [g.und, hkk]
    cases y with
    | d x =>
      cases x with
      | a val =>
        cases val with
        | string s =>
          cases hb : Nat.beq kk 1 with
          | false => simp only [hb] at h; exact h.elim
          | true =>
            simp only [hb] at h
            have := Nat.eq_of_beq_eq_true hb
            subst this
            have e := rep_a hv
            subst e
            refine ⟨s.size, _, byteCells s, h, Src.ofString w hund s, fun i j hi hj => ?_⟩
            have hj0 : j = 0 := by omega
            subst hj0
            have hlt : i < s.data.size := hi
            refine ⟨.int .u8 (s.data.getD i 0).toNat, ?_, rfl, by rw [D.rep]⟩
            unfold byteCells
            rw [Nat.mul_one, Nat.add_zero, List.getElem?_map]
            have e2 : s.data[i]? = some s.data[i] := Array.getElem?_eq_getElem hlt
            rw [Array.getD_eq_getD_getElem?, e2]
            simp [e2]
        | _ => exact h.elim
      | vs _ _ _ _ => exact h.elim
    | _ => exact h.elim
  | _ => rw [hk] at h; exact h.elim
/-- Nothing is appended, and there is room for it. -/
theorem run_append_none {t t' ty e kk : Nat} {i : TypeInfo} {A : Option Addr} {len cap : Nat} {v : Value} {l : List Value} (hu : P.underlying t = some (.slice e)) (hi : P.info? e = some i) (hs : i.size = kk) (hS : Src P kk t' v 0 l w) (hc : len ≤ cap) :
    (Builtin.append_ #[t, t'] ty #[.slice A len cap, v]).run P w = .ok (.slice A len cap) w := by
  subst hs
  have hl : l = [] := List.eq_nil_of_length_eq_zero (by simpa using hS.newsLen)
  subst hl
  rcases hS.kind with ⟨e', hk⟩ | hk <;> cases A <;> simp [Builtin.append_, run_und hu, run_und hk, sizeOf, typeInfo, hi, hS.len, hc, hS.cells, storeCells]
theorem fits {need cap bytes : Nat} (h : cap < need) (hb : 0 < bytes) (hb2 : bytes ≤ 65536) (hn : need * bytes ≤ 35184372088832) : Builtin.nextslicecap need cap * bytes ≤ 281474976710656 ∧ ((need : Nat) : Int) ≤ 9223372036854775807 := by
  have hle : need ≤ need * bytes := Nat.le_mul_of_pos_right _ hb
  refine ⟨growslice_fits_wide h ?_, by omega⟩
  have : (need + need / 4 + 192) * bytes = need * bytes + need / 4 * bytes + 192 * bytes := by rw [Nat.add_mul, Nat.add_mul]
  have h2 : need / 4 * bytes ≤ need * bytes := Nat.mul_le_mul_right _ (Nat.div_le_self _ _)
  omega
theorem exec_append {c : Call} {t t' : Nat} {x y : AV} (ho : o.op = .call c) (hc : c.callee = .builtin .append) (hat : c.argTypes.toList = [t, t']) {u v r : Value} {w' : World} (he : c.args.toList.map a.eval = [u, v]) (hrun : (Builtin.append_ #[t, t'] o.type #[u, v]).run P w = .ok r w') : (execOp a.eval o).run P w = .ok (.value r) w' := by
  have hat' : c.argTypes = #[t, t'] := by apply Array.ext'; rw [hat]
  have := map_toArray c.args he
  simp [execOp, ho, resolve, hc, invoke, builtin, hat', this, hrun]
theorem newRow0 {x : Bool} {k : Nat} {c : Nat → Nat → D} {dst : Nat} {A : Option Addr} (hx : x = true → True) (S : Sim G N μ I sl hp a w) (h : Then G N sl a o.dst K hp (newRow E dst f x 0 k c)) : K (a.put o.dst (.slice A 0 0)) w := by
  unfold newRow at h
  split at h
  · refine h μ I _ w S ?_
    rw [AV.rep, D.rep]
    exact ⟨A, 0, rfl, Nat.le_refl _, fun _ => rfl, fun h => by omega⟩
  · have h : (match get hp f with
      | none => _
      | some _ => False) := h
    cases hr : get hp f with
    | some q => rw [hr] at h; exact h.elim
    | none =>
      rw [hr] at h
      have H := S.heap.newV (k := k) hr c
      refine h _ _ _ w (S.next H) ?_
      rw [AV.rep]
      refine ⟨A, 0, rfl, Nat.le_refl _, _, by rw [get_cons, if_pos rfl], fun n k' c' e => ?_⟩
      injection e with e1 e2 e3
      exact ⟨by omega, .inl ⟨upd_same _ _ _, rfl⟩⟩
/-- A row made by append: the old cells, the new ones, and what else there is. -/
theorem grown_cells {kk n m : Nat} {l l' : List Value} {c c' : Nat → Nat → D} {z : Array Value} (hl : l.length = n * kk) (h1 : ∀ i j, i < n → j < kk → ∃ u, l[i * kk + j]? = some u ∧ u.oneCell' = true ∧ (c i j).rep w I u) (h2 : ∀ i j, i < m → j < kk → ∃ u, l'[i * kk + j]? = some u ∧ u.oneCell' = true ∧ (c' i j).rep w I u) :
    ∀ i j, i < n + m → j < kk → ∃ u, ((l ++ l').toArray ++ z)[i * kk + j]? = some u ∧ u.oneCell' = true ∧ (appC n c c' i j).rep w I u := by
  intro i j hi hj
  have key : ∀ {q : Nat} {u : Value}, (l ++ l')[q]? = some u → ((l ++ l').toArray ++ z)[q]? = some u := fun {q u} e => by
    have hq : q < (l ++ l').length := (List.getElem?_eq_some_iff.1 e).1
    rw [Array.getElem?_append_left (by simpa using hq)]
    simpa using e
  unfold appC
  by_cases hc : i < n
  · rw [if_pos hc]
    obtain ⟨u, hu, h⟩ := h1 i j hc hj
    refine ⟨u, key ?_, h⟩
    rw [List.getElem?_append_left (by exact (List.getElem?_eq_some_iff.1 hu).1)]; exact hu
  · rw [if_neg hc]
    obtain ⟨u, hu, h⟩ := h2 (i - n) j (by omega) hj
    refine ⟨u, key ?_, h⟩
    have : i * kk + j = l.length + ((i - n) * kk + j) := by
      rw [hl, ← Nat.add_assoc, ← Nat.add_mul]; congr 2; omega
    rw [this, List.getElem?_append_right (by omega), Nat.add_sub_cancel_left]; exact hu
end
end Go.VM
