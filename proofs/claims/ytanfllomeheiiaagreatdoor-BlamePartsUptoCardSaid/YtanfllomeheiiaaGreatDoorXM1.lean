/- An abstract machine over values, beside the model's: what a function's text comes to, state by state. -/
import Derived.WalkKit
import Derived.KernelRfl
import Derived.Orders
set_option linter.unusedVariables false
set_option linter.unusedSimpArgs false
namespace Go.XM
/-- Plain data: an atom, or a slice by value of n elements with k cells each (x: its capacity is its length). -/
inductive D where
  | a (x : Value)
  | vs (x : Bool) (n k : Nat) (c : Nat → Nat → D)
instance : Inhabited D := ⟨.a (.bool false)⟩
/-- What a slot may hold. -/
inductive AV where
  | d (x : D)
  | rs (r off len : Nat)
  | pc (r j : Nat)
  | pr (r i j : Nat)
  | pv (n k : Nat) (c : Nat → Nat → D) (i j : Nat)
  | mp (r : Nat)
  | ra (r off len : Nat)
  | pa (r i j : Nat)
  | it (r : Nat)
  | fn (f : Fn) (first captured : List AV)
  | agg (cs : List AV)
  | tup (vs : List AV)
  | any
instance : Inhabited AV := ⟨.d default⟩
/-- Objects in memory. -/
inductive AO where
  | dead
  | cells (cs : List AV)
  | row (n k : Nat) (c : Nat → Nat → D)
  | rowA (n k : Nat) (cs : List AV)
  | map (es : List (Value × Nat × AV)) (clock : Nat)
  | itM (m : AV) (since : Nat) (seen : List Nat) (last : Nat)
  | itS (s : ByteArray) (pos : Nat)
abbrev av (x : Value) : AV := .d (.a x)
universe u
def get {β : Type u} : List (Nat × β) → Nat → Option β
  | [], _ => none
  | (m, b) :: l, n => match Nat.beq m n with
    | true => some b
    | false => get l n
/-- What must hold, and then q. -/
structure Chk (p q : Prop) : Prop where
  l : p
  r : q
structure Br (b : Bool) (p q : Prop) : Prop where
  t : b = true → p
  f : b = false → q
abbrev Slots := List (Nat × AV)
abbrev Heap := List (Nat × AO)
/-- Reading, with checks. -/
inductive RM (α : Type) : Type 1 where
  | pure (a : α)
  | fail (why : Nat)
  | slot (n : Nat) (k : AV → RM α)
  | obj (r : Nat) (k : AO → RM α)
  | new (r : Nat) (k : RM α)
  | chkT (p : Prop) (b : Bool) (hb : b = true → p) (k : RM α)
  | br (b : Bool) (t e : RM α)
  | ex {X : Type} (k : X → RM α)
namespace RM
def bind {α β : Type} : RM α → (α → RM β) → RM β
  | .pure a, f => f a
  | .fail n, _ => .fail n
  | .slot n k, f => .slot n fun v => (k v).bind f
  | .obj r k, f => .obj r fun v => (k v).bind f
  | .new r k, f => .new r (k.bind f)
  | .chkT p b hb k, f => .chkT p b hb (k.bind f)
  | .br b t e, f => .br b (t.bind f) (e.bind f)
  | .ex k, f => .ex fun x => (k x).bind f
/-- What must hold for Q. -/
def wp {α : Type} : RM α → Slots → Heap → (α → Prop) → Prop
  | .pure a, _, _, Q => Q a
  | .fail _, _, _, _ => False
  | .slot n k, s, h, Q => match get s n with
    | some v => (k v).wp s h Q
    | none => False
  | .obj r k, s, h, Q => match get h r with
    | some o => (k o).wp s h Q
    | none => False
  | .new r k, s, h, Q => match get h r with
    | none => k.wp s h Q
    | some _ => False
  | .chkT p _ _ k, s, h, Q => Chk p (k.wp s h Q)
  | .br b t e, s, h, Q => Br b (t.wp s h Q) (e.wp s h Q)
  | .ex k, s, h, Q => ∃ x, (k x).wp s h Q
end RM
/-! ### types -/
inductive TyK where
  | atom
  | int (k : IntKind)
  | struct (fo : List (Nat × Nat × Bool))
  | arr (n elem : Nat)
  | slice (elem : Nat)
  | map (key elem : Nat)
  | str
  | ptr
  | func
structure TyD where
  k : TyK
  size : Nat
  zero : List Value
  bytes : Nat
  eqs : List Nat
def TyK.agg : TyK → Bool
  | .struct _ => true
  | .arr _ _ => true
  | _ => false
/-- What an operation comes to: its value, the objects that it turns, the objects that it makes. -/
inductive Eff where
  | mk (val : AV) (up nw : Heap)
abbrev Summ := List AV → Nat → RM Eff
/-- A function's surroundings: the types, the functions that are known, the operations whose new rows are values at once. -/
structure Env where
  tt : Nat → Option TyD
  fs : Nat → Option Summ
  vals : List Nat
  nt : Nat
  cl : Bool
section
variable (E : Env)
/-- The first test that holds, or nothing. -/
def need {α : Type} (b : Bool) (m : RM α) : RM α := match b with
  | true => m
  | false => .fail 60
def opd : Operand → RM AV
  | .tmp t => .slot t .pure
  | .const (.agg cs) => .pure (.agg (cs.toList.map av))
  | .const v => .pure (av v)
  | .global g => .pure (av (.pointer (some ⟨g, 0, none⟩)))
  | .func f => .pure (.fn (.func f) [] [])
def opds : List Operand → RM (List AV)
  | [] => .pure []
  | x :: l => (opd x).bind fun v => (opds l).bind fun vs => .pure (v :: vs)
def oopd : Option Operand → RM (Option AV)
  | none => .pure none
  | some l => (opd l).bind fun v => .pure (some v)
def ty (t : Nat) : RM TyD := match E.tt t with
  | some d => .pure d
  | none => .fail 1
def AV.cells : AV → List AV
  | .agg cs => cs
  | v => [v]
/-- May it lie in one cell? -/
def Value.one : Value → Bool
  | .agg _ => false
  | .tuple _ => false
  | _ => true
def D.ok : D → Bool
  | .a x => Value.one x
  | .vs _ _ _ _ => true
def AV.ok : AV → Bool
  | .d x => x.ok
  | .agg _ => false
  | .tup _ => false
  | .any => false
  | _ => true
def oks : List AV → Bool
  | [] => true
  | x :: l => match x.ok with
    | true => oks l
    | false => false
def AV.toD : AV → RM D
  | .d x => match x.ok with
    | true => .pure x
    | false => .fail 2
  | _ => .fail 2
def toDs : List AV → RM (List D)
  | [] => .pure []
  | x :: l => x.toD.bind fun v => (toDs l).bind fun vs => .pure (v :: vs)
/-- n cells as a value of a type. -/
def wrapT (agg : Bool) (cs : List AV) : RM AV := match agg with
  | true => .pure (.agg cs)
  | false => match cs with
    | [v] => .pure v
    | _ => .fail 3
def asI : AV → RM (IntKind × Int)
  | .d (.a (.int k n)) => .pure (k, n)
  | _ => .fail 4
def asB : AV → RM Bool
  | .d (.a (.bool b)) => .pure b
  | _ => .fail 5
def takeN (n : Nat) (l : List AV) : List AV := l.take n
def putL {β : Type} : List β → Nat → List β → List β
  | l, _, [] => l
  | l, j, x :: xs => putL (l.set j x) (j + 1) xs
/-- A store into a row: element i, cells j .. -/
def putC (c : Nat → Nat → D) (i j : Nat) (xs : List D) : Nat → Nat → D := fun i' j' =>
  if i' = i ∧ j ≤ j' ∧ j' < j + xs.length then xs.getD (j' - j) default else c i' j'
/-- n elements behind m. -/
def appC (n : Nat) (c : Nat → Nat → D) (c' : Nat → Nat → D) : Nat → Nat → D := fun i j => if i < n then c i j else c' (i - n) j
def litC (k : Nat) (xs : List D) : Nat → Nat → D := fun i j => xs.getD (i * k + j) default
def rangeCells (k : Nat) (f : Nat → D) : List AV := (List.range k).map fun j => .d (f j)
/-- A new row: a row of one's own, or a value. -/
def newRow (dst : Nat) (fresh : Nat) (x : Bool) (n k : Nat) (c : Nat → Nat → D) : Eff := match E.vals.contains dst with
  | true => ⟨.d (.vs x n k c), [], []⟩
  | false => ⟨.rs fresh 0 n, [], [(fresh, .row n k c)]⟩
/-- .. in the place of another one. -/
def outRow (dst fresh r n k : Nat) (c : Nat → Nat → D) : Eff := match E.vals.contains dst with
  | true => ⟨.d (.vs false n k c), [(r, .dead)], []⟩
  | false => ⟨.rs fresh 0 n, [(r, .dead)], [(fresh, .row n k c)]⟩
/-- A slice's elements, read. -/
def rowOf (kk : Nat) : AV → RM (Nat × (Nat → Nat → D))
  | .d (.a (.slice none 0 0)) => .pure (0, fun _ _ => default)
  | .d (.vs _ n k c) => need (Nat.beq k kk) (.pure (n, c))
  | .rs r off len => .obj r fun
    | .row _ k c => need (Nat.beq k kk) (.pure (len, fun i j => c (off + i) j))
    | _ => .fail 8
  | _ => .fail 9
def eqU : List UInt8 → List UInt8 → Bool
  | [], [] => true
  | a :: l, b :: m => match Nat.beq a.toNat b.toNat with
    | true => eqU l m
    | false => false
  | _, _ => false
def ltU : List UInt8 → List UInt8 → Bool
  | [], [] => false
  | [], _ :: _ => true
  | _ :: _, [] => false
  | a :: l, b :: m => match Nat.beq a.toNat b.toNat with
    | true => ltU l m
    | false => Nat.blt a.toNat b.toNat
abbrev lsU (s : ByteArray) : List UInt8 := s.data.toList
/-! ### atoms and keys: of kinds 0 (whole numbers), 1 (truth values), 2 (texts) -/
def atIs (k : Nat) : Value → Bool
  | .int _ _ => Nat.beq k 0
  | .bool _ => Nat.beq k 1
  | .string _ => Nat.beq k 2
  | _ => false
def atEq : Value → Value → Option Bool
  | .int a m, .int b n => match decide (a = b) with
    | true => some (decide (m = n))
    | false => none
  | .bool a, .bool b => some (a == b)
  | .string a, .string b => some (eqU (lsU a) (lsU b))
  | _, _ => none
def atsIs : List Nat → List Value → Bool
  | [], [] => true
  | k :: ks, v :: vs => match atIs k v with
    | true => atsIs ks vs
    | false => false
  | _, _ => false
def atsEq : List Value → List Value → Option Bool
  | [], [] => some true
  | x :: xs, y :: ys => match atEq x y with
    | some b => match atsEq xs ys with
      | some c => some (b && c)
      | none => none
    | none => none
  | _, _ => none
/-- A key of a kind. -/
def keyIs (agg : Bool) (ks : List Nat) (v : Value) : Bool := match agg with
  | true => match v with
    | .agg cs => match ks with
      | [] => false
      | _ :: _ => atsIs ks cs.toList
    | _ => false
  | false => match ks with
    | [k] => atIs k v
    | _ => false
def keyEq (agg : Bool) (x y : Value) : Option Bool := match agg with
  | true => match x, y with
    | .agg a, .agg b => atsEq a.toList b.toList
    | _, _ => none
  | false => atEq x y
def atoms : List AV → Option (List Value)
  | [] => some []
  | .d (.a v) :: l => match atoms l with
    | some vs => some (v :: vs)
    | none => none
  | _ :: _ => none
def AV.val : AV → Option Value
  | .d (.a v) => some v
  | .agg cs => match atoms cs with
    | some vs => some (.agg ⟨vs⟩)
    | none => none
  | _ => none
def keyV (agg : Bool) (ks : List Nat) (x : AV) : RM Value := match x.val with
  | some v => match keyIs agg ks v with
    | true => .pure v
    | false => .fail 201
  | none => .fail 202
/-- A key's place, its stamp, what it has. -/
def mfind (agg : Bool) (ks : List Nat) (k : Value) : List (Value × Nat × AV) → Nat → RM (Option (Nat × Nat × AV))
  | [], _ => .pure none
  | (k', b, v) :: l, i => match keyIs agg ks k' with
    | true => match keyEq agg k k' with
      | some e => .br e (.pure (some (i, b, v))) (mfind agg ks k l (i + 1))
      | none => .fail 203
    | false => .fail 204
/-- A stamp's place. -/
def mstamp (s : Int) : List (Value × Nat × AV) → Nat → RM (Nat × Value)
  | [], _ => .fail 209
  | (k, b, _) :: l, i => .br (decide ((b : Int) = s)) (.pure (i, k)) (mstamp s l (i + 1))
def mput (k : Value) (x : AV) (es : List (Value × Nat × AV)) (c : Nat) : Option (Nat × Nat × AV) → List (Value × Nat × AV) × Nat
  | some (j, b, _) => (es.set j (k, b, x), c)
  | none => (es ++ [(k, c, x)], c + 1)
def mdel (es : List (Value × Nat × AV)) : Option (Nat × Nat × AV) → List (Value × Nat × AV)
  | some (j, _, _) => es.eraseIdx j
  | none => es
def mapEs : AV → RM (List (Value × Nat × AV))
  | .d (.a (.map none)) => .pure []
  | .mp r => .obj r fun
    | .map es _ => .pure es
    | _ => .fail 210
  | _ => .fail 211
def mapAt : AV → (Nat → List (Value × Nat × AV) → Nat → RM Eff) → RM Eff
  | .mp r, k => .obj r fun
    | .map es c => k r es c
    | _ => .fail 212
  | _, _ => .fail 213
def keyTy (t : Nat) : RM (TyD × TyD) := (ty E t).bind fun d => match d.k with
  | .map kt et => (ty E kt).bind fun dk => (ty E et).bind fun de => .pure (dk, de)
  | _ => .fail 214
/-- How long it is. -/
def lenOf (k : TyK) (x : AV) : RM AV := match k with
  | .str => match x with
    | .d (.a (.string s)) => .pure (av (.int .i64 s.size))
    | _ => .fail 73
  | .slice _ => match x with
    | .d (.a (.slice none 0 0)) => .pure (av (.int .i64 0))
    | .d (.vs _ n _ _) => .pure (av (.int .i64 n))
    | .rs _ _ n => .pure (av (.int .i64 n))
    | .ra _ _ n => .pure (av (.int .i64 n))
    | _ => .fail 74
  | .map _ _ => (mapEs x).bind fun es => .pure (av (.int .i64 es.length))
  | _ => .fail 75
/-- What is appended. -/
def srcOf (k : TyK) (kk : Nat) (y : AV) : RM (Nat × (Nat → Nat → D)) := match k with
  | .slice _ => rowOf kk y
  | .str => match y with
    | .d (.a (.string s)) => match Nat.beq kk 1 with
      | true => .pure (s.size, fun i _ => .a (.int .u8 (s.data.getD i 0).toNat))
      | false => .fail 69
    | _ => .fail 70
  | _ => .fail 71
/-- .. told cell by cell. -/
def rowA (kk : Nat) : AV → RM (Nat × List AV)
  | .d (.a (.slice none 0 0)) => .pure (0, [])
  | .d (.vs true 0 _ _) => .pure (0, [])
  | .ra r off len => .obj r fun
    | .rowA _ k cs => need (Nat.beq k kk) (.pure (len, (cs.drop (off * k)).take (len * k)))
    | _ => .fail 101
  | _ => .fail 102
def srcA (k : TyK) (kk : Nat) (y : AV) : RM (Nat × List AV) := match k with
  | .slice _ => rowA kk y
  | .str => match y with
    | .d (.a (.string s)) => match Nat.beq kk 1 with
      | true => .pure (s.data.toList.length, s.data.toList.map fun b => av (.int .u8 b.toNat))
      | false => .fail 103
    | _ => .fail 104
  | _ => .fail 105
def u8s : List AV → RM (List UInt8)
  | [] => .pure []
  | .d (.a (.int .u8 n)) :: l => (u8s l).bind fun r => .pure (UInt8.ofNat n.toNat :: r)
  | _ :: _ => .fail 220
def bytesOf (x : AV) : RM (List UInt8) := (rowA 1 x).bind fun q => u8s q.2
def u8cells (l : List UInt8) : List AV := l.map fun b => av (.int .u8 b.toNat)
def isU8 (t : Nat) : RM Unit := (ty E t).bind fun d => match d.k with
  | .int .u8 => .pure ()
  | _ => .fail 221
def appA (fresh kk bytes : Nat) (x : AV) (q : Nat × List AV) : RM Eff := match q.1 with
  | 0 => match x with
    | .d (.a (.slice none 0 0)) => .pure ⟨x, [], []⟩
    | .d (.vs true 0 _ _) => .pure ⟨x, [], []⟩
    | .ra _ _ _ => .pure ⟨x, [], []⟩
    | _ => .fail 106
  | m + 1 => match x with
    | .d (.a (.slice none 0 0)) => .chkT ((m + 1) * bytes ≤ 35184372088832) (decide ((m + 1) * bytes ≤ 35184372088832)) of_decide_eq_true (.pure ⟨.ra fresh 0 (m + 1), [], [(fresh, .rowA (m + 1) kk q.2)]⟩)
    | .d (.vs true 0 _ _) => .chkT ((m + 1) * bytes ≤ 35184372088832) (decide ((m + 1) * bytes ≤ 35184372088832)) of_decide_eq_true (.pure ⟨.ra fresh 0 (m + 1), [], [(fresh, .rowA (m + 1) kk q.2)]⟩)
    | .ra r 0 len => .obj r fun
      | .rowA _ k c0 => need (Nat.beq k kk) (.chkT ((len + (m + 1)) * bytes ≤ 35184372088832) (decide ((len + (m + 1)) * bytes ≤ 35184372088832)) of_decide_eq_true (.pure ⟨.ra fresh 0 (len + (m + 1)), [(r, .dead)], [(fresh, .rowA (len + (m + 1)) k (c0.take (len * k) ++ q.2))]⟩))
      | _ => .fail 107
    | _ => .fail 108
/-- n times the zero value of a type. -/
def zeroL (n : Nat) (z : List Value) : List Value := (List.range (n * z.length)).map fun j => z.getD (j % z.length) (.bool false)
def isIntK : TyK → Bool
  | .int _ => true
  | _ => false
/-- Zeros are appended to nil. -/
def appZ (fresh : Nat) (de : TyD) (x y : AV) : RM Eff := match x with
  | .d (.a (.slice none 0 0)) => (asI y).bind fun n => .chkT (1 ≤ n.2 ∧ n.2 * de.bytes ≤ 35184372088832 ∧ n.2 ≤ 4611686018427387904) (decide (1 ≤ n.2 ∧ n.2 * de.bytes ≤ 35184372088832 ∧ n.2 ≤ 4611686018427387904)) of_decide_eq_true (.pure ⟨.ra fresh 0 n.2.toNat, [], [(fresh, .rowA n.2.toNat de.size ((zeroL n.2.toNat de.zero).map av))]⟩)
  | _ => .fail 236
def inBound (x : AV) (n : Nat) : RM Nat := (asI x).bind fun p => .chkT (0 ≤ p.2 ∧ p.2 < n) (decide (0 ≤ p.2 ∧ p.2 < n)) of_decide_eq_true (.pure p.2.toNat)
def upTo (x : Option AV) (dflt n : Nat) : RM Nat := match x with
  | none => .pure dflt
  | some x => (asI x).bind fun p => .chkT (0 ≤ p.2 ∧ p.2 ≤ n) (decide (0 ≤ p.2 ∧ p.2 ≤ n)) of_decide_eq_true (.pure p.2.toNat)
def fieldOf (t f : Nat) : RM (Nat × Nat × Bool) := (ty E t).bind fun d => match d.k with
  | .struct fo => match fo[f]? with
    | some x => .pure x
    | none => .fail 10
  | _ => .fail 11
def elemOf (t : Nat) : RM Nat := (ty E t).bind fun d => match d.k with
  | .slice e => .pure e
  | .arr _ e => .pure e
  | _ => .fail 12
def elemS (t : Nat) : RM Nat := (ty E t).bind fun d => match d.k with
  | .slice e => .pure e
  | _ => .fail 68
/-- A list, told cell by cell. -/
def spineK {α : Type} : List AV → (List AV → RM α) → RM α
  | [], k => k []
  | x :: l, k => spineK l fun l => k (x :: l)
theorem spineK_eq {α : Type} : ∀ (l : List AV) (k : List AV → RM α), spineK l k = k l
  | [], _ => rfl
  | x :: l, k => by rw [spineK, spineK_eq l]
def lenEq : List AV → Nat → Bool
  | [], 0 => true
  | _ :: l, n + 1 => lenEq l n
  | _, _ => false
def lenLe : Nat → List AV → Bool
  | 0, _ => true
  | n + 1, _ :: l => lenLe n l
  | _ + 1, [] => false
theorem lenEq_eq : ∀ {l : List AV} {n : Nat}, lenEq l n = true → l.length = n
  | [], 0, _ => rfl
  | _ :: l, n + 1, h => by rw [List.length_cons, lenEq_eq (l := l) (n := n) h]
  | [], _ + 1, h => by cases h
  | _ :: _, 0, h => by cases h
theorem lenLe_le : ∀ {n : Nat} {l : List AV}, lenLe n l = true → n ≤ l.length
  | 0, _, _ => Nat.zero_le _
  | n + 1, _ :: l, h => by rw [List.length_cons]; exact Nat.succ_le_succ (lenLe_le (l := l) h)
  | _ + 1, [], h => by cases h
def fillL (place : Nat → Option (Nat × Nat)) : List AV → List (Nat × AV) → RM (List AV)
  | cs, [] => .pure cs
  | cs, (i, v) :: l => match place i with
    | none => .fail 13
    | some (off, size) => match oks v.cells && (lenEq v.cells size && lenLe (off + size) cs) with
      | true => spineK (putL cs off v.cells) fun cs => fillL place cs l
      | false => .fail 14
/-- Sums and comparisons of whole numbers. -/
def intOp (op : BinOp) (k : IntKind) (x y : Int) : RM AV := match op with
  | .add => .pure (av (.int k (k.wrap (x + y))))
  | .sub => .pure (av (.int k (k.wrap (x - y))))
  | .mul => .pure (av (.int k (k.wrap (x * y))))
  | .quo => .chkT (y ≠ 0) (decide (y ≠ 0)) of_decide_eq_true (.pure (av (.int k (k.wrap (x.tdiv y)))))
  | .rem => .chkT (y ≠ 0) (decide (y ≠ 0)) of_decide_eq_true (.pure (av (.int k (x.tmod y))))
  | .and => .pure (av (.int k (k.wrap (BitVec.ofInt k.bits x &&& BitVec.ofInt k.bits y).toNat)))
  | .or => .pure (av (.int k (k.wrap (BitVec.ofInt k.bits x ||| BitVec.ofInt k.bits y).toNat)))
  | .xor => .pure (av (.int k (k.wrap (BitVec.ofInt k.bits x ^^^ BitVec.ofInt k.bits y).toNat)))
  | .andNot => .pure (av (.int k (k.wrap (BitVec.ofInt k.bits x &&& ~~~(BitVec.ofInt k.bits y)).toNat)))
  | .eql => .pure (av (.bool (x == y)))
  | .neq => .pure (av (.bool (x != y)))
  | .lss => .pure (av (.bool (decide (x < y))))
  | .leq => .pure (av (.bool (decide (x ≤ y))))
  | .gtr => .pure (av (.bool (decide (x > y))))
  | .geq => .pure (av (.bool (decide (x ≥ y))))
  | _ => .fail 15
/-- Shifts. -/
def shOp (left : Bool) (k : IntKind) (x y : Int) : RM AV := .chkT (0 ≤ y) (decide (0 ≤ y)) of_decide_eq_true (match left with
  | true => .pure (av (.int k (k.wrap (x * 2 ^ (min y.toNat k.bits)))))
  | false => .pure (av (.int k (x.fdiv (2 ^ (min y.toNat k.bits))))))
def isSh : BinOp → Option Bool
  | .shl => some true
  | .shr => some false
  | _ => none
def strOp (op : BinOp) (x y : ByteArray) : RM AV := match op with
  | .add => .chkT (x.size + y.size ≤ 4611686018427387904) (decide (x.size + y.size ≤ 4611686018427387904)) of_decide_eq_true (.pure (av (.string ⟨⟨lsU x ++ lsU y⟩⟩)))
  | .eql => .pure (av (.bool (eqU (lsU x) (lsU y))))
  | .neq => .pure (av (.bool (!(eqU (lsU x) (lsU y)))))
  | .lss => .pure (av (.bool (ltU (lsU x) (lsU y))))
  | .leq => .pure (av (.bool (ltU (lsU x) (lsU y) || eqU (lsU x) (lsU y))))
  | .gtr => .pure (av (.bool !(ltU (lsU x) (lsU y) || eqU (lsU x) (lsU y))))
  | .geq => .pure (av (.bool !(ltU (lsU x) (lsU y))))
  | _ => .fail 16
/-- Is it surely no nil? -/
def isRef : AV → Bool
  | .pc _ _ => true
  | .pr _ _ _ => true
  | .pa _ _ _ => true
  | .mp _ => true
  | .fn (.func _) _ _ => true
  | _ => false
/-- Against nil: some b: the answer to '=='. -/
def nilEq (k : TyK) (x y : AV) : Option Bool := match k, x, y with
  | .ptr, .pc _ _, .d (.a (.pointer none)) => some false
  | .ptr, .pr _ _ _, .d (.a (.pointer none)) => some false
  | .ptr, .pa _ _ _, .d (.a (.pointer none)) => some false
  | .ptr, .d (.a (.pointer none)), .pc _ _ => some false
  | .ptr, .d (.a (.pointer none)), .pr _ _ _ => some false
  | .ptr, .d (.a (.pointer none)), .d (.a (.pointer none)) => some true
  | .map _ _, .mp _, .d (.a (.map none)) => some false
  | .map _ _, .d (.a (.map none)), .d (.a (.map none)) => some true
  | .func, .fn _ _ _, .d (.a .nilFunc) => some false
  | .func, .d (.a .nilFunc), .d (.a .nilFunc) => some true
  | .slice _, .d (.a (.slice none _ _)), .d (.a (.slice none _ _)) => some true
  | .slice _, .ra _ _ _, .d (.a (.slice none _ _)) => some false
  | _, _, _ => none
def binOp (E : Env) (op : BinOp) (t : Nat) (x y : AV) : RM AV := match x, y with
  | .d (.a (.int k a)), .d (.a (.int k' b)) => match isSh op with
    | some l => shOp l k a b
    | none => if k = k' then intOp op k a b else .fail 17
  | .d (.a (.string a)), .d (.a (.string b)) => strOp op a b
  | .d (.a (.bool a)), .d (.a (.bool b)) => (ty E t).bind fun d => match d.eqs, d.k.agg, op with
    | [1], false, .eql => .pure (av (.bool (a == b)))
    | [1], false, .neq => .pure (av (.bool (!(a == b))))
    | _, _, _ => .fail 215
  | .agg a, .agg b => (ty E t).bind fun d => (keyV d.k.agg d.eqs (.agg a)).bind fun u => (keyV d.k.agg d.eqs (.agg b)).bind fun v => match keyEq d.k.agg u v, op with
    | some e, .eql => .pure (av (.bool e))
    | some e, .neq => .pure (av (.bool (!e)))
    | _, _ => .fail 216
  | x, y => (ty E t).bind fun d => match op, nilEq d.k x y with
    | .eql, some b => .pure (av (.bool b))
    | .neq, some b => .pure (av (.bool (!b)))
    | _, _ => .fail 21
/-- What an operation comes to. dst: the slot that it writes; fresh: the name of what it makes. -/
def step (dst fresh : Nat) (op : Op) : RM Eff := match op with
  | .move x => (opd x).bind fun v => .pure ⟨v, [], []⟩
  | .assign x => (opd x).bind fun v => .pure ⟨v, [], []⟩
  | .pick c a b => (opd c).bind fun c => (asB c).bind fun c => .br c ((opd a).bind fun v => .pure ⟨v, [], []⟩) ((opd b).bind fun v => .pure ⟨v, [], []⟩)
  | .alloc t => (ty E t).bind fun d => match d.k with
    | .arr n e => (ty E e).bind fun de => match E.cl with
      | true => need (Nat.blt 0 n && Nat.beq (n * de.size) d.zero.length) (.pure ⟨.pa fresh 0 0, [], [(fresh, .rowA n de.size (d.zero.map av))]⟩)
      | false => need (Nat.blt 0 n && Nat.ble (n * de.size) d.zero.length) (.pure ⟨.pr fresh 0 0, [], [(fresh, .row n de.size (litC de.size (d.zero.map .a)))]⟩)
    | _ => .pure ⟨.pc fresh 0, [], [(fresh, .cells (d.zero.map av))]⟩
  | .box _ x => (opd x).bind fun v => need (oks v.cells) (.pure ⟨.pc fresh 0, [], [(fresh, .cells v.cells)]⟩)
  | .build t ps => (ty E t).bind fun d => (opds (ps.toList.map (·.2))).bind fun vs => match d.k with
    | .struct fo => (fillL (fun i => (fo[i]?).map fun x => (x.1, x.2.1)) (d.zero.map av) ((ps.toList.map (·.1)).zip vs)).bind fun cs => .pure ⟨.agg cs, [], []⟩
    | .arr _ e => (ty E e).bind fun de => (fillL (fun i => some (i * de.size, de.size)) (d.zero.map av) ((ps.toList.map (·.1)).zip vs)).bind fun cs => .pure ⟨.agg cs, [], []⟩
    | _ => .fail 22
  | .buildSlice t n ps => (elemS E t).bind fun e => (ty E e).bind fun de => (opds (ps.toList.map (·.2))).bind fun vs => need (Nat.ble (n * de.size) 16777216 && Nat.blt 0 de.size)
    ((fillL (fun i => some (i * de.size, de.size)) ((zeroL n de.zero).map av) ((ps.toList.map (·.1)).zip vs)).bind fun cs => match E.cl with
      | true => need (oks cs) (.pure ⟨.ra fresh 0 n, [], [(fresh, .rowA n de.size cs)]⟩)
      | false => (toDs cs).bind fun ds => .pure (newRow E dst fresh true n de.size (litC de.size ds)))
  | .load t x => (ty E t).bind fun d => (opd x).bind fun v => match v with
    | .pc r j => .obj r fun
      | .cells cs => need (Nat.ble (j + d.size) cs.length) ((wrapT d.k.agg ((cs.drop j).take d.size)).bind fun v => .pure ⟨v, [], []⟩)
      | _ => .fail 23
    | .pr r i j => .obj r fun
      | .row _ k c => need (Nat.ble (j + d.size) k) ((wrapT d.k.agg (rangeCells d.size fun q => c i (j + q))).bind fun v => .pure ⟨v, [], []⟩)
      | _ => .fail 24
    | .pv _ k c i j => need (Nat.ble (j + d.size) k) ((wrapT d.k.agg (rangeCells d.size fun q => c i (j + q))).bind fun v => .pure ⟨v, [], []⟩)
    | .pa r i j => .obj r fun
      | .rowA n k cs => need (Nat.ble (j + d.size) k && Nat.blt i n) ((wrapT d.k.agg ((cs.drop (i * k + j)).take d.size)).bind fun v => .pure ⟨v, [], []⟩)
      | _ => .fail 25
    | _ => .fail 25
  | .store t x y => (ty E t).bind fun d => (opd x).bind fun p => (opd y).bind fun v => need (oks v.cells && Nat.beq v.cells.length d.size) (match p with
    | .pc r j => .obj r fun
      | .cells cs => need (Nat.ble (j + v.cells.length) cs.length) (.pure ⟨av undef, [(r, .cells (putL cs j v.cells))], []⟩)
      | _ => .fail 27
    | .pr r i j => .obj r fun
      | .row n k c => (toDs v.cells).bind fun ds => need (Nat.ble (j + v.cells.length) k) (.pure ⟨av undef, [(r, .row n k (putC c i j ds))], []⟩)
      | _ => .fail 29
    | .pa r i j => .obj r fun
      | .rowA n k cs => need (Nat.ble (j + v.cells.length) k && Nat.blt i n) (.pure ⟨av undef, [(r, .rowA n k (putL cs (i * k + j) v.cells))], []⟩)
      | _ => .fail 29
    | _ => .fail 30)
  | .nilCheck x => (opd x).bind fun v => match isRef v with
    | true => .pure ⟨v, [], []⟩
    | false => .fail 31
  | .binOp op t x y _ => (opd x).bind fun x => (opd y).bind fun y => (binOp E op t x y).bind fun v => .pure ⟨v, [], []⟩
  | .unOp op _ x => (opd x).bind fun x => match op, x with
    | .not, .d (.a (.bool b)) => .pure ⟨av (.bool !b), [], []⟩
    | .neg, .d (.a (.int k n)) => .pure ⟨av (.int k (k.wrap (0 - n))), [], []⟩
    | .xor, .d (.a (.int k n)) => .pure ⟨av (.int k (k.wrap (BitVec.ofInt k.bits (if k.signed then -1 else k.max) ^^^ BitVec.ofInt k.bits n).toNat)), [], []⟩
    | _, _ => .fail 32
  | .convert t' t x => (ty E t').bind fun d' => (ty E t).bind fun d => (opd x).bind fun v => match d.k, v with
    | .int k, .d (.a (.int _ n)) => .pure ⟨av (.int k (k.wrap n)), [], []⟩
    | .str, .d (.a (.string _)) => .pure ⟨v, [], []⟩
    | .str, v => match d'.k with
      | .slice e => (isU8 E e).bind fun _ => (bytesOf v).bind fun l => .pure ⟨av (.string ⟨⟨l⟩⟩), [], []⟩
      | _ => .fail 80
    | .slice e, .d (.a (.string s)) => match d'.k with
      | .str => (isU8 E e).bind fun _ => .pure ⟨.ra fresh 0 (lsU s).length, [], [(fresh, .rowA (lsU s).length 1 (u8cells (lsU s)))]⟩
      | _ => .fail 80
    | _, _ => .fail 80
  | .fieldAddr t x f => (fieldOf E t f).bind fun fo => (opd x).bind fun v => need (Nat.blt 0 fo.2.1) (match v with
    | .pc r j => .pure ⟨.pc r (j + fo.1), [], []⟩
    | .pr r i j => .pure ⟨.pr r i (j + fo.1), [], []⟩
    | .pa r i j => .pure ⟨.pa r i (j + fo.1), [], []⟩
    | .pv n k c i j => .pure ⟨.pv n k c i (j + fo.1), [], []⟩
    | _ => .fail 33)
  | .field t x f => (fieldOf E t f).bind fun fo => (opd x).bind fun v => match v with
    | .agg cs => (wrapT fo.2.2 ((cs.drop fo.1).take fo.2.1)).bind fun v => .pure ⟨v, [], []⟩
    | _ => .fail 34
  | .indexAddr t x i => (ty E t).bind fun d => (opd x).bind fun x => (opd i).bind fun i => match d.k with
    | .slice e => (ty E e).bind fun de => match x with
      | .d (.vs _ n k c) => need (Nat.beq k de.size) ((inBound i n).bind fun i => .pure ⟨.pv n k c i 0, [], []⟩)
      | .rs r off len => .obj r fun
        | .row _ k _ => need (Nat.beq k de.size) ((inBound i len).bind fun i => .pure ⟨.pr r (off + i) 0, [], []⟩)
        | _ => .fail 34
      | .ra r off len => .obj r fun
        | .rowA _ k _ => need (Nat.beq k de.size) ((inBound i len).bind fun i => .pure ⟨.pa r (off + i) 0, [], []⟩)
        | _ => .fail 34
      | _ => .fail 36
    | .arr m e => (ty E e).bind fun de => match x with
      | .pr r 0 0 => .obj r fun
        | .row n k _ => need (Nat.beq k de.size && Nat.beq m n) ((inBound i n).bind fun i => .pure ⟨.pr r i 0, [], []⟩)
        | _ => .fail 35
      | .pa r 0 0 => .obj r fun
        | .rowA n k _ => need (Nat.beq k de.size && Nat.beq m n) ((inBound i n).bind fun i => .pure ⟨.pa r i 0, [], []⟩)
        | _ => .fail 35
      | _ => .fail 61
    | _ => .fail 67
  | .index t x i => (ty E t).bind fun d => (opd x).bind fun x => (opd i).bind fun i => match d.k, x with
    | .str, .d (.a (.string s)) => (inBound i s.size).bind fun i => .pure ⟨av (.int .u8 (s.data.getD i 0).toNat), [], []⟩
    | _, _ => .fail 37
  | .slice t x lo hi mx => match mx with
    | some mx => match hi with
      | none => .fail 38
      | some hi => (ty E t).bind fun d => (opd x).bind fun x => (oopd lo).bind fun lo => (opd hi).bind fun hi => (opd mx).bind fun mx => match d.k with
        | .slice e => (ty E e).bind fun de => match x with
          | .ra r off len => .obj r fun
            | .rowA _ k _ => need (Nat.beq k de.size) ((upTo (some mx) len len).bind fun m => (upTo (some hi) len m).bind fun h => (upTo lo 0 h).bind fun l => need (Nat.beq h m) (match m - l with
              | 0 => .pure ⟨.ra fresh 0 0, [], [(fresh, .rowA 0 k [])]⟩
              | n + 1 => .pure ⟨.ra r (off + l) (n + 1), [], []⟩))
            | _ => .fail 217
          | .d (.a (.slice none 0 0)) => (upTo (some mx) 0 0).bind fun m => (upTo (some hi) 0 m).bind fun h => (upTo lo 0 h).bind fun _ => .pure ⟨av (.slice none 0 0), [], []⟩
          | .d (.vs true 0 k c) => (upTo (some mx) 0 0).bind fun m => (upTo (some hi) 0 m).bind fun h => (upTo lo 0 h).bind fun _ => .pure ⟨.d (.vs true 0 k c), [], []⟩
          | _ => .fail 218
        | _ => .fail 219
    | none => (ty E t).bind fun d => (opd x).bind fun x => (oopd lo).bind fun lo => (oopd hi).bind fun hi => match x with
      | .d (.a (.string s)) => match d.k with
        | .str => (upTo hi s.size s.size).bind fun h => (upTo lo 0 h).bind fun l => .pure ⟨av (.string ⟨⟨((lsU s).drop l).take (h - l)⟩⟩), [], []⟩
        | _ => .fail 62
      | .d (.a (.slice none 0 0)) => match d.k with
        | .slice e => (ty E e).bind fun _ => (upTo hi 0 0).bind fun h => (upTo lo 0 h).bind fun _ => .pure ⟨av (.slice none 0 0), [], []⟩
        | _ => .fail 63
      | .d (.vs x n k c) => match d.k with
        | .slice e => (ty E e).bind fun de => need (Nat.beq k de.size) ((upTo hi n n).bind fun h => (upTo lo 0 h).bind fun l => .pure ⟨.d (.vs (x && hi.isNone) (h - l) k (fun i j => c (l + i) j)), [], []⟩)
        | _ => .fail 64
      | .rs r off len => match d.k with
        | .slice e => (ty E e).bind fun de => .obj r fun
          | .row _ k _ => need (Nat.beq k de.size) ((upTo hi len len).bind fun h => (upTo lo 0 h).bind fun l => .pure ⟨.rs r (off + l) (h - l), [], []⟩)
          | _ => .fail 65
        | _ => .fail 66
      | .ra r off len => match d.k with
        | .slice e => (ty E e).bind fun de => .obj r fun
          | .rowA _ k _ => need (Nat.beq k de.size) ((upTo hi len len).bind fun h => (upTo lo 0 h).bind fun l => .pure ⟨.ra r (off + l) (h - l), [], []⟩)
          | _ => .fail 65
        | _ => .fail 66
      | _ => .fail 39
  | .makeMap t r => (oopd r).bind fun r => match r with
    | none => .pure ⟨.mp fresh, [], [(fresh, .map [] 0)]⟩
    | some v => (keyTy E t).bind fun _ => (asI v).bind fun _ => .pure ⟨.mp fresh, [], [(fresh, .map [] 0)]⟩
  | .lookup t x i ok => (opd x).bind fun x => (opd i).bind fun i => (keyTy E t).bind fun d => (keyV d.1.k.agg d.1.eqs i).bind fun k => (mapEs x).bind fun es => (mfind d.1.k.agg d.1.eqs k es 0).bind fun q => match q with
    | some (_, _, v) => match ok with
      | true => .pure ⟨.tup [v, av (.bool true)], [], []⟩
      | false => .pure ⟨v, [], []⟩
    | none => (wrapT d.2.k.agg (d.2.zero.map av)).bind fun z => match ok with
      | true => .pure ⟨.tup [z, av (.bool false)], [], []⟩
      | false => .pure ⟨z, [], []⟩
  | .mapUpdate t m k x => (opd m).bind fun m => (opd k).bind fun k => (opd x).bind fun x => (keyTy E t).bind fun d => (keyV d.1.k.agg d.1.eqs k).bind fun k => mapAt m fun r es c => (mfind d.1.k.agg d.1.eqs k es 0).bind fun q => .pure ⟨av undef, [(r, .map (mput k x es c q).1 (mput k x es c q).2)], []⟩
  | .insert t m k x => (opd m).bind fun m => (opd k).bind fun k => (opd x).bind fun x => (keyTy E t).bind fun d => (keyV d.1.k.agg d.1.eqs k).bind fun k => mapAt m fun r es c => (mfind d.1.k.agg d.1.eqs k es 0).bind fun q => .pure ⟨av undef, [(r, .map (mput k x es c q).1 (mput k x es c q).2)], []⟩
  | .mapEntry t m k => (opd m).bind fun m => (opd k).bind fun k => (keyTy E t).bind fun d => (keyV d.1.k.agg d.1.eqs k).bind fun k => mapAt m fun r es c => (mfind d.1.k.agg d.1.eqs k es 0).bind fun q => match q with
    | some (j, b, v) => .pure ⟨.tup [v, av (.int .i64 b)], [(r, .map (es.set j (k, b, v)) c)], []⟩
    | none => (wrapT d.2.k.agg (d.2.zero.map av)).bind fun z => .pure ⟨.tup [z, av (.int .i64 c)], [(r, .map (es ++ [(k, c, z)]) (c + 1))], []⟩
  | .entryStore _ m s x => (opd m).bind fun m => (opd s).bind fun s => (opd x).bind fun x => (asI s).bind fun s => mapAt m fun r es c => (mstamp s.2 es 0).bind fun q => .pure ⟨av undef, [(r, .map (es.set q.1 (q.2, s.2.toNat, x)) c)], []⟩
  | .makeSlice t l c => (opd l).bind fun l => (opd c).bind fun c => (elemS E t).bind fun e => (ty E e).bind fun de => (asI l).bind fun l => (asI c).bind fun c => .chkT (0 ≤ l.2 ∧ l.2 ≤ c.2 ∧ de.bytes * c.2 ≤ 281474976710656 ∧ c.2 ≤ 9223372036854775807) (decide (0 ≤ l.2 ∧ l.2 ≤ c.2 ∧ de.bytes * c.2 ≤ 281474976710656 ∧ c.2 ≤ 9223372036854775807)) of_decide_eq_true (.pure ⟨.ra fresh 0 l.2.toNat, [], [(fresh, .rowA l.2.toNat de.size ((zeroL l.2.toNat de.zero).map av))]⟩)
  | .extract x i => (opd x).bind fun x => match x with
    | .tup vs => match vs[i]? with
      | some v => .pure ⟨v, [], []⟩
      | none => .fail 40
    | _ => .fail 41
  | .makeFunc f a b => (opds a.toList).bind fun a => (opds b.toList).bind fun b => .pure ⟨.fn f a b, [], []⟩
  | .call c => (opds c.args.toList).bind fun args => match c.callee with
    | .value f => (opd f).bind fun f => match f with
      | .fn (.func f) a b => match E.fs f with
        | some g => g (a ++ args ++ b) fresh
        | none => .fail 42
      | _ => .fail 43
    | .builtin .len => match c.argTypes.toList with
      | [t] => match args with
        | [x] => (ty E t).bind fun d => (lenOf d.k x).bind fun v => .pure ⟨v, [], []⟩
        | _ => .fail 45
      | _ => .fail 44
    | .builtin .append => match c.argTypes.toList with
      | [t, t'] => match args with
       | [x, y] => (elemS E t).bind fun e => (ty E e).bind fun de => (ty E t').bind fun d' => match isIntK d'.k with
        | true => appZ fresh de x y
        | false => match E.cl with
        | true => (srcA d'.k de.size y).bind fun q => need (Nat.blt 0 de.bytes && Nat.ble de.bytes 65536) (appA fresh de.size de.bytes x q)
        | false => (srcOf d'.k de.size y).bind fun q => need (Nat.blt 0 de.bytes && Nat.ble de.bytes 65536) (match x with
        | .d (.a (.slice none 0 0)) => .chkT (q.1 * de.bytes ≤ 35184372088832) (decide (q.1 * de.bytes ≤ 35184372088832)) of_decide_eq_true (.pure (newRow E dst fresh false q.1 de.size q.2))
        | .d (.vs true 0 _ _) => .chkT (q.1 * de.bytes ≤ 35184372088832) (decide (q.1 * de.bytes ≤ 35184372088832)) of_decide_eq_true (.pure (newRow E dst fresh false q.1 de.size q.2))
        | .rs r 0 len => .obj r fun
          | .row _ k c0 => need (Nat.beq k de.size) (.chkT ((len + q.1) * de.bytes ≤ 35184372088832) (decide ((len + q.1) * de.bytes ≤ 35184372088832)) of_decide_eq_true (.pure (outRow E dst fresh r (len + q.1) k (appC len c0 q.2))))
          | _ => .fail 47
        | _ => .fail 48)
       | _ => .fail 49
      | _ => .fail 72
    | .builtin .max => match args with
      | [.d (.a (.int k x)), .d (.a (.int _ y))] => .pure ⟨av (.int k (if y > x then y else x)), [], []⟩
      | _ => .fail 222
    | .builtin .min => match args with
      | [.d (.a (.int k x)), .d (.a (.int _ y))] => .pure ⟨av (.int k (if y < x then y else x)), [], []⟩
      | _ => .fail 223
    | .builtin .cap => match c.argTypes.toList with
      | t :: _ => match args with
        | [x] => (elemS E t).bind fun _ => match x with
          | .d (.a (.slice none 0 0)) => .pure ⟨av (.int .i64 0), [], []⟩
          | .d (.vs true n _ _) => .pure ⟨av (.int .i64 n), [], []⟩
          | _ => .fail 224
        | _ => .fail 225
      | _ => .fail 226
    | .builtin .delete => match c.argTypes.toList with
      | t :: _ => match args with
        | [m, k] => (keyTy E t).bind fun d => (keyV d.1.k.agg d.1.eqs k).bind fun k => mapAt m fun r es c => (mfind d.1.k.agg d.1.eqs k es 0).bind fun q => .pure ⟨av (.tuple #[]), [(r, .map (mdel es q) c)], []⟩
        | _ => .fail 227
      | _ => .fail 228
    | .builtin .clear => match c.argTypes.toList with
      | t :: _ => match args with
        | [m] => (keyTy E t).bind fun _ => mapAt m fun r _ c => .pure ⟨av (.tuple #[]), [(r, .map [] c)], []⟩
        | _ => .fail 229
      | _ => .fail 230
    | .builtin .copy => match c.argTypes.toList with
      | [t, t'] => match args with
        | [x, y] => (elemS E t).bind fun e => (ty E e).bind fun de => (ty E t').bind fun d' => (srcA d'.k de.size y).bind fun q => match x with
          | .ra r off len => match q.1 with
            | 0 => .pure ⟨av (.int .i64 0), [], []⟩
            | m + 1 => .obj r fun
              | .rowA n k cs => need (Nat.beq k de.size && Nat.ble (m + 1) len) (.pure ⟨av (.int .i64 (m + 1 : Nat)), [(r, .rowA n k (putL cs (off * k) q.2))], []⟩)
              | _ => .fail 231
          | _ => .fail 232
        | _ => .fail 233
      | _ => .fail 234
    | _ => .fail 50
  | _ => .fail 51
def guarded (ops : List Oper) (o : Oper) (m : RM Eff) : RM Eff := match o.guard with
  | none => m
  | some (j, want) => match (ops[j]?).bind (·.dst) with
    | none => .fail 52
    | some g => .slot g fun
      | .d (.a (.bool b)) => match want with
        | true => .br b m (.pure ⟨av undef, [], []⟩)
        | false => .br b (.pure ⟨av undef, [], []⟩) m
      | .d (.a (.tuple _)) => .pure ⟨av undef, [], []⟩
      | _ => .fail 53
/-- New objects have new names. -/
def addNew : Heap → Heap → (Heap → Prop) → Prop
  | [], h, K => K h
  | (r, o) :: l, h, K => match XM.get h r with
    | none => addNew l ((r, o) :: h) K
    | some _ => False
def setOld : Heap → Heap → Heap
  | [], h => h
  | x :: l, h => x :: setOld l h
/-- Values are worked out at once (each says k x). -/
def D.go (x : D) (k : D → Prop) : Prop := match x with
  | .a v => k (.a v)
  | .vs x n kk c => k (.vs x n kk c)
def AV.go0 (x : AV) (k : AV → Prop) : Prop := match x with
  | .d y => y.go fun y => k (.d y)
  | v => k v
def goL0 : List AV → (List AV → Prop) → Prop
  | [], k => k []
  | x :: l, k => x.go0 fun x => goL0 l fun l => k (x :: l)
def AV.go1 (x : AV) (k : AV → Prop) : Prop := match x with
  | .d y => y.go fun y => k (.d y)
  | .agg cs => goL0 cs fun cs => k (.agg cs)
  | v => k v
def goL1 : List AV → (List AV → Prop) → Prop
  | [], k => k []
  | x :: l, k => x.go1 fun x => goL1 l fun l => k (x :: l)
def AV.go (x : AV) (k : AV → Prop) : Prop := match x with
  | .d y => y.go fun y => k (.d y)
  | .agg cs => goL0 cs fun cs => k (.agg cs)
  | .tup cs => goL1 cs fun cs => k (.tup cs)
  | v => k v
def AO.go (x : AO) (k : AO → Prop) : Prop := match x with
  | .cells cs => goL0 cs fun cs => k (.cells cs)
  | o => k o
def goH : Heap → (Heap → Prop) → Prop
  | [], k => k []
  | (r, o) :: l, k => o.go fun o => goH l fun l => k ((r, o) :: l)
def setK : Heap → Heap → (Heap → Prop) → Prop
  | [], h, k => k h
  | x :: l, h, k => setK l h fun h => k (x :: h)
def regWp (ops : List Oper) : List Oper → Slots → Heap → (Slots → Heap → Prop) → Prop
  | [], s, h, K => K s h
  | o :: l, s, h, K => match o.dst with
    | some d => match Nat.blt d E.nt with
     | false => False
     | true => (guarded ops o (step E d d o.op)).wp s h fun
      | ⟨v, up, nw⟩ => v.go fun v => goH up fun up => goH nw fun nw => setK up h fun h => addNew nw h fun h => regWp ops l ((d, v) :: s) h K
    | none => (guarded ops o (step E 0 0 o.op)).wp s h fun
      | ⟨_, up, nw⟩ => goH up fun up => goH nw fun nw => setK up h fun h => addNew nw h fun h => regWp ops l s h K
end
/-- What a function answers. -/
def resR (E : Env) : List ResultVar → RM (List AV)
  | [] => .pure []
  | .tmp t :: l => .slot t fun v => (resR E l).bind fun vs => .pure (v :: vs)
  | .cell p t :: l => (step E 0 0 (.load t (.tmp p))).bind fun
    | .mk v _ _ => (resR E l).bind fun vs => .pure (v :: vs)
def pack : List AV → AV
  | [v] => v
  | vs => .tup vs
def argSlots : List AV → Nat → Slots
  | [], _ => []
  | v :: l, i => (i, v) :: argSlots l (i + 1)
/-! ### regions that draw their order -/
inductive Loc where
  | s (n : Nat)
  | o (r : Nat)
def Loc.eq : Loc → Loc → Bool
  | .s a, .s b => Nat.beq a b
  | .o a, .o b => Nat.beq a b
  | _, _ => false
/-- What an operation did: the slot that it wrote, with what; objects; what it read. -/
structure Rec where
  d : Option Nat
  v : AV
  up : Heap
  nw : Heap
  rd : List Loc
namespace RM
def wpL {α : Type} : RM α → Slots → Heap → List Loc → (α → List Loc → Prop) → Prop
  | .pure a, _, _, R, Q => Q a R
  | .fail _, _, _, _, _ => False
  | .slot n k, s, h, R, Q => match get s n with
    | some v => (k v).wpL s h (.s n :: R) Q
    | none => False
  | .obj r k, s, h, R, Q => match get h r with
    | some o => (k o).wpL s h (.o r :: R) Q
    | none => False
  | .new r k, s, h, R, Q => match get h r with
    | none => k.wpL s h (.o r :: R) Q
    | some _ => False
  | .chkT p _ _ k, s, h, R, Q => Chk p (k.wpL s h R Q)
  | .br b t e, s, h, R, Q => Br b (t.wpL s h R Q) (e.wpL s h R Q)
  | .ex k, s, h, R, Q => ∃ x, (k x).wpL s h R Q
end RM
def Rec.wr (r : Rec) : List Loc := (match r.d with | some d => [.s d] | none => []) ++ (r.up.map fun x => Loc.o x.1) ++ (r.nw.map fun x => Loc.o x.1)
def meets (a b : List Loc) : Bool := a.any fun x => b.any fun y => x.eq y
/-- Is operation i surely done ahead of j? -/
def ordB (ops : List Oper) : Nat → Nat → Nat → Bool
  | 0, _, _ => false
  | n + 1, i, j => match ops[j]? with
    | none => false
    | some o => o.after.toList.any fun e => Region.binds .any e && (Nat.beq e.on i || ordB ops n i e.on)
def apart (ops : List Oper) (i j : Nat) (a b : Rec) : Bool := ordB ops ops.length i j || !(meets a.wr b.wr || meets a.rd b.wr || meets a.wr b.rd)
/-- .. told at once in most cases. -/
def dirB (ops : List Oper) (i j : Nat) : Bool := match ops[j]? with
  | none => false
  | some o => o.after.toList.any fun e => Region.binds .any e && Nat.beq e.on i
def apartF (ops : List Oper) (i j : Nat) (a b : Rec) : Bool := match meets a.wr b.wr || meets a.rd b.wr || meets a.wr b.rd with
  | false => true
  | true => match dirB ops i j with
    | true => true
    | false => ordB ops ops.length i j
def apartAll (ops : List Oper) (i : Nat) (a : Rec) : Nat → List Rec → Bool
  | _, [] => true
  | j, b :: l => apartF ops i j a b && apartAll ops i a (j + 1) l
def noInt (ops : List Oper) : Nat → List Rec → Bool
  | _, [] => true
  | i, a :: l => apartAll ops i a (i + 1) l && noInt ops (i + 1) l
def edgesOk : Nat → List Oper → Bool
  | _, [] => true
  | i, o :: l => (o.after.toList.all fun e => !Region.binds .any e || Nat.blt e.on i) && edgesOk (i + 1) l
def regDr (E : Env) (ops : List Oper) : List Oper → Slots → Heap → List Rec → (Slots → Heap → Prop) → Prop
  | [], s, h, acc, K => Chk ((noInt ops 0 acc.reverse && edgesOk 0 ops) = true) (K s h)
  | o :: l, s, h, acc, K => match o.dst with
    | some d => match Nat.blt d E.nt with
      | false => False
      | true => (guarded ops o (step E d d o.op)).wpL s h [] fun e R => match e with
        | ⟨v, up, nw⟩ => v.go fun v => goH up fun up => goH nw fun nw => setK up h fun h => addNew nw h fun h => regDr E ops l ((d, v) :: s) h (⟨some d, v, up, nw, R⟩ :: acc) K
    | none => (guarded ops o (step E 0 0 o.op)).wpL s h [] fun e R => match e with
      | ⟨v, up, nw⟩ => v.go fun v => goH up fun up => goH nw fun nw => setK up h fun h => addNew nw h fun h => regDr E ops l s h (⟨none, v, up, nw, R⟩ :: acc) K
inductive Ex where
  | nrm
  | ext (id : Nat)
  | ret
/-- What is known may be forgotten; weak s h s' h': a state that is the first one is the second one. -/
abbrev WeakRel := Slots → Heap → Slots → Heap → Prop
def cwp (E : Env) (W : WeakRel) : Code → Slots → Heap → (Ex → Slots → Heap → Prop) → Prop
  | .skip, s, h, K => K .nrm s h
  | .region _ ops d, s, h, K => match d with
    | false => regWp E ops.toList ops.toList s h (K .nrm)
    | true => regDr E ops.toList ops.toList s h [] (K .nrm)
  | .seq a b, s, h, K => cwp E W a s h fun e s h => match e with
    | .nrm => cwp E W b s h K
    | e => K e s h
  | .cond c x y, s, h, K => ((opd c).bind asB).wp s h fun b => Br b (cwp E W x s h K) (cwp E W y s h K)
  | .block id c, s, h, K => cwp E W c s h fun e s h => match e with
    | .ext j => match Nat.beq j id with
      | true => K .nrm s h
      | false => K e s h
    | e => K e s h
  | .loop c, s, h, K => ∃ Inv : Nat → Slots → Heap → Prop, (∃ n s0 h0, W s h s0 h0 ∧ Inv n s0 h0) ∧ ∀ n s0 h0, Inv n s0 h0 → cwp E W c s0 h0 fun e s1 h1 => match e with
    | .nrm => ∃ m s2 h2, m < n ∧ W s1 h1 s2 h2 ∧ Inv m s2 h2
    | e => K e s1 h1
  | .exit id, s, h, K => K (.ext id) s h
  | .ret, s, h, K => K .ret s h
  | .label _, s, h, K => K .nrm s h
  | .scope c, s, h, K => cwp E W c s h K
  | _, _, _, _ => False
/-- A function's body, from its arguments to what holds of its answer. -/
def vfun (E : Env) (W : WeakRel) (c : Code) (rs : List ResultVar) (args : List AV) (h : Heap) (Post : AV → Heap → Prop) : Prop := cwp E W c (argSlots args 0) h fun e s h => match e with
  | .ext _ => False
  | _ => (resR E rs).wp s h fun vs => Post (pack vs) h
theorem D.go_eq (x : D) (k : D → Prop) : x.go k = k x := by cases x <;> rfl
theorem AV.go0_eq (x : AV) (k : AV → Prop) : x.go0 k = k x := by cases x <;> simp only [AV.go0, D.go_eq]
theorem goL0_eq : ∀ (l : List AV) (k : List AV → Prop), goL0 l k = k l
  | [], _ => rfl
  | x :: l, k => by rw [goL0, AV.go0_eq, goL0_eq l]
theorem AV.go1_eq (x : AV) (k : AV → Prop) : x.go1 k = k x := by cases x <;> simp only [AV.go1, D.go_eq, goL0_eq]
theorem goL1_eq : ∀ (l : List AV) (k : List AV → Prop), goL1 l k = k l
  | [], _ => rfl
  | x :: l, k => by rw [goL1, AV.go1_eq, goL1_eq l]
theorem AV.go_eq (x : AV) (k : AV → Prop) : x.go k = k x := by cases x <;> simp only [AV.go, D.go_eq, goL0_eq, goL1_eq]
theorem AO.go_eq (x : AO) (k : AO → Prop) : x.go k = k x := by cases x <;> simp only [AO.go, goL0_eq]
theorem goH_eq : ∀ (l : Heap) (k : Heap → Prop), goH l k = k l
  | [], _ => rfl
  | (r, o) :: l, k => by rw [goH, AO.go_eq, goH_eq l]
theorem setK_eq : ∀ (u h : Heap) (k : Heap → Prop), setK u h k = k (setOld u h)
  | [], _, _ => rfl
  | x :: l, h, k => by rw [setK, setK_eq l]; rfl
end Go.XM
