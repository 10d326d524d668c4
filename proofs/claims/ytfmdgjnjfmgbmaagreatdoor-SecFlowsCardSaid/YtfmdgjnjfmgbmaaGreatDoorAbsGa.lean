/-
  Abs0, Abs1, Abs2, Abs3, Abs4, Abs5, Abs6, Abs7, Abs8, Abs9, put together in one file.
-/
import Derived.Laws.Sem
import GoSem.Core.Utf8
import GoSem.Dispatch
import GoSem.Core.Region
import Derived.Below
import Derived.RowKit
import Derived.Laws.Cells
import Derived.Laws.IdiomCopy
import Derived.Laws.Strings
import Derived.Laws.StructEq
/-
  ABS, part 0: the abstract evaluator's words: values, heaps, slots, compiled operations and code. No program in sight.
  Inputs are inline trees (rslice, rptr, rmap: nobody writes them); what a run makes lies in a heap of its own under numbers of its own.
-/
namespace Go.Abs
open Go

/-- Two numbers that a run's inputs hold. -/
class Syms where
  a : Int
  b : Int

/-- What is reckoned out of the two numbers. -/
structure Poly where
  c : Int
  a : Int
  b : Int
  ab : Int
  deriving DecidableEq, Inhabited

def Poly.const (n : Int) : Poly := ⟨n, 0, 0, 0⟩
def Poly.at [Syms] (p : Poly) : Int := p.c + p.a * Syms.a + p.b * Syms.b + p.ab * (Syms.a * Syms.b)

/-- What is known of a number that isn't known: what it is reckoned out of, and between which bounds, and what is known of other reckonings; what its remainder by another is; its bounds alone. -/
inductive Sx where
  | num (k : IntKind) (p : Poly) (lo hi : Int) (fs : List (Poly × Int × Int))
  | rem (k : IntKind) (d : Int) (p : Poly) (lo hi : Int) (fs : List (Poly × Int × Int))
  | any (k : IntKind) (lo hi : Int)
  deriving DecidableEq, Inhabited

def Sx.kind : Sx → IntKind
  | .num k .. | .rem k .. | .any k .. => k

/-- What is known of some reckonings: their bounds. -/
def Facts [Syms] (fs : List (Poly × Int × Int)) : Prop := ∀ f ∈ fs, f.2.1 ≤ f.1.at ∧ f.1.at ≤ f.2.2

def Sx.Means [Syms] : Sx → Int → Prop
  | .num _ p lo hi fs, n => n = p.at ∧ lo ≤ n ∧ n ≤ hi ∧ Facts fs
  | .rem _ d p lo hi fs, n => 0 ≤ n ∧ n ≤ 255 ∧ n.tmod d = p.at ∧ lo ≤ p.at ∧ p.at ≤ hi ∧ Facts fs
  | .any _ lo hi, n => lo ≤ n ∧ n ≤ hi

inductive V where
  | bool (b : Bool)
  | int (k : IntKind) (n : Int)
  | str (s : List Nat)
  | nilPtr
  | ptr (b off : Nat)
  | rptr (row : List V) (off : Nat)
  | nilSlice
  | slice (b off len : Nat) (cap : Option Nat)
  | rslice (row : List V) (off len : Nat) (cap : Option Nat)
  | nilMap
  | map (b : Nat)
  | rmap (ks vs : List V)
  | func (fn : Fn) (first captured : List V)
  | nilFunc
  | iface (t : TypeId) (v : V)
  | nilIface
  | agg (cells : List V)
  | tuple (vs : List V)
  | sym (x : Sx)
  /-- A text; 256 stands for a digit. -/
  | sstr (s : List Nat)
  deriving Inhabited

def V.undef : V := .tuple []

def V.cells : V → List V
  | .agg cs => cs
  | v => [v]

def V.one : V → Bool
  | .agg _ | .tuple _ => false
  | _ => true

/-- Values that hold no memory: their meaning hangs on nothing. -/
def V.flat : V → Bool
  | .bool _ | .int .. | .str _ | .nilPtr | .nilSlice | .nilMap | .nilFunc | .nilIface | .sym _ | .sstr _ => true
  | .agg cs => flats cs
  | .tuple vs => flats vs
  | .iface _ v => v.flat
  | _ => false
where flats : List V → Bool
  | [] => true
  | v :: vs => v.flat && flats vs

/-- Not a loop's own function. -/
def plainFn : Fn → Bool
  | .yield _ => false
  | _ => true

/-- Values that name no object of the run's own heap. -/
def V.imm : V → Bool
  | .ptr .. | .slice .. | .map _ => false
  | .func f a b => plainFn f && imms a && imms b
  | .iface _ v => v.imm
  | .agg cs => imms cs
  | .tuple vs => imms vs
  | _ => true
where imms : List V → Bool
  | [] => true
  | v :: vs => v.imm && imms vs

/-- Kinds of single cells that can be held against each other, and be keys. -/
inductive CK where
  | bool
  | int (k : IntKind)
  | str
  deriving DecidableEq, Inhabited

def CK.fits : CK → V → Bool
  | .bool, .bool _ => true
  | .int k, .int k' _ => k == k'
  | .str, .str _ => true
  | _, _ => false

def fitsAll : List CK → List V → Bool
  | [], [] => true
  | k :: ks, v :: vs => k.fits v && fitsAll ks vs
  | _, _ => false

def V.same : V → V → Bool
  | .bool a, .bool b => a == b
  | .int _ a, .int _ b => a == b
  | .str a, .str b => a == b
  | _, _ => false

def sameAll : List V → List V → Bool
  | [], [] => true
  | x :: xs, y :: ys => x.same y && sameAll xs ys
  | _, _ => false

/-! Tries: maps from numbers. -/
inductive T (α : Type) where
  | leaf
  | node (v : Option α) (l r : T α)
  deriving Inhabited

/-- A finite map from numbers, as a trie: place 0 is the root, i odd goes left, i even right. -/
def T.get {α : Type} : T α → Nat → Option α
  | .leaf, _ => none
  | .node v l r, i => if i = 0 then v else if i % 2 = 1 then l.get (i / 2) else r.get (i / 2 - 1)

def T.setN {α : Type} (v : Option α) : Nat → T α → Nat → T α
  | 0, t, _ => t
  | n + 1, .leaf, i => if i = 0 then .node v .leaf .leaf else if i % 2 = 1 then .node none (setN v n .leaf (i / 2)) .leaf else .node none .leaf (setN v n .leaf (i / 2 - 1))
  | n + 1, .node u l r, i => if i = 0 then .node v l r else if i % 2 = 1 then .node u (setN v n l (i / 2)) r else .node u l (setN v n r (i / 2 - 1))

def T.put {α : Type} (t : T α) (i : Nat) (v : Option α) : T α := T.setN v (i + 1) t i
def T.set {α : Type} (t : T α) (i : Nat) (v : α) : T α := t.put i (some v)

theorem T.get_setN {α : Type} (v : Option α) : ∀ (n : Nat) (t : T α) (i j : Nat), i < n → (T.setN v n t i).get j = if j = i then v else t.get j := by
  intro n
  induction n with
  | zero => intro t i j h; omega
  | succ n ih =>
    intro t i j h
    by_cases hj : j = 0
    · subst hj
      by_cases hi : i = 0
      · subst hi; cases t <;> simp [T.setN, T.get]
      · cases t <;> by_cases h1 : i % 2 = 1 <;> simp [T.setN, T.get, hi, h1, Ne.symm hi]
    · by_cases hi : i = 0
      · subst hi; cases t <;> simp [T.setN, T.get, hj]
      · by_cases h1 : i % 2 = 1 <;> by_cases hj1 : j % 2 = 1
        · have e : (j / 2 = i / 2) = (j = i) := propext ⟨fun _ => by omega, fun _ => by omega⟩
          cases t <;> simp [T.setN, T.get, hj, hi, h1, hj1, ih _ (i / 2) (j / 2) (by omega), e]
        · have e : ¬ j = i := fun e => by omega
          cases t <;> simp [T.setN, T.get, hj, hi, h1, hj1, e]
        · have e : ¬ j = i := fun e => by omega
          cases t <;> simp [T.setN, T.get, hj, hi, h1, hj1, e]
        · have e : (j / 2 - 1 = i / 2 - 1) = (j = i) := propext ⟨fun _ => by omega, fun _ => by omega⟩
          cases t <;> simp [T.setN, T.get, hj, hi, h1, hj1, ih _ (i / 2 - 1) (j / 2 - 1) (by omega), e]

theorem T.setN_comm {α : Type} (u v : Option α) : ∀ (n m : Nat) (t : T α) (i j : Nat), i < n → j < m → i ≠ j → T.setN v n (T.setN u m t j) i = T.setN u m (T.setN v n t i) j := by
  intro n
  induction n with
  | zero => intro m t i j h; omega
  | succ n ih =>
    intro m t i j h hm ne
    cases m with
    | zero => omega
    | succ m =>
      by_cases hi : i = 0
      · subst hi
        have hj : ¬ j = 0 := fun e => ne e.symm
        by_cases h1 : j % 2 = 1 <;> cases t <;> simp [T.setN, hj, h1]
      · by_cases hj : j = 0
        · subst hj
          by_cases h1 : i % 2 = 1 <;> cases t <;> simp [T.setN, hi, h1]
        · by_cases h1 : i % 2 = 1 <;> by_cases h2 : j % 2 = 1
          · cases t <;> simp [T.setN, hi, hj, h1, h2, ih m _ (i / 2) (j / 2) (by omega) (by omega) (by omega)]
          · cases t <;> simp [T.setN, hi, hj, h1, h2]
          · cases t <;> simp [T.setN, hi, hj, h1, h2]
          · cases t <;> simp [T.setN, hi, hj, h1, h2, ih m _ (i / 2 - 1) (j / 2 - 1) (by omega) (by omega) (by omega)]

theorem T.get_put {α : Type} (t : T α) (i j : Nat) (v : Option α) : (t.put i v).get j = if j = i then v else t.get j := T.get_setN v _ t i j (by omega)
theorem T.get_put_eq {α : Type} (t : T α) (i : Nat) (v : Option α) : (t.put i v).get i = v := by rw [T.get_put, if_pos rfl]
theorem T.get_put_ne {α : Type} (t : T α) {i j : Nat} (v : Option α) (h : j ≠ i) : (t.put i v).get j = t.get j := by rw [T.get_put, if_neg h]
theorem T.get_set {α : Type} (t : T α) (i j : Nat) (v : α) : (t.set i v).get j = if j = i then some v else t.get j := T.get_put t i j _
theorem T.get_set_eq {α : Type} (t : T α) (i : Nat) (v : α) : (t.set i v).get i = some v := T.get_put_eq t i _
theorem T.get_set_ne {α : Type} (t : T α) {i j : Nat} (v : α) (h : j ≠ i) : (t.set i v).get j = t.get j := T.get_put_ne t _ h
theorem T.put_comm {α : Type} (t : T α) {i j : Nat} (u v : Option α) (h : i ≠ j) : (t.put j u).put i v = (t.put i v).put j u := T.setN_comm u v _ _ t i j (by omega) (by omega) h
theorem T.get_leaf {α : Type} (i : Nat) : (T.leaf : T α).get i = none := by cases i <;> rfl

end Go.Abs

/-
  ABS, part 1: what one compiled operation does, and how compiled code runs. No program in sight: sizes and zero values stand in the operations.
-/
namespace Go.Abs
open Go

inductive AObj where
  | cells (cs : List V) (esz fz : Nat) (spent : Bool)
  | map (es : List (V × V × Nat)) (clock : Nat) (frozen : Bool)
  | mapIter (m : Option Nat) (since : Nat) (seen : List Nat) (last : Nat)
  | rmapIter (ks vs : List V) (seen : List Nat)
  /-- What is left of a text, and how far it has been gone through. -/
  | strIter (s : List Nat) (pos : Nat)
  /-- A loop over a function: is a round on? -/
  | loop (busy : Bool)
  /-- The block for the calls that a loop's rounds put off: none. -/
  | shut
  deriving Inhabited

abbrev Heap := T AObj
abbrev Env := T V

/-- Operands. -/
inductive X where
  | tmp (t : Nat)
  | const (v : V)
  deriving Inhabited

def Env.at (e : Env) (t : Nat) : V := match e.get t with | some v => v | none => V.undef
def X.val (e : Env) : X → V
  | .tmp t => e.at t
  | .const v => v

/-- What '==' holds against each other. -/
inductive EqK where
  | flat (agg : Bool) (ks : List CK)
  | ptrNil | sliceNil | mapNil | funcNil | ifaceNil
  deriving Inhabited

/-- A key's type: a struct or array, or not; its cells' kinds. -/
structure KT where
  agg : Bool
  ks : List CK
  deriving Inhabited

inductive I where
  | mov (x : X)
  | pick (c a b : X)
  | new (cs : List V)
  | box (x : X)
  | build (zero : List V) (parts : List (Nat × Nat × X))
  | buildSlice (cells : List V) (esz len : Nat) (parts : List (Nat × Nat × X))
  | load (agg : Bool) (n : Nat) (a : X)
  | store (n : Nat) (a x : X)
  | nilCheck (x : X)
  | bin (op : BinOp) (x y : X)
  | eq (k : EqK) (neg : Bool) (x y : X)
  | un (op : UnOp) (x : X)
  | convI (k : IntKind) (x : X)
  | convId (x : X)
  | bytesOf (x : X)
  | strOf (x : X)
  | iface (t : TypeId) (x : X)
  | func (fn : Fn) (first captured : List X)
  | mkMap (hint : Option X)
  | mkSlice (zero : List V) (esz bytes : Nat) (len cap : X)
  | sliceS (x : X) (lo hi : Option X)
  | sliceL (esz : Nat) (x : X) (lo hi mx : Option X)
  | fieldAddr (off : Nat) (x : X)
  | field (agg : Bool) (n off : Nat) (x : X)
  | indexAddrS (esz : Nat) (x i : X)
  | indexAddrA (esz len : Nat) (x i : X)
  | indexA (agg : Bool) (esz len : Nat) (x i : X)
  | indexStr (x i : X)
  | lookup (kt : KT) (zero : V) (ok : Bool) (x k : X)
  | mapSet (kt : KT) (m k v : X)
  | rangeM (x : X)
  | rangeS (x : X)
  | nextS (it : X)
  | nextM (it : X)
  | entry (it : X)
  | assertC (t : TypeId) (zero : V) (ok : Bool) (x : X)
  | extract (i : Nat) (x : X)
  | lenStr (x : X)
  | lenSlice (x : X)
  | lenMap (x : X)
  | append (esz bytes : Nat) (s x : X)
  | copy (esz : Nat) (d s : X)
  | delete (kt : KT) (m k : X)
  | minmax (max : Bool) (x y : X)
  | call (f : X) (args : List X)
  | recover
  | defer (f : X) (args : List X)
  | panic (x : X)
  | runeS (x : X)
  | bad
  deriving Inhabited

/-- What an operation comes to: an object that is written anew or dropped, one that is made under the number it is handed, and its value. -/
structure Eff where
  upd : Option (Nat × Option AObj) := none
  new : Option AObj := none
  val : V

def Eff.heap (e : Eff) (id : Nat) (h : Heap) : Heap :=
  let h := match e.upd with | some (b, o) => h.put b o | none => h
  match e.new with | some o => h.set id o | none => h

abbrev View := Nat → Option AObj

def cellsAt (row : List V) (off n : Nat) : Option (List V) := if off + n ≤ row.length then some ((row.drop off).take n) else none

/-- n cells from a place on. -/
def readAt (g : View) (p : V) (n : Nat) : Option (List V) :=
  match p with
  | .ptr b off => match g b with | some (.cells cs _ _ _) => cellsAt cs off n | _ => none
  | .rptr row off => cellsAt row off n
  | _ => none

def putAt (cs : List V) (off : Nat) (vs : List V) : List V := cs.take off ++ vs ++ cs.drop (off + vs.length)

/-- One value of n cells. -/
def ofCells (agg : Bool) (cs : List V) : Option V :=
  if agg then some (.agg cs) else match cs with | [v] => some v | _ => none

def vlen : V → Option Nat
  | .nilSlice => some 0
  | .slice _ _ n _ => some n
  | .rslice _ _ n _ => some n
  | .str s => some s.length
  | _ => none

/-- A slice's (or text's) first n elements' cells. -/
def firstCells (g : View) (esz n : Nat) : V → Option (List V)
  | .nilSlice => if n = 0 then some [] else none
  | .slice b off len _ => if n ≤ len then (match g b with | some (.cells cs e _ _) => if e = esz then cellsAt cs off (n * esz) else none | _ => none) else none
  | .rslice row off len _ => if n ≤ len then cellsAt row off (n * esz) else none
  | .str s => if esz = 1 ∧ n ≤ s.length then some ((s.take n).map fun b : Nat => V.int .u8 b) else none
  | _ => none

def fillIn (cells : List V) : List (Nat × Nat × V) → Option (List V)
  | [] => some cells
  | (off, size, v) :: rest =>
    if v.cells.length = size ∧ off + size ≤ cells.length ∧ v.cells.all V.one then fillIn (putAt cells off v.cells) rest else none

def intOf : V → Option (IntKind × Int)
  | .int k n => some (k, n)
  | _ => none

/-- Sums of lengths beyond this are not gone into. -/
def roomy : Nat := 2 ^ 40

def bytesLess : List Nat → List Nat → Bool
  | _, [] => false
  | [], _ :: _ => true
  | a :: x, b :: y => Nat.blt a b || (Nat.beq a b && bytesLess x y)

def strOp (op : BinOp) (x y : List Nat) : Option V :=
  match op with
  | .add => if x.length + y.length ≤ roomy then some (.str (x ++ y)) else none
  | .eql => some (.bool (x == y))
  | .neq => some (.bool !(x == y))
  | .lss => some (.bool (bytesLess x y))
  | .leq => some (.bool (bytesLess x y || x == y))
  | .gtr => some (.bool !(bytesLess x y || x == y))
  | .geq => some (.bool !(bytesLess x y))
  | _ => none

def intOp (op : BinOp) (k : IntKind) (a b : Int) : Option V :=
  match op with
  | .add => some (.int k (k.wrap (a + b)))
  | .sub => some (.int k (k.wrap (a - b)))
  | .mul => some (.int k (k.wrap (a * b)))
  | .quo => if b = 0 then none else some (.int k (k.wrap (a.tdiv b)))
  | .rem => if b = 0 then none else some (.int k (a.tmod b))
  | .and => some (.int k (k.wrap (BitVec.ofInt k.bits a &&& BitVec.ofInt k.bits b).toNat))
  | .or => some (.int k (k.wrap (BitVec.ofInt k.bits a ||| BitVec.ofInt k.bits b).toNat))
  | .xor => some (.int k (k.wrap (BitVec.ofInt k.bits a ^^^ BitVec.ofInt k.bits b).toNat))
  | .andNot => some (.int k (k.wrap (BitVec.ofInt k.bits a &&& ~~~ BitVec.ofInt k.bits b).toNat))
  | .eql => some (.bool (a == b))
  | .neq => some (.bool (a != b))
  | .lss => some (.bool (decide (a < b)))
  | .leq => some (.bool (decide (a ≤ b)))
  | .gtr => some (.bool (decide (a > b)))
  | .geq => some (.bool (decide (a ≥ b)))
  | _ => none

def shiftOp (op : BinOp) (k : IntKind) (a b : Int) : Option V :=
  if b < 0 then none else
    match op with
    | .shl => some (.int k (k.wrap (a * 2 ^ (min b.toNat k.bits))))
    | .shr => some (.int k (a.fdiv (2 ^ (min b.toNat k.bits))))
    | _ => none

/-! Numbers that aren't known, and texts with digits that aren't. -/
/-- Up to here a kind's numbers are themselves. -/
def limOf : IntKind → Int
  | .i8 => 128
  | .i16 => 32768
  | .i32 => 2147483648
  | .i64 => 9223372036854775808
  | .u8 => 256
  | .u16 => 65536
  | .u32 => 4294967296
  | .u64 => 18446744073709551616

def Sx.bnd : Sx → Int × Int
  | .num _ _ lo hi _ | .any _ lo hi => (lo, hi)
  | .rem .. => (0, 255)

def mkNum (k : IntKind) (p : Poly) (lo hi : Int) (fs : List (Poly × Int × Int)) : V := if p.a = 0 ∧ p.b = 0 ∧ p.ab = 0 then .int k p.c else .sym (.num k p lo hi fs)
/-- The tighter bounds. -/
def tight (fs : List (Poly × Int × Int)) (p : Poly) (lo hi : Int) : Int × Int := match fs.find? fun f => decide (f.1 = p) with
  | some f => (if lo ≤ f.2.1 then f.2.1 else lo, if f.2.2 ≤ hi then f.2.2 else hi)
  | none => (lo, hi)
def fitNum (k : IntKind) (p : Poly) (b : Int × Int) (fs : List (Poly × Int × Int)) : Option V := if 0 ≤ b.1 ∧ b.2 < limOf k then some (mkNum k p b.1 b.2 fs) else none
def pickF (fs gs : List (Poly × Int × Int)) : List (Poly × Int × Int) := if fs.isEmpty then gs else fs
def Poly.add (p q : Poly) : Poly := ⟨p.c + q.c, p.a + q.a, p.b + q.b, p.ab + q.ab⟩
def Poly.mul (p q : Poly) : Option Poly :=
  if p.a * q.a = 0 ∧ p.b * q.b = 0 ∧ p.ab * q.ab = 0 ∧ p.a * q.ab + p.ab * q.a = 0 ∧ p.b * q.ab + p.ab * q.b = 0 then
    some ⟨p.c * q.c, p.c * q.a + p.a * q.c, p.c * q.b + p.b * q.c, p.c * q.ab + p.ab * q.c + (p.a * q.b + p.b * q.a)⟩ else none

/-- What bounds tell. -/
def cmpB (op : BinOp) (x y : Int × Int) : Option Bool := match op with
  | .lss => if x.2 < y.1 then some true else if y.2 ≤ x.1 then some false else none
  | .leq => if x.2 ≤ y.1 then some true else if y.2 < x.1 then some false else none
  | .gtr => if y.2 < x.1 then some true else if x.2 ≤ y.1 then some false else none
  | .geq => if y.2 ≤ x.1 then some true else if x.2 < y.1 then some false else none
  | .eql => if x.2 < y.1 ∨ y.2 < x.1 then some false else none
  | .neq => if x.2 < y.1 ∨ y.2 < x.1 then some true else none
  | _ => none

/-- Are they the same, whatever they are? -/
def Sx.alike : Sx → Sx → Bool
  | .num _ p .., .num _ q .. => decide (p = q)
  | _, _ => false

def symCmp (op : BinOp) (x y : Sx) : Option Bool :=
  if x.alike y then (match op with | .eql | .leq | .geq => some true | .neq | .lss | .gtr => some false | _ => none) else cmpB op x.bnd y.bnd

def symNum (op : BinOp) (x y : Sx) : Option V := match x, y with
  | .num k p lo hi fs, .num _ q lo' hi' gs => match op with
    | .add => fitNum k (p.add q) (tight (pickF fs gs) (p.add q) (lo + lo') (hi + hi')) (pickF fs gs)
    | .mul => if 0 ≤ lo ∧ 0 ≤ lo' then (p.mul q).bind fun r => fitNum k r (tight (pickF fs gs) r (lo * lo') (hi * hi')) (pickF fs gs) else none
    | _ => none
  | .rem k d p lo hi fs, .num _ q _ _ _ => match op with
    | .rem => if q = Poly.const d ∧ d ≠ 0 then some (mkNum k p lo hi fs) else none
    | _ => none
  | _, _ => none

def symOp (op : BinOp) (x y : Sx) : Option V :=
  if x.kind = y.kind then (match symCmp op x y with | some b => some (.bool b) | none => symNum op x y) else none

def symConv (k : IntKind) : Sx → Option V
  | .num _ p lo hi fs => if 0 ≤ lo ∧ hi < limOf k then some (.sym (.num k p lo hi fs)) else none
  | .rem _ d p lo hi fs => if 255 < limOf k then some (.sym (.rem k d p lo hi fs)) else none
  | .any _ lo hi => if 0 ≤ lo ∧ hi < limOf k then some (.sym (.any k lo hi)) else none

def V.sx : V → Option Sx
  | .int k n => some (.num k (.const n) n n [])
  | .sym x => some x
  | _ => none

def symMax (max : Bool) (u v : V) : Option V := match u.sx, v.sx with
  | some x, some y => if x.kind = y.kind then
      (if x.bnd.2 ≤ y.bnd.1 then some (if max then v else u) else if y.bnd.2 ≤ x.bnd.1 then some (if max then u else v) else none) else none
  | _, _ => none

def clash1 (c d : Nat) : Bool := if c = 256 then (d != 256 && (Nat.blt d 48 || Nat.blt 57 d)) else if d = 256 then (Nat.blt c 48 || Nat.blt 57 c) else c != d
/-- Two texts that can't be the same. -/
def clash : List Nat → List Nat → Bool
  | [], [] => false
  | c :: l, d :: r => clash1 c d || clash l r
  | _, _ => true

def sstrOp (op : BinOp) (x y : List Nat) : Option V := match op with
  | .add => if x.length + y.length ≤ roomy then some (.sstr (x ++ y)) else none
  | .eql => if clash x y then some (.bool false) else none
  | .neq => if clash x y then some (.bool true) else none
  | _ => none

def binOp (op : BinOp) (x y : V) : Option V :=
  match x, y with
  | .int k a, .int k' b => match op with
    | .shl => shiftOp .shl k a b
    | .shr => shiftOp .shr k a b
    | op => if k = k' then intOp op k a b else none
  | .str a, .str b => strOp op a b
  | .sym x, .sym y => symOp op x y
  | .sym x, .int k n => symOp op x (.num k (.const n) n n [])
  | .int k n, .sym y => symOp op (.num k (.const n) n n []) y
  | .sstr a, .sstr b => sstrOp op a b
  | .sstr a, .str b => sstrOp op a b
  | .str a, .sstr b => sstrOp op a b
  | _, _ => none

def unOp (op : UnOp) (x : V) : Option V :=
  match op, x with
  | .neg, .int k n => some (.int k (k.wrap (0 - n)))
  | .xor, .int k n => some (.int k (k.wrap (BitVec.ofInt k.bits (if k.signed then -1 else k.max) ^^^ BitVec.ofInt k.bits n).toNat))
  | .not, .bool b => some (.bool !b)
  | _, _ => none

def eqOp (k : EqK) (x y : V) : Option Bool :=
  match k, x, y with
  | .flat agg ks, x, y => match agg, x, y with
    | true, .agg a, .agg b => if fitsAll ks a && fitsAll ks b then some (sameAll a b) else none
    | false, .bool a, .bool b => match ks with | [.bool] => some (a == b) | _ => none
    | _, _, _ => none
  | .ptrNil, .nilPtr, .nilPtr => some true
  | .ptrNil, .ptr .., .nilPtr | .ptrNil, .rptr .., .nilPtr | .ptrNil, .nilPtr, .ptr .. | .ptrNil, .nilPtr, .rptr .. => some false
  | .sliceNil, .nilSlice, .nilSlice => some true
  | .sliceNil, .slice .., .nilSlice | .sliceNil, .rslice .., .nilSlice | .sliceNil, .nilSlice, .slice .. | .sliceNil, .nilSlice, .rslice .. => some false
  | .mapNil, .nilMap, .nilMap => some true
  | .mapNil, .map .., .nilMap | .mapNil, .rmap .., .nilMap => some false
  | .funcNil, .nilFunc, .nilFunc => some true
  | .funcNil, .func .., .nilFunc | .funcNil, .nilFunc, .func .. => some false
  | .ifaceNil, .nilIface, .nilIface => some true
  | .ifaceNil, .iface .., .nilIface | .ifaceNil, .nilIface, .iface .. => some false
  | _, _, _ => none

def KT.fits (kt : KT) (k : V) : Bool :=
  match kt.agg, k with
  | true, .agg cs => fitsAll kt.ks cs
  | true, _ => false
  | false, .agg _ => false
  | false, v => fitsAll kt.ks [v]

/-- Where a key is among entries. -/
def findE (k : List V) : List (V × V × Nat) → Nat → Option (Nat × V)
  | [], _ => none
  | (k', v, _) :: es, i => if sameAll k k'.cells then some (i, v) else findE k es (i + 1)

def findR (k : List V) : List V → List V → Option V
  | k' :: ks, v :: vs => if sameAll k k'.cells then some v else findR k ks vs
  | _, _ => none

def lookupV (g : View) (kt : KT) (x k : V) : Option (Option V) :=
  if !kt.fits k then none else
  match x with
  | .nilMap => some none
  | .rmap ks vs => if ks.all kt.fits && ks.length == vs.length then some (findR k.cells ks vs) else none
  | .map b => match g b with
    | some (.map es _ _) => if es.all (fun e => kt.fits e.1) then some ((findE k.cells es 0).map (·.2)) else none
    | _ => none
  | _ => none

def bound (e : Env) (x : Option X) (d most : Nat) : Option Nat :=
  match x with
  | none => some d
  | some x => match x.val e with
    | .int _ i => if 0 ≤ i ∧ i ≤ most then some i.toNat else none
    | _ => none

def decodeAt (s : List Nat) (i : Nat) : Nat × Nat :=
  let at' (k : Nat) : Nat := s.getD (i + k) 0
  let cont (k : Nat) : Bool := i + k < s.length && at' k / 64 == 2
  let b0 := at' 0
  if b0 < 0x80 then (b0, 1)
  else if b0 / 32 == 6 && cont 1 then
    let c := (b0 % 32) * 64 + at' 1 % 64
    if c ≥ 0x80 then (c, 2) else (Utf8.runeError, 1)
  else if b0 / 16 == 14 && cont 1 && cont 2 then
    let c := (b0 % 16) * 4096 + (at' 1 % 64) * 64 + at' 2 % 64
    if c ≥ 0x800 && Utf8.valid c then (c, 3) else (Utf8.runeError, 1)
  else if b0 / 8 == 30 && cont 1 && cont 2 && cont 3 then
    let c := (b0 % 8) * 262144 + (at' 1 % 64) * 4096 + (at' 2 % 64) * 64 + at' 3 % 64
    if c ≥ 0x10000 && Utf8.valid c then (c, 4) else (Utf8.runeError, 1)
  else (Utf8.runeError, 1)

def bytesIn : List V → Option (List Nat)
  | [] => some []
  | .int .u8 n :: r => if 0 ≤ n ∧ n < 256 then (bytesIn r).map (n.toNat :: ·) else none
  | _ => none

def isStr : V → Bool
  | .str _ => true
  | _ => false

def evAppend (g : View) (id esz bytes : Nat) (s x : V) : Option Eff :=
  if isStr s then none else
  match vlen s, vlen x with
  | some ls, some n =>
    match firstCells g esz ls s, firstCells g esz n x with
    | some old, some new =>
      if n = 0 then some { val := s } else
      if (ls + n) * (bytes + 1) ≤ roomy ∧ 0 < esz then
        let fresh : Eff := { new := some (.cells (old ++ new) esz 0 false), val := .slice id 0 (ls + n) none }
        match s with
        | .nilSlice => some fresh
        | .rslice _ _ _ (some c) => if ls + n ≤ c then none else some fresh
        | .slice b off _ cap => match g b with
          | some (.cells cs e fz spent) =>
            if spent then none
            else match cap with
              | some c =>
                if ls + n ≤ c then
                  if fz ≤ off + ls * esz ∧ off + (ls + n) * esz ≤ cs.length then some { upd := some (b, some (.cells (putAt cs (off + ls * esz) new) e fz false)), val := .slice b off (ls + n) (some c) } else none
                else some fresh
              | none =>
                if off + ls * esz = cs.length then
                  some { upd := some (b, if fz = cs.length then some (.cells cs e fz true) else none)
                         new := some (.cells (old ++ new) esz (fz - off) false), val := .slice id 0 (ls + n) none }
                else if fz ≤ off + ls * esz then
                  if off + (ls + n) * esz ≤ cs.length then some { upd := some (b, some (.cells (putAt cs (off + ls * esz) new) e fz false)), val := .slice b off (ls + n) none }
                  else none
                else none
          | _ => none
        | _ => none
      else none
    | _, _ => none
  | _, _ => none

def evCopy (g : View) (esz : Nat) (d s : V) : Option Eff :=
  if isStr d || esz == 0 then none else
  match vlen d, vlen s with
  | some ld, some ls =>
    let n := min ls ld
    match firstCells g esz n s with
    | some cs =>
      if n = 0 then some { val := .int .i64 0 } else
      match d with
      | .slice b off _ _ => match g b with
        | some (.cells old e fz false) =>
          if e = esz ∧ fz ≤ off ∧ off + cs.length ≤ old.length then some { upd := some (b, some (.cells (putAt old off cs) e fz false)), val := .int .i64 n } else none
        | _ => none
      | _ => none
    | none => none
  | _, _ => none

def evSlice (g : View) (e : Env) (esz : Nat) (x : V) (lo hi mx : Option X) : Option V :=
  match x with
  | .nilSlice => (bound e mx 0 0).bind fun m => (bound e hi 0 m).bind fun h => (bound e lo 0 h).bind fun _ => some .nilSlice
  | .slice b off len cap =>
    (match g b with | some (.cells _ es _ _) => if es = esz then some () else none | _ => none).bind fun _ => match mx with
    | none => (bound e hi len (cap.getD len)).bind fun h => (bound e lo 0 h).bind fun l => some (.slice b (off + l * esz) (h - l) (cap.map (· - l)))
    | some _ => (bound e mx 0 (cap.getD len)).bind fun m => (bound e hi len m).bind fun h => (bound e lo 0 h).bind fun l => some (.slice b (off + l * esz) (h - l) (some (m - l)))
  | .rslice row off len cap =>
    match mx with
    | none => (bound e hi len len).bind fun h => (bound e lo 0 h).bind fun l => some (.rslice row (off + l * esz) (h - l) (cap.map (· - l)))
    | some _ => (bound e mx 0 len).bind fun m => (bound e hi len m).bind fun h => (bound e lo 0 h).bind fun l => some (.rslice row (off + l * esz) (h - l) (some (m - l)))
  | _ => none

/-- One operation, but for calls, recover, defer, panic and steps over maps. -/
def evI (g : View) (id : Nat) (e : Env) : I → Option Eff
  | .mov x => some { val := x.val e }
  | .pick c a b => match c.val e with | .bool t => some { val := if t then a.val e else b.val e } | _ => none
  | .new cs => some { new := some (.cells cs cs.length 0 false), val := .ptr id 0 }
  | .box x => let v := x.val e
    if v.cells.all V.one then some { new := some (.cells v.cells v.cells.length 0 false), val := .ptr id 0 } else none
  | .build zero parts => (fillIn zero (parts.map fun p => (p.1, p.2.1, p.2.2.val e))).map fun cs => { val := .agg cs }
  | .buildSlice cells esz len parts => (fillIn cells (parts.map fun p => (p.1, p.2.1, p.2.2.val e))).map fun cs =>
      { new := some (.cells cs esz 0 false), val := .slice id 0 len (some len) }
  | .load agg n a => (readAt g (a.val e) n).bind fun cs => (ofCells agg cs).map fun v => { val := v }
  | .store n a x => match a.val e with
    | .ptr b off => match g b with
      | some (.cells cs esz fz false) =>
        let vs := (x.val e).cells
        if vs.length = n ∧ fz ≤ off ∧ off + n ≤ cs.length ∧ vs.all V.one then some { upd := some (b, some (.cells (putAt cs off vs) esz fz false)), val := V.undef } else none
      | _ => none
    | _ => none
  | .nilCheck x => match x.val e with
    | .ptr b off => some { val := .ptr b off }
    | .rptr row off => some { val := .rptr row off }
    | .func (.func f) a b => some { val := .func (.func f) a b }
    | .iface t v => some { val := .iface t v }
    | _ => none
  | .bin op x y => (binOp op (x.val e) (y.val e)).map fun v => { val := v }
  | .eq k neg x y => (eqOp k (x.val e) (y.val e)).map fun b => { val := .bool (if neg then !b else b) }
  | .un op x => (unOp op (x.val e)).map fun v => { val := v }
  | .convI k x => match x.val e with | .int _ n => some { val := .int k (k.wrap n) } | .sym x => (symConv k x).map fun v => { val := v } | _ => none
  | .convId x => match x.val e with | .str s => some { val := .str s } | _ => none
  | .bytesOf x => match x.val e with
    | .str s => if s.length ≤ roomy then some { new := some (.cells (s.map fun b : Nat => V.int .u8 b) 1 0 false), val := .slice id 0 s.length none } else none
    | _ => none
  | .strOf x => match vlen (x.val e), x.val e with
    | some _, .str _ => none
    | some n, v => (firstCells g 1 n v).bind fun cs => (bytesIn cs).map fun s => { val := .str s }
    | none, _ => none
  | .iface t x => some { val := .iface t (x.val e) }
  | .func fn first captured => some { val := .func fn (first.map (X.val e)) (captured.map (X.val e)) }
  | .mkMap hint => match hint with
    | none => some { new := some (.map [] 0 false), val := .map id }
    | some x => match x.val e with | .int .. => some { new := some (.map [] 0 false), val := .map id } | _ => none
  | .mkSlice zero esz bytes len cap => match len.val e, cap.val e with
    | .int _ l, .int _ c => if 0 ≤ l ∧ l ≤ c ∧ c * (bytes + 1) ≤ (roomy : Int) ∧ zero.length = esz then
        some { new := some (.cells ((List.replicate c.toNat zero).flatten) esz 0 false), val := .slice id 0 l.toNat (some c.toNat) } else none
    | _, _ => none
  | .sliceS x lo hi => match x.val e with
    | .str s => (bound e hi s.length s.length).bind fun h => (bound e lo 0 h).bind fun l => some { val := .str ((s.take h).drop l) }
    | _ => none
  | .sliceL esz x lo hi mx => (evSlice g e esz (x.val e) lo hi mx).map fun v => { val := v }
  | .fieldAddr off x => match x.val e with
    | .ptr b o => some { val := .ptr b (o + off) }
    | .rptr row o => some { val := .rptr row (o + off) }
    | _ => none
  | .field agg n off x => match x.val e with
    | .agg cs => (cellsAt cs off n).bind fun cs => (ofCells agg cs).map fun v => { val := v }
    | _ => none
  | .indexAddrS esz x i => match x.val e, i.val e with
    | .slice b off len _, .int _ n => if 0 ≤ n ∧ n < len then some { val := .ptr b (off + n.toNat * esz) } else none
    | .rslice row off len _, .int _ n => if 0 ≤ n ∧ n < len then some { val := .rptr row (off + n.toNat * esz) } else none
    | _, _ => none
  | .indexAddrA esz len x i => match x.val e, i.val e with
    | .ptr b off, .int _ n => if 0 ≤ n ∧ n < len then some { val := .ptr b (off + n.toNat * esz) } else none
    | .rptr row off, .int _ n => if 0 ≤ n ∧ n < len then some { val := .rptr row (off + n.toNat * esz) } else none
    | _, _ => none
  | .indexA agg esz len x i => match x.val e, i.val e with
    | .agg cs, .int _ n => if 0 ≤ n ∧ n < len then (cellsAt cs (n.toNat * esz) esz).bind fun cs => (ofCells agg cs).map fun v => { val := v } else none
    | _, _ => none
  | .indexStr x i => match x.val e, i.val e with
    | .str s, .int _ n => if 0 ≤ n then (s[n.toNat]?).map fun b : Nat => ({ val := .int .u8 b } : Eff) else none
    | _, _ => none
  | .lookup kt zero ok x k => (lookupV g kt (x.val e) (k.val e)).map fun r =>
      { val := if ok then .tuple [r.getD zero, .bool r.isSome] else r.getD zero }
  | .mapSet kt m k v => match m.val e with
    | .map b => match g b with
      | some (.map es clock false) =>
        let k := k.val e
        if kt.fits k && es.all (fun e => kt.fits e.1) then
          some { upd := some (b, some (match findE k.cells es 0 with
            | some (i, _) => .map (es.set i (k, v.val e, ((es[i]?).map (·.2.2)).getD 0)) clock false
            | none => .map (es ++ [(k, v.val e, clock)]) (clock + 1) false)), val := V.undef }
        else none
      | _ => none
    | _ => none
  | .rangeM x => match x.val e with
    | .nilMap => some { new := some (.mapIter none 0 [] 0), val := .ptr id 0 }
    | .map b => match g b with | some (.map _ clock _) => some { new := some (.mapIter (some b) clock [] clock), val := .ptr id 0 } | _ => none
    | .rmap ks vs => some { new := some (.rmapIter ks vs []), val := .ptr id 0 }
    | _ => none
  | .rangeS x => match x.val e with
    | .str s => some { new := some (.strIter s 0), val := .ptr id 0 }
    | .sstr s => some { new := some (.strIter s 0), val := .ptr id 0 }
    | _ => none
  | .nextS it => match it.val e with
    | .ptr b 0 => match g b with
      | some (.strIter [] _) => some { val := .tuple [.bool false] }
      | some (.strIter (c :: s) pos) =>
        if c < 128 then some { upd := some (b, some (.strIter s (pos + 1))), val := .tuple [.bool true, .int .i64 pos, .int .i32 c] }
        else if c = 256 then some { upd := some (b, some (.strIter s (pos + 1))), val := .tuple [.bool true, .int .i64 pos, .sym (.any .i32 48 57)] }
        else if (c :: s).all (fun c => c != 256) then some { upd := some (b, some (.strIter ((c :: s).drop (decodeAt (c :: s) 0).2) (pos + (decodeAt (c :: s) 0).2))), val := .tuple [.bool true, .int .i64 pos, .int .i32 (decodeAt (c :: s) 0).1] }
        else none
      | _ => none
    | _ => none
  | .entry it => match it.val e with
    | .ptr b 0 => match g b with
      | some (.mapIter (some m) _ seen stepped) => match g m with
        | some (.map es clock _) => match seen.getLast? with
          | some stamp => if clock = stepped then (es.find? (fun x => Nat.beq x.2.2 stamp)).map fun x => { val := .tuple [x.1, x.2.1] } else none
          | none => none
        | _ => none
      | some (.rmapIter ks vs seen) => match seen.getLast? with
        | some i => match ks[i]?, vs[i]? with
          | some k, some v => some { val := .tuple [k, v] }
          | _, _ => none
        | none => none
      | _ => none
    | _ => none
  | .assertC t zero ok x => match x.val e with
    | .nilIface => if ok then some { val := .tuple [zero, .bool false] } else none
    | .iface u v => if u = t then some { val := if ok then .tuple [v, .bool true] else v } else if ok then some { val := .tuple [zero, .bool false] } else none
    | _ => none
  | .extract i x => match x.val e with
    | .tuple vs => (vs[i]?).map fun v => { val := v }
    | _ => none
  | .lenStr x => match x.val e with | .str s => some { val := .int .i64 s.length } | .sstr s => some { val := .int .i64 s.length } | _ => none
  | .lenSlice x => match x.val e with | .str _ => none | v => (vlen v).map fun n : Nat => ({ val := .int .i64 n } : Eff)
  | .lenMap x => match x.val e with
    | .nilMap => some { val := .int .i64 0 }
    | .rmap ks vs => if ks.length = vs.length then some { val := .int .i64 ks.length } else none
    | .map b => match g b with | some (.map es _ _) => some { val := .int .i64 es.length } | _ => none
    | _ => none
  | .append esz bytes s x => evAppend g id esz bytes (s.val e) (x.val e)
  | .copy esz d s => evCopy g esz (d.val e) (s.val e)
  | .delete kt m k => match m.val e with
    | .nilMap => if kt.fits (k.val e) then some { val := .tuple [] } else none
    | .map b => match g b with
      | some (.map es clock false) =>
        if kt.fits (k.val e) && es.all (fun e => kt.fits e.1) then
          some { upd := some (b, some (match findE (k.val e).cells es 0 with
            | some (i, _) => .map (es.eraseIdx i) clock false
            | none => .map es clock false)), val := .tuple [] }
        else none
      | _ => none
    | _ => none
  | .minmax max x y => match x.val e, y.val e with
    | .int k a, .int k' b => if k = k' then some { val := .int k (if max then (if b > a then b else a) else (if b < a then b else a)) } else none
    | .str a, .str b => some { val := .str (if max then (if bytesLess a b then b else a) else (if bytesLess a b || a == b then a else b)) }
    | u, v => (symMax max u v).map fun r => { val := r }
  | .runeS x => match x.val e with | .int _ n => if 0 ≤ n ∧ n < 128 then some { val := .str [n.toNat] } else none | .sym x => if 48 ≤ x.bnd.1 ∧ x.bnd.2 ≤ 57 then some { val := .sstr [256] } else none | _ => none
  | .nextM _ | .call _ _ | .recover | .defer _ _ | .panic _ | .bad => none

end Go.Abs

/-
  ABS, part 2: compiled code and how it runs, by continuations: an answer is a proposition or a truth value; a step over a map asks for every choice.
-/
namespace Go.Abs
open Go

/-- What a run answers: no (stuck), or all of some answers. -/
class Ans (Ω : Type) where
  ff : Ω
  all : List Ω → Ω

instance : Ans Prop := ⟨False, fun l => ∀ p ∈ l, p⟩
instance : Ans Bool := ⟨false, fun l => l.all id⟩

structure O where
  dst : Option Nat
  i : I
  guard : Option (Nat × Bool)
  deriving Inhabited

inductive C where
  | skip
  | ops (l : List O)
  /-- A region whose order is open; and those of its operations that come behind all others, one by one. -/
  | drawn (l : List (O × List Nat)) (tail : List O)
  | seq (a b : C)
  | cond (c : X) (a b : C)
  | block (id : Nat) (c : C)
  | loop (c : C)
  | exit (id : Nat)
  | ret
  | label (l : Nat)
  | goto (l : Nat)
  | scope (c : C) (l : Nat) (rest : C)
  | rangeF (x : X) (ps : List Nat) (assign body : C)
  deriving Inhabited

inductive RV where
  | tmp (t : Nat)
  | cell (t : Nat) (agg : Bool) (n : Nat)
  deriving Inhabited

structure AFn where
  np : Nat
  body : C
  results : List RV
  deriving Inhabited

structure Ctx where
  fn : FuncId → Option AFn
  sum : FuncId → Option (List V → Option V)
  /-- The model's own entry that copies a map. -/
  clone : FuncId → Bool := fun _ => false

/-- What an activation puts off: a loop's mark; a call. -/
inductive Dfr where
  | mark (d : Nat)
  | call (f : FuncId) (args : List V)

structure FSt where
  env : Env
  h : Heap
  nid : Nat
  dfr : List Dfr

inductive Ex where
  | normal
  | exit (id : Nat)
  | goto (l : Nat)
  | ret
  | panic (chain : List V)

inductive End where
  | returned (v : V)
  | panicked (chain : List V)

def putDst (e : Env) (d : Option Nat) (v : V) : Env := match d with | some d => e.set d v | none => e

def wanted (e : Env) : Option (Nat × Bool) → Bool
  | none => true
  | some (t, w) => match e.at t with | .bool b => b == w | _ => false

/-- A function value's function and what it is handed. -/
def resolve (f : V) (args : List V) : Option (FuncId × List V) :=
  match f with
  | .func (.func f) first captured => some (f, first ++ args ++ captured)
  | _ => none

/-- A loop's own function. -/
def yielder (f : V) : Option Nat :=
  match f with
  | .func (.yield b) [] [] => some b
  | _ => none

/-- A round of a loop over a function: on what it yields, in a heap; what comes then. -/
abbrev Yld (Ω : Type) := Nat → List V → Heap → Nat → (End → Heap → Nat → Ω) → Ω

def noYld {Ω : Type} [Ans Ω] : Yld Ω := fun _ _ _ _ _ => Ans.ff

def isLoop : Option AObj → Bool → Bool
  | some (.loop b), c => b == c
  | _, _ => false

def isShut : Option AObj → Bool
  | some .shut => true
  | _ => false

def putArgs (ps : List Nat) (vs : List V) (e : Env) : Env := (ps.zip vs).foldl (fun e p => e.set p.1 p.2) e

/-- A text that takes up a panic at its very beginning: the slot; what comes then. -/
def recHead : C → Option (Option Nat × C)
  | .ops [⟨d, .recover, none⟩] => some (d, .skip)
  | .seq a b => (recHead a).map fun p => (p.1, .seq p.2 b)
  | _ => none

/-- What a call that was put off finds: no panic, or one. -/
def recovered : Option (List V) → Option V
  | none => some .nilIface
  | some (v :: _) => some v
  | some [] => none

mutual
/-- A value with all that it leads to, inline. -/
def reify (g : View) : Nat → V → Option V
  | 0, _ => none
  | d + 1, v =>
    match v with
    | .ptr b off => match g b with | some (.cells cs _ _ _) => (reifyL g d cs).map (.rptr · off) | _ => none
    | .slice b off len _ => match g b with | some (.cells cs _ _ _) => (reifyL g d cs).map (.rslice · off len none) | _ => none
    | .map b => match g b with
      | some (.map es _ _) => (reifyL g d (es.map (·.1))).bind fun ks => (reifyL g d (es.map (·.2.1))).map fun vs => .rmap ks vs
      | _ => none
    | .func fn first captured => if plainFn fn then (reifyL g d first).bind fun a => (reifyL g d captured).map fun b => .func fn a b else none
    | .iface t v => (reify g d v).map (.iface t ·)
    | .agg cs => (reifyL g d cs).map .agg
    | .tuple cs => (reifyL g d cs).map .tuple
    | v => some v
def reifyL (g : View) : Nat → List V → Option (List V)
  | 0, _ => none
  | _ + 1, [] => some []
  | d + 1, v :: vs => (reify g d v).bind fun v => (reifyL g d vs).map (v :: ·)
end

mutual
/-- The objects that a value leads to. -/
def touched (g : View) : Nat → V → List Nat
  | 0, _ => []
  | d + 1, v =>
    match v with
    | .ptr b _ | .slice b _ _ _ => match g b with | some (.cells cs _ _ _) => b :: touchedL g d cs | _ => []
    | .map b => match g b with
      | some (.map es _ _) => b :: (touchedL g d (es.map (·.1)) ++ touchedL g d (es.map (·.2.1)))
      | _ => []
    | .func _ first captured => touchedL g d first ++ touchedL g d captured
    | .iface _ v => touched g d v
    | .agg cs | .tuple cs => touchedL g d cs
    | _ => []
def touchedL (g : View) : Nat → List V → List Nat
  | 0, _ => []
  | _ + 1, [] => []
  | d + 1, v :: vs => touched g d v ++ touchedL g d vs
end

/-- How deep values are gone into. -/
def deep : Nat := 1000000

def AObj.freeze : AObj → AObj
  | .cells cs esz _ spent => .cells cs esz cs.length spent
  | .map es clock _ => .map es clock true
  | o => o

def freezeAll (h : Heap) : List Nat → Heap
  | [] => h
  | b :: l => freezeAll (match h.get b with | some o => h.set b o.freeze | none => h) l

def immL (vs : List V) : Bool := V.imm.imms vs

/-- A call that is told by a function on values, and that leaves the heap alone. -/
def callSum (g : View) (F : List V → Option V) (args : List V) : Option V :=
  (reifyL g deep args).bind fun as => (F as).bind fun r => if r.flat || immL args then some r else none

/-- The same where what is answered may share memory with what was handed in: that stays as it is from here on. -/
def callSumF (h : Heap) (F : List V → Option V) (args : List V) : Option (V × Heap) :=
  (reifyL h.get deep args).bind fun as => (F as).map fun r => if r.flat || immL args then (r, h) else (r, freezeAll h (touchedL h.get deep args))

section
variable {Ω : Type} [Ans Ω] (cx : Ctx)

/-- A step over a map: what may come next. -/
def nextM (h : Heap) (it : V) : Option (List (V × Option (Nat × AObj))) :=
  match it with
  | .ptr b 0 => match h.get b with
    | some (.mapIter none _ _ _) => some [(.tuple [.bool false], none)]
    | some (.mapIter (some m) since seen last) => match h.get m with
      | some (.map es clock _) =>
        if !seen.isEmpty && !es.isEmpty && es.all (fun e => Nat.ble last e.2.2) then none else
        let left := es.filter fun e => !seen.contains e.2.2
        let old := left.filter fun e => Nat.blt e.2.2 since
        let new := left.filter fun e => !Nat.blt e.2.2 since
        let some' := (old ++ new).map fun e => (V.tuple [.bool true, e.1, e.2.1], some (b, AObj.mapIter (some m) since (seen ++ [e.2.2]) clock))
        some (if old.isEmpty then (V.tuple [.bool false], none) :: some' else some')
      | _ => none
    | some (.rmapIter ks vs seen) =>
      if ks.length = vs.length then
        let left := (List.range ks.length).filter fun i => !seen.contains i
        if left.isEmpty then some [(.tuple [.bool false], none)]
        else some (left.map fun i => (V.tuple [.bool true, ks.getD i V.undef, vs.getD i V.undef], some (b, AObj.rmapIter ks vs (seen ++ [i]))))
      else none
    | _ => none
  | _ => none

/-- Operations one by one. -/
def evOps (call : FuncId → List V → Heap → Nat → (End → Heap → Nat → Ω) → Ω) (yld : Yld Ω) : List O → FSt → (Ex → FSt → Ω) → Ω
  | [], st, K => K .normal st
  | o :: l, st, K =>
    if wanted st.env o.guard then
      match o.i with
      | .call f args => match resolve (f.val st.env) (args.map (X.val st.env)) with
        | some (f, args) => call f args st.h (st.nid + 1) fun e h nid => match e with
          | .returned v => evOps call yld l { st with env := putDst st.env o.dst v, h, nid } K
          | .panicked ch => K (.panic ch) { st with h, nid }
        | none => match yielder (f.val st.env) with
          | some b => yld b (args.map (X.val st.env)) st.h (st.nid + 1) fun e h nid => match e with
            | .returned v => evOps call yld l { st with env := putDst st.env o.dst v, h, nid } K
            | .panicked ch => K (.panic ch) { st with h, nid }
          | none => Ans.ff
      | .panic x => match x.val st.env with
        | .iface t v => K (.panic [.iface t v]) { st with nid := st.nid + 1 }
        | _ => Ans.ff
      | .defer f args => match resolve (f.val st.env) (args.map (X.val st.env)) with
        | some (f, args) => evOps call yld l { st with env := putDst st.env o.dst V.undef, nid := st.nid + 1, dfr := .call f args :: st.dfr } K
        | none => Ans.ff
      | .recover => Ans.ff
      | .nextM it => match nextM st.h (it.val st.env) with
        | some cs => Ans.all (cs.map fun c => evOps call yld l { st with env := putDst st.env o.dst c.1, nid := st.nid + 1, h := match c.2 with | some (b, obj) => st.h.set b obj | none => st.h } K)
        | none => Ans.ff
      | i => match evI st.h.get st.nid st.env i with
        | some eff => evOps call yld l { st with env := putDst st.env o.dst eff.val, h := eff.heap st.nid st.h, nid := st.nid + 1 } K
        | none => Ans.ff
    else evOps call yld l { st with env := putDst st.env o.dst V.undef, nid := st.nid + 1 } K

/-- What an operation of a region whose order is open sees: nothing that another operation of the region makes, but those that come ahead of it in every order. -/
def seen (h : Heap) (nid n : Nat) (bef : List Nat) : View := fun b => if nid ≤ b && Nat.blt b (nid + n) && !bef.contains (b - nid) then none else h.get b

/-- One operation of a region whose order is open: deterministic, by fixed numbers. -/
def actOp (nid n i : Nat) (o : O) (bef : List Nat) (s : Env × Heap) : Option (Env × Heap) :=
  let e := s.1
  let h := s.2
  if wanted e o.guard then
    match o.i with
    | .call f args => match resolve (f.val e) (args.map (X.val e)) with
      | some (f, args) => match cx.sum f with
        | some F => (callSum (seen h nid n bef) F args).map fun v => (putDst e o.dst v, h)
        | none => none
      | none => none
    | .panic _ | .defer _ _ | .recover | .nextM _ => none
    | op => (evI (seen h nid n bef) (nid + i) e op).map fun eff => (putDst e o.dst eff.val, eff.heap (nid + i) h)
  else some (putDst e o.dst V.undef, h)

def actAll (nid n : Nat) : Nat → List (O × List Nat) → Env × Heap → Option (Env × Heap)
  | _, [], s => some s
  | i, (o, bef) :: l, s => (actOp cx nid n i o bef s).bind (actAll nid n (i + 1) l)

/-- Operations in an order that is told by their numbers. -/
def actIdx (nid n : Nat) (z : List (O × List Nat)) : List Nat → Env × Heap → Option (Env × Heap)
  | [], s => some s
  | i :: l, s => match z[i]? with
    | some (o, bef) => (actOp cx nid n i o bef s).bind (actIdx nid n z l)
    | none => none

/-! A region whose order is open, and that holds calls which are not told by values: what is bound to come ahead of a call is done, the call is made, and what is not bound to it must come to the same ahead of it and behind it. -/
def befOf (z : List (O × List Nat)) (i : Nat) : List Nat := match z[i]? with
  | some p => p.2
  | none => []

def I.isCall : I → Bool
  | .call _ _ => true
  | _ => false

/-- What may be done ahead of a call or behind it. -/
def I.calm : I → Bool
  | .load .. | .mov _ | .fieldAddr .. | .nilCheck _ | .bin .. | .lenSlice _ | .lenStr _ | .extract .. | .field .. | .indexAddrS .. => true
  | _ => false

def callAt (z : List (O × List Nat)) (i : Nat) : Bool := match z[i]? with
  | some p => p.1.i.isCall
  | none => false

def calmAt (z : List (O × List Nat)) (i : Nat) : Bool := match z[i]? with
  | some p => p.1.i.calm
  | none => false

def dstOf (z : List (O × List Nat)) (i : Nat) : Option Nat := match z[i]? with
  | some p => p.1.dst
  | none => none

def distinct : List Nat → Bool
  | [] => true
  | a :: l => !l.contains a && distinct l

mutual
/-- Are two values the same, name by name? -/
def V.eqA : V → V → Bool
  | .bool a, .bool b => a == b
  | .int k a, .int l b => decide (k = l) && decide (a = b)
  | .str a, .str b => a == b
  | .sym a, .sym b => decide (a = b)
  | .sstr a, .sstr b => a == b
  | .nilPtr, .nilPtr => true
  | .ptr a i, .ptr b j => Nat.beq a b && Nat.beq i j
  | .nilSlice, .nilSlice => true
  | .slice a o l c, .slice b p m d => Nat.beq a b && Nat.beq o p && Nat.beq l m && decide (c = d)
  | .nilMap, .nilMap => true
  | .map a, .map b => Nat.beq a b
  | .nilFunc, .nilFunc => true
  | .nilIface, .nilIface => true
  | .func (.func f) a b, .func (.func g) c d => Nat.beq f g && V.eqAs a c && V.eqAs b d
  | .agg a, .agg b => V.eqAs a b
  | .tuple a, .tuple b => V.eqAs a b
  | .iface t a, .iface u b => decide (t = u) && V.eqA a b
  | .rslice a o l c, .rslice b p m d => V.eqAs a b && decide (o = p) && decide (l = m) && decide (c = d)
  | _, _ => false
def V.eqAs : List V → List V → Bool
  | [], [] => true
  | a :: as, b :: bs => V.eqA a b && V.eqAs as bs
  | _, _ => false
end

def sameAt (z : List (O × List Nat)) (U : List Nat) (e f : Env) : Bool := U.all fun u => match dstOf z u with
  | some d => V.eqA (e.at d) (f.at d)
  | none => true

def callOp (call : FuncId → List V → Heap → Nat → (End → Heap → Nat → Ω) → Ω) (n : Nat) (o : O) (st : FSt) (k : FSt → Ω) (K : Ex → FSt → Ω) : Ω :=
  if wanted st.env o.guard then
    match o.i with
    | .call f args => match resolve (f.val st.env) (args.map (X.val st.env)) with
      | some (f, args) => call f args st.h (st.nid + n) fun e h nid => match e with
        | .returned v => k { st with env := putDst st.env o.dst v, h, nid }
        | .panicked ch => K (.panic ch) { st with h, nid }
      | none => Ans.ff
    | _ => Ans.ff
  else k { st with env := putDst st.env o.dst V.undef }

/-- E: what else comes ahead of the call; G: what is left for behind it. -/
def aheadC (z : List (O × List Nat)) (c : Nat) (E : List Nat) (i : Nat) : Bool := (befOf z c).contains i || E.contains i
def leftC (z : List (O × List Nat)) (c : Nat) (E : List Nat) (i : Nat) : Bool := !Nat.beq i c && !aheadC z c E i
def freeC (z : List (O × List Nat)) (c : Nat) (E G : List Nat) (i : Nat) : Bool := leftC z c E i && !(befOf z i).contains c && !G.contains i && !(befOf z i).any fun x => G.contains x

/-- What is free of the call and may not be done twice comes ahead of it, or behind it: both are gone through. -/
def optsC (z : List (O × List Nat)) (c : Nat) (R : List Nat) : List (List Nat × List Nat) := match R.filter fun i => freeC z c [] [] i && !calmAt z i with
  | [] => [([], [])]
  | [u] => if callAt z u then [] else [([], [u]), (u :: befOf z u, [])]
  | _ => []

def walkOne (call : FuncId → List V → Heap → Nat → (End → Heap → Nat → Ω) → Ω) (z : List (O × List Nat)) (n : Nat) (K : Ex → FSt → Ω) (rc : List Nat → FSt → Ω) (R : List Nat) (st : FSt) (c : Nat) (o : List Nat × List Nat) : Ω :=
  if (R.filter (aheadC z c o.1)).all (fun i => !callAt z i) && (R.filter (freeC z c o.1 o.2)).all (calmAt z) && distinct ((R.filter (freeC z c o.1 o.2)).filterMap (dstOf z)) then
    match z[c]?, actIdx cx st.nid n z (R.filter (aheadC z c o.1)) (st.env, st.h) with
    | some p, some sA => match actIdx cx st.nid n z (R.filter (freeC z c o.1 o.2)) sA with
      | some sB => callOp call n p.1 { st with env := sA.1, h := sA.2 }
        (fun st1 => match actIdx cx st1.nid n z (R.filter (freeC z c o.1 o.2)) (st1.env, st1.h) with
          | some sF => if sameAt z (R.filter (freeC z c o.1 o.2)) sB.1 sF.1 then rc (R.filter (leftC z c o.1)) st1 else Ans.ff
          | none => Ans.ff)
        (fun x s => if (R.filter (freeC z c o.1 o.2)).isEmpty then K x s else Ans.ff)
      | none => Ans.ff
    | _, _ => Ans.ff
  else Ans.ff

def walk (call : FuncId → List V → Heap → Nat → (End → Heap → Nat → Ω) → Ω) (z : List (O × List Nat)) (n : Nat) (K : Ex → FSt → Ω) : Nat → List Nat → FSt → Ω
  | 0, _, _ => Ans.ff
  | fuel + 1, R, st => match R.find? (callAt z) with
    | none => match actIdx cx st.nid n z R (st.env, st.h) with
      | some s => K .normal { st with env := s.1, h := s.2, nid := st.nid + n }
      | none => Ans.ff
    | some c => if (optsC z c R).isEmpty then Ans.ff else Ans.all ((optsC z c R).map (walkOne cx call z n K (walk call z n K fuel) R st c))

/-- Passes from a label on. -/
def passes (l : Nat) (rest : FSt → (Ex → FSt → Ω) → Ω) : Nat → FSt → (Ex → FSt → Ω) → Ω
  | 0, _, _ => Ans.ff
  | m + 1, st, K => rest st fun x st => match x with | .goto l' => if l' = l then passes l rest m st K else Ans.ff | x => K x st

/-- Rounds of a loop. -/
def iter (body : FSt → (Ex → FSt → Ω) → Ω) : Nat → FSt → (Ex → FSt → Ω) → Ω
  | 0, _, _ => Ans.ff
  | m + 1, st, K => body st fun x st => match x with | .normal => iter body m st K | x => K x st

/-- Rounds of a loop over a function: the slots as they stood when the loop was entered; what is yielded, assigned; the text. -/
def rounds (ra rb : FSt → (Ex → FSt → Ω) → Ω) (b : Nat) (ps : List Nat) (env : Env) (yld : Yld Ω) : Yld Ω := fun l vs h nid K =>
  if l = b then
    if isLoop (h.get b) false && vs.length == ps.length then
      ra { env := putArgs ps vs env, h, nid, dfr := [] } fun x s => match x with
        | .normal => if isLoop (s.h.get b) false then
            rb { s with h := s.h.set b (.loop true) } fun x s => match x with
              | .normal => if isLoop (s.h.get b) true then K (.returned (.bool true)) (s.h.set b (.loop false)) s.nid else Ans.ff
              | _ => Ans.ff
          else Ans.ff
        | _ => Ans.ff
    else Ans.ff
  else yld l vs h nid K

def evC (call : Yld Ω → FuncId → List V → Heap → Nat → (End → Heap → Nat → Ω) → Ω) (yld : Yld Ω) (m : Nat) : C → FSt → (Ex → FSt → Ω) → Ω
  | .skip, st, K => K .normal st
  | .ops l, st, K => evOps (call yld) yld l st K
  | .drawn l t, st, K => match actAll cx st.nid l.length 0 l (st.env, st.h) with
    | some (env, h) => evOps (call yld) yld t { st with env, h, nid := st.nid + l.length } K
    | none => walk cx (call yld) l l.length (fun x s => match x with | .normal => evOps (call yld) yld t s K | x => K x s) (l.length + 1) (List.range l.length) st
  | .seq a b, st, K => evC call yld m a st fun x st => match x with | .normal => evC call yld m b st K | x => K x st
  | .cond c a b, st, K => match c.val st.env with
    | .bool true => evC call yld m a st K
    | .bool false => evC call yld m b st K
    | _ => Ans.ff
  | .block id c, st, K => evC call yld m c st fun x st => match x with | .exit j => if j = id then K .normal st else K (.exit j) st | x => K x st
  | .loop c, st, K => iter (fun st K => evC call yld m c st K) m st K
  | .exit id, st, K => K (.exit id) st
  | .ret, st, K => K .ret st
  | .label _, st, K => K .normal st
  | .goto l, st, K => K (.goto l) st
  | .scope c l rest, st, K => evC call yld m c st fun x st => match x with | .goto l' => if l' = l then passes l (fun st K => evC call yld m rest st K) m st K else Ans.ff | x => K x st
  | .rangeF x ps a b, st, K => match resolve (x.val st.env) [.func (.yield (st.nid + 1)) [] []] with
    | some (f, args) =>
      if (cx.fn f).isSome then
        call (rounds (fun st K => evC call yld m a st K) (fun st K => evC call yld m b st K) (st.nid + 1) ps st.env yld)
          f args ((st.h.set st.nid .shut).set (st.nid + 1) (.loop false)) (st.nid + 2) fun e h nid => match e with
            | .returned _ => if isLoop (h.get (st.nid + 1)) false then K .normal { st with h := h.put (st.nid + 1) none, nid, dfr := .mark st.nid :: st.dfr } else Ans.ff
            | .panicked _ => Ans.ff
      else Ans.ff
    | none => Ans.ff

def initEnv : Nat → List V → Env → Env
  | _, [], e => e
  | i, v :: vs, e => initEnv (i + 1) vs (e.set i v)

def readRes (e : Env) (h : Heap) : RV → Option V
  | .tmp t => some (e.at t)
  | .cell t agg n => (readAt h.get (e.at t) n).bind (ofCells agg)

def results (rs : List RV) (e : Env) (h : Heap) : Option V :=
  (rs.mapM (readRes e h)).map fun vs => match vs with | [v] => v | vs => .tuple vs

/-- Behind a call that was put off. -/
def afterDfr (fn : AFn) (k : Heap → Nat → Ω) : Ex → FSt → Ω := fun x st => match x with
  | .normal | .ret => match st.dfr with
    | [] => match results fn.results st.env st.h with
      | some _ => k st.h st.nid
      | none => Ans.ff
    | _ => Ans.ff
  | _ => Ans.ff

/-- An activation on its way out, in a panic or not: what it has put off. -/
def leave (run : C → FSt → (Ex → FSt → Ω) → Ω) : List Dfr → Option (List V) → Heap → Nat → (Option (List V) → Heap → Nat → Ω) → Ω
  | [], u, h, nid, K => K u h nid
  | .mark d :: l, u, h, nid, K => if isShut (h.get d) then leave run l u (h.put d none) nid K else Ans.ff
  | .call f args :: l, u, h, nid, K => match cx.fn f with
    | none => Ans.ff
    | some fn => match recHead fn.body with
      | some p => match recovered u with
        | some v => run p.2 { env := putDst (initEnv 0 args .leaf) p.1 v, h, nid, dfr := [] } (afterDfr fn fun h nid => leave run l none h nid K)
        | none => Ans.ff
      | none => run fn.body { env := initEnv 0 args .leaf, h, nid, dfr := [] } (afterDfr fn fun h nid => leave run l u h nid K)

/-- What an activation ends with. -/
def ends (fn : AFn) (e : Env) (K : End → Heap → Nat → Ω) : Option (List V) → Heap → Nat → Ω := fun u h nid => match u with
  | none => match results fn.results e h with
    | some v => K (.returned v) h nid
    | none => Ans.ff
  | some ch => K (.panicked ch) h nid

/-- The model's own entry that copies a map. -/
def cloneMap (args : List V) (h : Heap) (nid : Nat) (K : End → Heap → Nat → Ω) : Ω := match args with
  | [.iface t (.map b)] => match h.get b with
    | some (.map es clock _) => K (.returned (.iface t (.map nid))) (h.set nid (.map es clock false)) (nid + 1)
    | _ => Ans.ff
  | _ => Ans.ff

/-- A call: m rounds at most in each loop, n calls at most within each other. -/
def callF (m : Nat) : Nat → Yld Ω → FuncId → List V → Heap → Nat → (End → Heap → Nat → Ω) → Ω
  | 0, _, _, _, _, _, _ => Ans.ff
  | n + 1, yld, f, args, h, nid, K =>
    match cx.sum f with
    | some F => match callSumF h F args with
      | some (v, h) => K (.returned v) h nid
      | none => Ans.ff
    | none => if cx.clone f then cloneMap args h nid K else match cx.fn f with
      | some fn => evC cx (callF m n) yld m fn.body { env := initEnv 0 args .leaf, h, nid, dfr := [] } fun x st => match x with
        | .normal => leave cx (fun c st K => evC cx (callF m n) noYld m c st K) st.dfr none st.h st.nid (ends fn st.env K)
        | .ret => leave cx (fun c st K => evC cx (callF m n) noYld m c st K) st.dfr none st.h st.nid (ends fn st.env K)
        | .panic ch => leave cx (fun c st K => evC cx (callF m n) noYld m c st K) st.dfr (some ch) st.h st.nid (ends fn st.env K)
        | .exit _ | .goto _ => Ans.ff
      | none => Ans.ff

end

/-- A function's answer on values, told by a run on an empty heap: it is the value v, whatever comes next in a map. -/
def Tells (cx : Ctx) (f : FuncId) (args : List V) (v : V) : Prop :=
  ∃ m n, callF (Ω := Prop) cx m n noYld f args .leaf 0 fun e h _ => match e with
    | .returned r => reify h.get deep r = some v
    | _ => False

end Go.Abs

/-
  ABS, part 3: from the model's code to compiled code: sizes, zero values and kinds are read off the table of types once. What isn't known to the evaluator compiles to nothing.
-/
namespace Go.Abs
open Go

mutual
def ofConst : Nat → Value → Option V
  | 0, _ => none
  | d + 1, v =>
    match v with
    | .bool b => some (.bool b)
    | .int k n => some (.int k n)
    | .string s => some (.str (s.data.toList.map (·.toNat)))
    | .pointer none => some .nilPtr
    | .slice none 0 0 => some .nilSlice
    | .map none => some .nilMap
    | .func fn first captured => if plainFn fn then (ofConsts d first.toList).bind fun a => (ofConsts d captured.toList).map fun b => .func fn a b else none
    | .nilFunc => some .nilFunc
    | .iface t v => (ofConst d v).map (.iface t ·)
    | .nilIface => some .nilIface
    | .agg cs => (ofConsts d cs.toList).map .agg
    | .tuple cs => (ofConsts d cs.toList).map .tuple
    | _ => none
def ofConsts : Nat → List Value → Option (List V)
  | 0, _ => none
  | _ + 1, [] => some []
  | d + 1, v :: vs => (ofConst d v).bind fun v => (ofConsts d vs).map (v :: ·)
end

/-- How deep constants are gone into. -/
def constDeep : Nat := 100000

section
variable (P : Program) (gl : Nat → Option (List V))

def cX : Operand → Option X
  | .tmp t => some (.tmp t)
  | .const v => (ofConst constDeep v).map .const
  | .global g => (gl g).map fun row => .const (.rptr row 0)
  | .func f => some (.const (.func (.func f) [] []))

def cXs (l : List Operand) : Option (List X) := l.mapM (cX gl)
def cXo : Option Operand → Option (Option X)
  | none => some none
  | some x => (cX gl x).map some

def tSize (t : TypeId) : Option Nat := (P.info? t).map (·.size)
def tBytes (t : TypeId) : Option Nat := (P.info? t).map (·.bytes)
def tZero (t : TypeId) : Option V := ((P.info? t).bind (·.zero)).bind (ofConst constDeep)
def tAgg (t : TypeId) : Option Bool := (P.underlying t).map fun d => match d with | .struct _ | .array _ _ => true | _ => false

mutual
/-- The kinds of the cells of a type whose values are held against each other cell by cell. -/
def tCks : Nat → TypeId → Option (List CK)
  | 0, _ => none
  | d + 1, t =>
    match P.underlying t with
    | some .bool => some [.bool]
    | some (.int k) => some [.int k]
    | some .string => some [.str]
    | some (.struct fs) => if P.stoodInHeld t then none else tCksF d 0 fs.toList
    | _ => none
def tCksF : Nat → Nat → List Field → Option (List CK)
  | 0, _, _ => none
  | _ + 1, _, [] => some []
  | d + 1, off, f :: fs => if f.name ≠ "_" ∧ f.offset = off then
      (tCks d f.type).bind fun a => if a.length = P.cellsOf f.type then (tCksF d (off + a.length) fs).map (a ++ ·) else none
    else none
end

def tKT (t : TypeId) : Option KT := (tAgg P t).bind fun a => (tCks P 1000 t).map fun l => ⟨a, l⟩

def isConst : Operand → Bool
  | .const _ => true
  | _ => false

def cEq (t : TypeId) (x y : Operand) : Option EqK :=
  match P.underlying t with
  | some .bool => some (.flat false [.bool])
  | some (.struct _) | some (.array _ _) => if P.eqGuardType P.depth t then none else (tCks P 1000 t).map (.flat true ·)
  | some (.pointer e) => if P.cellsOf e = 0 then none else some .ptrNil
  | some (.slice _) => some .sliceNil
  | some (.map _ _) => some .mapNil
  | some (.func _ _ _) => some .funcNil
  | some (.interface _) => if isConst x || isConst y then some .ifaceNil else none
  | _ => none

def structParts (fs : Array Field) (l : List (Nat × Operand)) : Option (List (Nat × Nat × X)) :=
  l.mapM fun p => (fs[p.1]?).bind fun f => (tSize P f.type).bind fun n => (cX gl p.2).map fun x => (f.offset, n, x)
def arrayParts (n : Nat) (l : List (Nat × Operand)) : Option (List (Nat × Nat × X)) :=
  l.mapM fun p => (cX gl p.2).map fun x => (p.1 * n, n, x)

def cOp : Op → Option I
  | .move x | .assign x => (cX gl x).map .mov
  | .pick c a b => (cX gl c).bind fun c => (cX gl a).bind fun a => (cX gl b).map fun b => .pick c a b
  | .alloc t => (tZero P t).bind fun z => if z.cells.all V.one then some (.new z.cells) else none
  | .box _ x => (cX gl x).map .box
  | .build t parts => (tZero P t).bind fun z => if z.cells.all V.one then match P.underlying t with
    | some (.struct fs) => if fs.all fun f => (P.info? f.type).isSome then (structParts P gl fs parts.toList).map fun ps => .build z.cells ps else none
    | some (.array _ e) => (tSize P e).bind fun n => (arrayParts gl n parts.toList).map fun ps => .build z.cells ps
    | _ => none
    else none
  | .buildSlice t len parts => match P.underlying t with
    | some (.slice e) => (tSize P e).bind fun n => (tZero P e).bind fun z =>
      if len * n ≤ 2 ^ 24 ∧ z.cells.length = n ∧ 0 < n ∧ z.cells.all V.one then (arrayParts gl n parts.toList).map fun ps => .buildSlice (List.replicate len z.cells).flatten n len ps else none
    | _ => none
  | .load t a => (tAgg P t).bind fun g => (tSize P t).bind fun n => (cX gl a).map fun a => .load g (if g then n else 1) a
  | .store t a x => (tSize P t).bind fun n => (cX gl a).bind fun a => (cX gl x).map fun x => .store n a x
  | .nilCheck x => (cX gl x).map .nilCheck
  | .binOp op t x y _ => (cX gl x).bind fun x' => (cX gl y).bind fun y' => match op with
    | .eql | .neq => match P.underlying t with
      | some (.int _) | some .string => some (.bin op x' y')
      | _ => (cEq P t x y).map fun k => .eq k (match op with | .neq => true | _ => false) x' y'
    | _ => some (.bin op x' y')
  | .unOp op _ x => (cX gl x).map (.un op ·)
  | .convert src dst x => (cX gl x).bind fun x => match P.underlying src, P.underlying dst with
    | some (.int _), some (.int k) => some (.convI k x)
    | some .string, some .string => some (.convId x)
    | some (.int _), some .string => some (.runeS x)
    | _, _ => none
  | .makeInterface t x => match P.underlying t with
    | some (.interface _) | none => none
    | _ => (cX gl x).map (.iface t ·)
  | .makeFunc fn first captured => if plainFn fn then (cXs gl first.toList).bind fun a => (cXs gl captured.toList).map fun b => .func fn a b else none
  | .makeMap t r => match P.underlying t with
    | some (.map _ _) => (cXo gl r).map .mkMap
    | _ => none
  | .makeSlice t l c => match P.underlying t with
    | some (.slice e) => (tSize P e).bind fun n => (tBytes P e).bind fun b => (tZero P e).bind fun z => (cX gl l).bind fun l => (cX gl c).bind fun c =>
      if 0 < n ∧ z.cells.length = n ∧ z.cells.all V.one then some (.mkSlice z.cells n b l c) else none
    | _ => none
  | .slice t x lo hi mx => (cX gl x).bind fun x => (cXo gl lo).bind fun lo => (cXo gl hi).bind fun hi => (cXo gl mx).bind fun mx =>
    match P.underlying t with
    | some .string => (match mx with | none => some (.sliceS x lo hi) | some _ => none)
    | some (.slice e) => (tSize P e).bind fun n => if (mx.isSome && hi.isNone) then none else some (.sliceL n x lo hi mx)
    | _ => none
  | .fieldAddr s x f => match P.underlying s with
    | some (.struct fs) => (fs[f]?).bind fun f => (tSize P f.type).bind fun n => if n = 0 then none else (cX gl x).map fun x => .fieldAddr f.offset x
    | _ => none
  | .field s x f => match P.underlying s with
    | some (.struct fs) => (fs[f]?).bind fun f => (tAgg P f.type).bind fun g => (tSize P f.type).bind fun n => (cX gl x).map fun x => .field g (if g then n else 1) f.offset x
    | _ => none
  | .indexAddr t x i => (cX gl x).bind fun x => (cX gl i).bind fun i => match P.underlying t with
    | some (.slice e) => (tSize P e).map fun n => .indexAddrS n x i
    | some (.array len e) => (tSize P e).map fun n => .indexAddrA n len x i
    | _ => none
  | .index t x i => (cX gl x).bind fun x => (cX gl i).bind fun i => match P.underlying t with
    | some .string => some (.indexStr x i)
    | some (.array len e) => (tAgg P e).bind fun g => (tSize P e).bind fun n => if g || n == 1 then some (.indexA g n len x i) else none
    | _ => none
  | .lookup t x k ok => match P.underlying t with
    | some (.map kt e) => (tKT P kt).bind fun kt => (tZero P e).bind fun z => (cX gl x).bind fun x => (cX gl k).map fun k => .lookup kt z ok x k
    | _ => none
  | .mapUpdate t m k v | .insert t m k v => match P.underlying t with
    | some (.map kt _) => (tKT P kt).bind fun kt => (cX gl m).bind fun m => (cX gl k).bind fun k => (cX gl v).map fun v => .mapSet kt m k v
    | _ => none
  | .range t x => (cX gl x).bind fun x => match P.underlying t with
    | some .string => some (.rangeS x)
    | some (.map _ _) => some (.rangeM x)
    | _ => none
  | .next it s => (cX gl it).map fun it => if s then .nextS it else .nextM it
  | .entry it => (cX gl it).map .entry
  | .typeAssert x _ t ok => match P.underlying t with
    | some (.interface _) | none => none
    | _ => (tZero P t).bind fun z => (cX gl x).map fun x => .assertC t z ok x
  | .extract x i => (cX gl x).map (.extract i ·)
  | .panic x => (cX gl x).map .panic
  | .defer c => (cXs gl c.args.toList).bind fun as => match c.callee with
    | .value f => (cX gl f).map fun f => .defer f as
    | _ => none
  | .call c => (cXs gl c.args.toList).bind fun as => match c.callee with
    | .value f => (cX gl f).map fun f => .call f as
    | .invoke _ _ => none
    | .builtin b => match b, as, c.argTypes.toList with
      | .len, [x], [t] => (match P.underlying t with
        | some .string => some (.lenStr x)
        | some (.slice _) => some (.lenSlice x)
        | some (.map _ _) => some (.lenMap x)
        | _ => none)
      | .append, [s, x], [t, u] => (match P.underlying t, P.underlying u with
        | some (.slice e), some (.slice _) | some (.slice e), some .string => (tSize P e).bind fun n => (tBytes P e).bind fun b => (tZero P e).bind fun z => if z.cells.length = n then some (.append n b s x) else none
        | _, _ => none)
      | .copy, [d, s], [t, _] => (match P.underlying t with
        | some (.slice e) => (tSize P e).map fun n => .copy n d s
        | _ => none)
      | .delete, [m, k], [t, _] => (match P.underlying t with
        | some (.map kt _) => (tKT P kt).map fun kt => .delete kt m k
        | _ => none)
      | .max, [x, y], _ => some (.minmax true x y)
      | .min, [x, y], _ => some (.minmax false x y)
      | .recover, [], _ => some .recover
      | _, _, _ => none
  | _ => none

/-- An operation that is not compiled is one at which a run stands still. -/
def cOper (ops : Array Oper) (o : Oper) : Option O :=
  match o.guard with
  | none => some ⟨o.dst, (cOp P gl o.op).getD .bad, none⟩
  | some (j, w) => ((ops[j]?).bind (·.dst)).map fun t => ⟨o.dst, (cOp P gl o.op).getD .bad, some (t, w)⟩

/-! What an operation looks at, and whether it reads, makes or writes objects. -/

def X.tmps : X → List Nat
  | .tmp t => [t]
  | .const _ => []
def xsTmps (l : List X) : List Nat := l.flatMap X.tmps
def xoTmps : Option X → List Nat
  | none => []
  | some x => x.tmps

def I.tmps : I → List Nat
  | .mov x | .box x | .nilCheck x | .un _ x | .convI _ x | .convId x | .bytesOf x | .strOf x | .iface _ x | .fieldAddr _ x | .field _ _ _ x | .rangeM x | .rangeS x | .nextS x | .nextM x
  | .entry x | .assertC _ _ _ x | .extract _ x | .lenStr x | .lenSlice x | .lenMap x | .panic x | .load _ _ x | .runeS x => x.tmps
  | .new _ | .recover | .bad => []
  | .pick c a b => c.tmps ++ a.tmps ++ b.tmps
  | .build _ ps | .buildSlice _ _ _ ps => xsTmps (ps.map (·.2.2))
  | .store _ a b | .bin _ a b | .eq _ _ a b | .mkSlice _ _ _ a b | .indexAddrS _ a b | .indexAddrA _ _ a b | .indexA _ _ _ a b | .indexStr a b | .lookup _ _ _ a b | .append _ _ a b | .copy _ a b
  | .delete _ a b | .minmax _ a b => a.tmps ++ b.tmps
  | .mapSet _ a b c => a.tmps ++ b.tmps ++ c.tmps
  | .func _ a b => xsTmps a ++ xsTmps b
  | .mkMap h => xoTmps h
  | .sliceS x lo hi => x.tmps ++ xoTmps lo ++ xoTmps hi
  | .sliceL _ x lo hi mx => x.tmps ++ xoTmps lo ++ xoTmps hi ++ xoTmps mx
  | .call f as | .defer f as => f.tmps ++ xsTmps as

inductive Cls where
  | pure | read | make | write
  deriving DecidableEq

def I.cls : I → Cls
  | .load .. | .lookup .. | .lenMap _ | .strOf _ | .entry _ | .call .. | .sliceL .. => .read
  | .new _ | .box _ | .buildSlice .. | .bytesOf _ | .mkMap _ | .mkSlice .. | .rangeS _ => .make
  | .store .. | .mapSet .. | .nextS _ | .nextM _ | .append .. | .copy .. | .delete .. | .rangeM _ | .recover | .defer .. | .panic _ => .write
  | _ => .pure

def O.looks (o : O) : List Nat := o.i.tmps ++ (match o.guard with | some (t, _) => [t] | none => [])

def hits (d : Option Nat) (l : List Nat) : Bool := match d with | some d => l.contains d | none => false

/-- May two operations not change places? -/
def conflict (x y : O) : Bool :=
  hits x.dst y.looks || hits y.dst x.looks || (match x.dst, y.dst with | some a, some b => a == b | _, _ => false) ||
  (x.i.cls == .write && y.i.cls != .pure) || (x.i.cls != .pure && y.i.cls == .write)

/-- Of each operation those that come ahead of it in every order. -/
def befs : List Oper → List (List Nat) → Option (List (List Nat))
  | [], acc => some acc
  | o :: l, acc =>
    let on := (o.after.toList.filter fun e => Region.binds .any e).map (·.on)
    if on.all (fun i => Nat.blt i acc.length) then befs l (acc ++ [(on ++ on.flatMap fun i => acc.getD i []).eraseDups]) else none

/-- All that may not change places come in the text's order always. -/
def ordered : Nat → List (O × List Nat) → List O → Bool
  | _, [], _ => true
  | n, (o, bef) :: l, before => ((List.range n).all fun i => match before[i]? with | some p => !conflict p o || bef.contains i | none => false) && ordered (n + 1) l (before ++ [o])

/-- Each comes behind all that stand ahead of it. -/
def chained : Nat → List (O × List Nat) → Bool
  | _, [] => true
  | i, (_, bef) :: l => (List.range i).all (fun x => bef.contains x) && chained (i + 1) l

def cutAt (z : List (O × List Nat)) : Nat := ((List.range z.length).find? fun k => chained k (z.drop k)).getD z.length

def C.findL : C → Nat → Option C
  | .seq a b, l => match a.findL l with
    | some rest => some (.seq rest b)
    | none => b.findL l
  | .label l', l => if l' == l then some .skip else none
  | _, _ => none

/-- The first label of a scope's text. -/
def C.labels : C → List Nat
  | .seq a b => a.labels ++ b.labels
  | .label l => [l]
  | _ => []

def isDefer : Op → Bool
  | .defer _ => true
  | _ => false

/-- Code without a scope, without a loop over a function, and that puts nothing off. -/
def scopeFree : Code → Bool
  | .scope _ | .rangeFunc .. => false
  | .region _ ops _ => ops.toList.all fun o => !isDefer o.op
  | .seq a b => scopeFree a && scopeFree b
  | .cond _ a b => scopeFree a && scopeFree b
  | .block _ c => scopeFree c
  | .loop c => scopeFree c
  | _ => true

def cCode : Code → Option C
  | .skip => some .skip
  | .region _ ops false => (ops.toList.mapM (cOper P gl ops)).map .ops
  | .region _ ops true => (ops.toList.mapM (cOper P gl ops)).bind fun l => (befs ops.toList []).bind fun bs =>
    let z := l.zip bs
    let k := cutAt z
    if Nat.ble k z.length && ordered 0 (z.take k) [] && chained k (z.drop k) && z.length == ops.size then some (.drawn (z.take k) ((z.drop k).map (·.1))) else none
  | .seq a b => (cCode a).bind fun a => (cCode b).map fun b => .seq a b
  | .cond c a b => (cX gl c).bind fun c => (cCode a).bind fun a => (cCode b).map fun b => .cond c a b
  | .block id c => (cCode c).map (.block id ·)
  | .loop c => (cCode c).map .loop
  | .exit id => some (.exit id)
  | .ret => some .ret
  | .label l => some (.label l)
  | .goto l => some (.goto l)
  | .scope c => (cCode c).bind fun c => match c.labels with
    | [l] => (c.findL l).map fun rest => .scope c l rest
    | _ => none
  | .rangeFunc g ps a b => if scopeFree a && scopeFree b then (cX gl g).bind fun g => (cCode a).bind fun a => (cCode b).map fun b => .rangeF g ps.toList a b else none
  | .refuse _ => none

def cRes : ResultVar → Option RV
  | .tmp t => some (.tmp t)
  | .cell t ty => (tAgg P ty).bind fun g => (tSize P ty).map fun n => .cell t g (if g then n else 1)

/-- Slots that code writes. -/
def C.dsts : C → List Nat
  | .ops l => l.filterMap (·.dst)
  | .drawn l t => l.filterMap (·.1.dst) ++ t.filterMap (·.dst)
  | .seq a b | .cond _ a b => a.dsts ++ b.dsts
  | .block _ c | .loop c => c.dsts
  | .scope c _ rest => c.dsts ++ rest.dsts
  | .rangeF _ ps a b => ps ++ (a.dsts ++ b.dsts)
  | _ => []

def cFunc (fn : Func) : Option AFn :=
  fn.body.bind fun b => (cCode P gl b).bind fun c => (fn.results.toList.mapM (cRes P)).bind fun rs =>
    let np := fn.params.size + fn.nfree
    if np ≤ fn.ntmps ∧ c.dsts.all (fun d => Nat.blt d fn.ntmps) then some ⟨np, c, rs⟩ else none

end
end Go.Abs

/-
  ABS, part 4: what an abstract value means in a world: what nobody writes any more (Mem), where the run's own objects lie (the places), and that both tell of the world as it is.
-/
namespace Go.Abs
open Go Go.RowKit

def bytesOf (s : ByteArray) : List Nat := s.data.toList.map (·.toNat)

/-- Cells and maps that are never written any more. -/
structure Mem where
  c : Addr → Option Value
  o : Nat → Option Go.Obj

def Mem.le (M M' : Mem) : Prop := (∀ a v, M.c a = some v → M'.c a = some v) ∧ ∀ r o, M.o r = some o → M'.o r = some o
theorem Mem.le.refl (M : Mem) : M.le M := ⟨fun _ _ h => h, fun _ _ h => h⟩
theorem Mem.le.trans {A B C : Mem} (h : A.le B) (k : B.le C) : A.le C := ⟨fun a v e => k.1 a v (h.1 a v e), fun a v e => k.2 a v (h.2 a v e)⟩

/-- Where an object lies: its block, its first cell there; an element's cells, how many cells it has, and how many the block has. -/
structure Place where
  blk : Nat
  off : Nat
  esz : Nat
  ext : Nat
  size : Nat
  /-- A loop's record. -/
  lp : Option Go.Loop

abbrev Places := Nat → Option Place
def Places.le (β β' : Places) : Prop := ∀ b i, β b = some i → β' b = some i
theorem Places.le.refl (β : Places) : β.le β := fun _ _ h => h
theorem Places.le.trans {A B C : Places} (h : A.le B) (k : B.le C) : A.le C := fun b i e => k b i (h b i e)

/-- Functions: a loop's own is told by the loop's object. -/
def FnRel (β : Places) : Fn → Fn → Prop
  | .yield b, f => ∃ i, β b = some i ∧ f = .yield i.blk
  | f, f' => f' = f

theorem FnRel.mono {β β' : Places} (hβ : β.le β') : ∀ {f f' : Fn}, FnRel β f f' → FnRel β' f f'
  | .yield _, _, ⟨i, hi, h⟩ => ⟨i, hβ _ _ hi, h⟩
  | .func _, _, h => h
  | .method _, _, h => h
  | .methodOf .., _, h => h
  | .via .., _, h => h

theorem FnRel.plain {β β' : Places} : ∀ {f f' : Fn}, plainFn f = true → FnRel β f f' → FnRel β' f f'
  | .yield _, _, hf, _ => by cases hf
  | .func _, _, _, h => h
  | .method _, _, _, h => h
  | .methodOf .., _, _, h => h
  | .via .., _, _, h => h

theorem FnRel.self (β : Places) : ∀ {f : Fn}, plainFn f = true → FnRel β f f
  | .yield _, hf => by cases hf
  | .func _, _ => rfl
  | .method _, _ => rfl
  | .methodOf .., _ => rfl
  | .via .., _ => rfl

/-- A text with digits that aren't known. -/
def Wild : List Nat → List Nat → Prop
  | [], s => s = []
  | c :: l, s => ∃ d r, s = d :: r ∧ (c = d ∨ c = 256 ∧ 48 ≤ d ∧ d ≤ 57) ∧ Wild l r

theorem Wild.refl : ∀ l, Wild l l
  | [] => rfl
  | c :: l => ⟨c, l, rfl, .inl rfl, Wild.refl l⟩
theorem Wild.length : ∀ {l s : List Nat}, Wild l s → s.length = l.length
  | [], _, h => by cases h; rfl
  | _ :: _, _, ⟨_, _, rfl, _, h⟩ => by simp [h.length]
theorem Wild.append : ∀ {l s l' s' : List Nat}, Wild l s → Wild l' s' → Wild (l ++ l') (s ++ s')
  | [], _, _, _, h, h' => by cases h; exact h'
  | _ :: _, _, _, _, ⟨d, r, rfl, h1, h2⟩, h' => ⟨d, _, rfl, h1, h2.append h'⟩
theorem Wild.get : ∀ {l s : List Nat} (i : Nat), Wild l s → i < l.length → (l.getD i 0 = s.getD i 0 ∨ l.getD i 0 = 256 ∧ 48 ≤ s.getD i 0 ∧ s.getD i 0 ≤ 57)
  | [], _, _, _, h => by simp at h
  | _ :: _, _, 0, ⟨_, _, rfl, h, _⟩, _ => by simpa using h
  | _ :: _, _, i + 1, ⟨_, _, rfl, _, h⟩, hi => by simpa using Wild.get i h (by simpa using hi)
theorem Wild.eq_of_plain : ∀ {l s : List Nat}, Wild l s → l.all (fun c => c != 256) = true → s = l
  | [], _, h, _ => h
  | c :: l, _, ⟨d, r, rfl, h1, h2⟩, h => by
    simp only [List.all_cons, Bool.and_eq_true, bne_iff_ne, ne_eq] at h
    rw [h2.eq_of_plain h.2]
    rcases h1 with rfl | ⟨h3, _⟩
    · rfl
    · exact absurd h3 h.1

set_option linter.unusedSectionVars false
variable [Syms]

mutual
def Rel (M : Mem) (β : Places) : V → Value → Prop
  | .bool b, c => c = .bool b
  | .int k n, c => c = .int k n
  | .str l, c => ∃ s, c = .string s ∧ bytesOf s = l
  | .nilPtr, c => c = .pointer none
  | .ptr b off, c => ∃ i, β b = some i ∧ c = .pointer (some ⟨i.blk, i.off + off, none⟩)
  | .rptr row off, c => ∃ B O, RelRow M β row B O ∧ c = .pointer (some ⟨B, O + off, none⟩)
  | .nilSlice, c => c = .slice none 0 0
  | .slice b off len cap, c => ∃ i n, β b = some i ∧ len ≤ n ∧ (∀ k, cap = some k → k = n) ∧ (cap = none → i.ext ≤ off + n * i.esz) ∧ i.off + off + n * i.esz ≤ i.size ∧
      ∃ a, c = .slice (some a) len n ∧ (n ≠ 0 → a = ⟨i.blk, i.off + off, none⟩)
  | .rslice row off len cap, c => ∃ B O n, RelRow M β row B O ∧ len ≤ n ∧ (∀ k, cap = some k → k = n) ∧ ∃ a, c = .slice (some a) len n ∧ (n ≠ 0 → a = ⟨B, O + off, none⟩)
  | .nilMap, c => c = .map none
  | .map b, c => ∃ i, β b = some i ∧ c = .map (some i.blk)
  | .rmap ks vs, c => ∃ r es clock, c = .map (some r) ∧ M.o r = some (.map es clock) ∧ RelKs M β ks es.toList ∧ RelVs M β vs es.toList ∧ (∀ e ∈ es.toList, e.born < clock) ∧ (es.toList.map (·.born)).Nodup
  | .func fn first captured, c => ∃ fn' a b, FnRel β fn fn' ∧ c = .func fn' a b ∧ RelL M β first a.toList ∧ RelL M β captured b.toList
  | .nilFunc, c => c = .nilFunc
  | .iface t v, c => ∃ d, c = .iface t d ∧ Rel M β v d
  | .nilIface, c => c = .nilIface
  | .agg cs, c => ∃ a, c = .agg a ∧ RelL M β cs a.toList
  | .tuple cs, c => ∃ a, c = .tuple a ∧ RelL M β cs a.toList
  | .sym x, c => ∃ n, c = .int x.kind n ∧ x.Means n
  | .sstr l, c => ∃ s, c = .string s ∧ Wild l (bytesOf s)
/-- A row that is never written any more. -/
def RelRow (M : Mem) (β : Places) : List V → Nat → Nat → Prop
  | [], _, _ => True
  | v :: vs, B, O => (∃ c, M.c ⟨B, O, none⟩ = some c ∧ v.imm = true ∧ v.one = true ∧ Rel M β v c) ∧ RelRow M β vs B (O + 1)
def RelL (M : Mem) (β : Places) : List V → List Value → Prop
  | [], l => l = []
  | v :: vs, l => ∃ c cs, l = c :: cs ∧ Rel M β v c ∧ RelL M β vs cs
def RelKs (M : Mem) (β : Places) : List V → List MapEntry → Prop
  | [], l => l = []
  | v :: vs, l => ∃ c cs, l = c :: cs ∧ v.imm = true ∧ Rel M β v c.key ∧ RelKs M β vs cs
def RelVs (M : Mem) (β : Places) : List V → List MapEntry → Prop
  | [], l => l = []
  | v :: vs, l => ∃ c cs, l = c :: cs ∧ v.imm = true ∧ Rel M β v c.val ∧ RelVs M β vs cs
end

mutual
theorem Rel.mono {M M' : Mem} {β β' : Places} (hM : M.le M') (hβ : β.le β') : ∀ (v : V) (c : Value), Rel M β v c → Rel M' β' v c
  | .bool _, _, h | .int _ _, _, h | .str _, _, h | .nilPtr, _, h | .nilSlice, _, h | .nilMap, _, h | .nilFunc, _, h | .nilIface, _, h | .sym _, _, h | .sstr _, _, h => by simpa only [Rel] using h
  | .ptr b off, c, h => by simp only [Rel] at h ⊢; obtain ⟨i, hi, e⟩ := h; exact ⟨i, hβ _ _ hi, e⟩
  | .rptr row off, c, h => by simp only [Rel] at h ⊢; obtain ⟨B, O, hr, e⟩ := h; exact ⟨B, O, RelRow.mono hM hβ _ _ _ hr, e⟩
  | .slice b off len cap, c, h => by simp only [Rel] at h ⊢; obtain ⟨i, n, hi, r⟩ := h; exact ⟨i, n, hβ _ _ hi, r⟩
  | .rslice row off len cap, c, h => by simp only [Rel] at h ⊢; obtain ⟨B, O, n, hr, r⟩ := h; exact ⟨B, O, n, RelRow.mono hM hβ _ _ _ hr, r⟩
  | .map b, c, h => by simp only [Rel] at h ⊢; obtain ⟨i, hi, e⟩ := h; exact ⟨i, hβ _ _ hi, e⟩
  | .rmap ks vs, c, h => by
    simp only [Rel] at h ⊢
    obtain ⟨r, es, clock, e, ho, hk, hv, hb⟩ := h
    exact ⟨r, es, clock, e, hM.2 _ _ ho, RelKs.mono hM hβ _ _ hk, RelVs.mono hM hβ _ _ hv, hb⟩
  | .func fn a b, c, h => by simp only [Rel] at h ⊢; obtain ⟨f', x, y, hf, e, ha, hb⟩ := h; exact ⟨f', x, y, hf.mono hβ, e, RelL.mono hM hβ _ _ ha, RelL.mono hM hβ _ _ hb⟩
  | .iface t v, c, h => by simp only [Rel] at h ⊢; obtain ⟨d, e, hd⟩ := h; exact ⟨d, e, Rel.mono hM hβ _ _ hd⟩
  | .agg cs, c, h => by simp only [Rel] at h ⊢; obtain ⟨a, e, ha⟩ := h; exact ⟨a, e, RelL.mono hM hβ _ _ ha⟩
  | .tuple cs, c, h => by simp only [Rel] at h ⊢; obtain ⟨a, e, ha⟩ := h; exact ⟨a, e, RelL.mono hM hβ _ _ ha⟩
theorem RelRow.mono {M M' : Mem} {β β' : Places} (hM : M.le M') (hβ : β.le β') : ∀ (l : List V) (B O : Nat), RelRow M β l B O → RelRow M' β' l B O
  | [], _, _, _ => by simp only [RelRow]
  | v :: vs, B, O, h => by
    simp only [RelRow] at h ⊢
    obtain ⟨⟨c, hc, hi, ho, hr⟩, ht⟩ := h
    exact ⟨⟨c, hM.1 _ _ hc, hi, ho, Rel.mono hM hβ _ _ hr⟩, RelRow.mono hM hβ _ _ _ ht⟩
theorem RelL.mono {M M' : Mem} {β β' : Places} (hM : M.le M') (hβ : β.le β') : ∀ (l : List V) (cs : List Value), RelL M β l cs → RelL M' β' l cs
  | [], _, h => by simpa only [RelL] using h
  | v :: vs, l, h => by
    simp only [RelL] at h ⊢
    obtain ⟨c, cs, e, hr, ht⟩ := h
    exact ⟨c, cs, e, Rel.mono hM hβ _ _ hr, RelL.mono hM hβ _ _ ht⟩
theorem RelKs.mono {M M' : Mem} {β β' : Places} (hM : M.le M') (hβ : β.le β') : ∀ (l : List V) (cs : List MapEntry), RelKs M β l cs → RelKs M' β' l cs
  | [], _, h => by simpa only [RelKs] using h
  | v :: vs, l, h => by
    simp only [RelKs] at h ⊢
    obtain ⟨c, cs, e, hi, hr, ht⟩ := h
    exact ⟨c, cs, e, hi, Rel.mono hM hβ _ _ hr, RelKs.mono hM hβ _ _ ht⟩
theorem RelVs.mono {M M' : Mem} {β β' : Places} (hM : M.le M') (hβ : β.le β') : ∀ (l : List V) (cs : List MapEntry), RelVs M β l cs → RelVs M' β' l cs
  | [], _, h => by simpa only [RelVs] using h
  | v :: vs, l, h => by
    simp only [RelVs] at h ⊢
    obtain ⟨c, cs, e, hi, hr, ht⟩ := h
    exact ⟨c, cs, e, hi, Rel.mono hM hβ _ _ hr, RelVs.mono hM hβ _ _ ht⟩
end

end Go.Abs

/-
  ABS, part 5: a run's heap and the world: what holds between them, and how a change of one object's block leaves the rest.
-/
namespace Go.Abs
open Go Go.RowKit
set_option linter.unusedSectionVars false
variable [Syms]

mutual
theorem Rel.imm {M : Mem} {β β' : Places} : ∀ (v : V) (c : Value), v.imm = true → Rel M β v c → Rel M β' v c
  | .bool _, _, _, h | .int _ _, _, _, h | .str _, _, _, h | .nilPtr, _, _, h | .nilSlice, _, _, h | .nilMap, _, _, h | .nilFunc, _, _, h | .nilIface, _, _, h | .sym _, _, _, h | .sstr _, _, _, h => by simpa only [Rel] using h
  | .ptr b off, c, hi, h => by simp [V.imm] at hi
  | .rptr row off, c, _, h => by simp only [Rel] at h ⊢; obtain ⟨B, O, hr, e⟩ := h; exact ⟨B, O, RelRow.imm _ _ _ hr, e⟩
  | .slice b off len cap, c, hi, h => by simp [V.imm] at hi
  | .rslice row off len cap, c, _, h => by simp only [Rel] at h ⊢; obtain ⟨B, O, n, hr, r⟩ := h; exact ⟨B, O, n, RelRow.imm _ _ _ hr, r⟩
  | .map b, c, hi, h => by simp [V.imm] at hi
  | .rmap ks vs, c, _, h => by
    simp only [Rel] at h ⊢
    obtain ⟨r, es, clock, e, ho, hk, hv, hb⟩ := h
    exact ⟨r, es, clock, e, ho, RelKs.imm _ _ hk, RelVs.imm _ _ hv, hb⟩
  | .func fn a b, c, hi, h => by
    simp only [V.imm, Bool.and_eq_true] at hi
    simp only [Rel] at h ⊢; obtain ⟨f', x, y, hf, e, ha, hb⟩ := h; exact ⟨f', x, y, hf.plain hi.1.1, e, RelL.imm _ _ hi.1.2 ha, RelL.imm _ _ hi.2 hb⟩
  | .iface t v, c, hi, h => by
    simp only [V.imm] at hi
    simp only [Rel] at h ⊢; obtain ⟨d, e, hd⟩ := h; exact ⟨d, e, Rel.imm _ _ hi hd⟩
  | .agg cs, c, hi, h => by
    simp only [V.imm] at hi
    simp only [Rel] at h ⊢; obtain ⟨a, e, ha⟩ := h; exact ⟨a, e, RelL.imm _ _ hi ha⟩
  | .tuple cs, c, hi, h => by
    simp only [V.imm] at hi
    simp only [Rel] at h ⊢; obtain ⟨a, e, ha⟩ := h; exact ⟨a, e, RelL.imm _ _ hi ha⟩
theorem RelRow.imm {M : Mem} {β β' : Places} : ∀ (l : List V) (B O : Nat), RelRow M β l B O → RelRow M β' l B O
  | [], _, _, _ => by simp only [RelRow]
  | v :: vs, B, O, h => by
    simp only [RelRow] at h ⊢
    obtain ⟨⟨c, hc, hi, ho, hr⟩, ht⟩ := h
    exact ⟨⟨c, hc, hi, ho, Rel.imm _ _ hi hr⟩, RelRow.imm _ _ _ ht⟩
theorem RelL.imm {M : Mem} {β β' : Places} : ∀ (l : List V) (cs : List Value), V.imm.imms l = true → RelL M β l cs → RelL M β' l cs
  | [], _, _, h => by simpa only [RelL] using h
  | v :: vs, l, hi, h => by
    simp only [V.imm.imms, Bool.and_eq_true] at hi
    simp only [RelL] at h ⊢
    obtain ⟨c, cs, e, hr, ht⟩ := h
    exact ⟨c, cs, e, Rel.imm _ _ hi.1 hr, RelL.imm _ _ hi.2 ht⟩
theorem RelKs.imm {M : Mem} {β β' : Places} : ∀ (l : List V) (cs : List MapEntry), RelKs M β l cs → RelKs M β' l cs
  | [], _, h => by simpa only [RelKs] using h
  | v :: vs, l, h => by
    simp only [RelKs] at h ⊢
    obtain ⟨c, cs, e, hi, hr, ht⟩ := h
    exact ⟨c, cs, e, hi, Rel.imm _ _ hi hr, RelKs.imm _ _ ht⟩
theorem RelVs.imm {M : Mem} {β β' : Places} : ∀ (l : List V) (cs : List MapEntry), RelVs M β l cs → RelVs M β' l cs
  | [], _, h => by simpa only [RelVs] using h
  | v :: vs, l, h => by
    simp only [RelVs] at h ⊢
    obtain ⟨c, cs, e, hi, hr, ht⟩ := h
    exact ⟨c, cs, e, hi, Rel.imm _ _ hi hr, RelVs.imm _ _ ht⟩
end

/-- A map's entries. -/
def RelEnt (M : Mem) (β : Places) : List (V × V × Nat) → List MapEntry → Prop
  | [], l => l = []
  | e :: es, l => ∃ m ms, l = m :: ms ∧ Rel M β e.1 m.key ∧ Rel M β e.2.1 m.val ∧ m.born = e.2.2 ∧ RelEnt M β es ms

theorem RelEnt.mono {M M' : Mem} {β β' : Places} (hM : M.le M') (hβ : β.le β') : ∀ (l : List (V × V × Nat)) (cs : List MapEntry), RelEnt M β l cs → RelEnt M' β' l cs
  | [], _, h => h
  | _ :: es, _, ⟨m, ms, e, h1, h2, h3, h4⟩ => ⟨m, ms, e, Rel.mono hM hβ _ _ h1, Rel.mono hM hβ _ _ h2, h3, RelEnt.mono hM hβ es ms h4⟩

structure CellsOk (M : Mem) (β : Places) (w : World) (i : Place) (cs : List V) (fz : Nat) (arr : Array Value) (T : TypeId) (fr : Nat × Nat) : Prop where
  blk : w.heap[i.blk]? = some (.cells arr T fr)
  size : arr.size = i.size
  thaw : ∀ k, k < arr.size → (decide (fr.1 ≤ k) && decide (k < fr.2)) = false
  fits : i.off + cs.length ≤ arr.size
  rel : ∀ k v, cs[k]? = some v → v.one = true ∧ ∃ c, arr[i.off + k]? = some c ∧ Rel M β v c
  fzle : fz ≤ cs.length
  ice : fz = cs.length → ∀ k c, k < cs.length → arr[i.off + k]? = some c → M.c ⟨i.blk, i.off + k, none⟩ = some c
  free : ∀ a c, M.c a = some c → a.block = i.blk → a.off < i.off + fz

def ObjSim (M : Mem) (β : Places) (w : World) (i : Place) : AObj → Prop
  | .cells cs esz fz false => esz = i.esz ∧ cs.length = i.ext ∧ ∃ arr T fr, CellsOk M β w i cs fz arr T fr
  | .cells cs esz _ true => esz = i.esz ∧ cs.length = i.ext ∧ ∀ k v, cs[k]? = some v → v.one = true ∧ ∃ c, M.c ⟨i.blk, i.off + k, none⟩ = some c ∧ Rel M β v c
  | .map es clock fzn => ∃ ces, w.heap[i.blk]? = some (.map ces clock) ∧ RelEnt M β es ces.toList ∧ (∀ e ∈ ces.toList, e.born < clock) ∧ (ces.toList.map (·.born)).Nodup ∧
      (fzn = true → M.o i.blk = some (.map ces clock)) ∧ (fzn = false → M.o i.blk = none)
  | .mapIter m since seen last => (∃ r, w.heap[i.blk]? = some (.mapIter r since seen.toArray last) ∧ (match m with | none => r = none | some b => ∃ j, β b = some j ∧ r = some j.blk)) ∧ M.o i.blk = none ∧ i.off = 0
  | .rmapIter ks vs seen => (∃ r ces clock last, w.heap[i.blk]? = some (.mapIter (some r) clock (seen.map fun k => ((ces.toList[k]?).map (·.born)).getD 0).toArray last) ∧
      (∀ k ∈ seen, k < ks.length) ∧ last = clock ∧
      M.o r = some (.map ces clock) ∧ RelKs M β ks ces.toList ∧ RelVs M β vs ces.toList ∧ (∀ e ∈ ces.toList, e.born < clock) ∧ (ces.toList.map (·.born)).Nodup) ∧ M.o i.blk = none ∧ i.off = 0
  | .strIter s pos => (∃ bs, w.heap[i.blk]? = some (.stringIter bs pos) ∧ Wild s ((bytesOf bs).drop pos)) ∧ M.o i.blk = none ∧ i.off = 0
  | .loop busy => (∃ r, i.lp = some r ∧ r.pending = none ∧ w.heap[i.blk]? = some (.loop { r with state := if busy then .busy else .ready })) ∧ M.o i.blk = none
  | .shut => w.heap[i.blk]? = some (.deferred (some [])) ∧ M.o i.blk = none

def AObj.owns : AObj → Bool
  | .cells _ _ _ spent => !spent
  | _ => true

def upd (h : View) (b : Nat) (o : Option AObj) : View := fun x => if x = b then o else h x
theorem upd_eq (h : View) (b : Nat) (o : Option AObj) : upd h b o b = o := if_pos rfl
theorem upd_ne (h : View) {b x : Nat} (o : Option AObj) (e : x ≠ b) : upd h b o x = h x := if_neg e
theorem get_put (t : Heap) (b : Nat) (o : Option AObj) : (t.put b o).get = upd t.get b o := funext fun x => T.get_put t b x o
theorem get_set (t : Heap) (b : Nat) (o : AObj) : (t.set b o).get = upd t.get b (some o) := get_put t b _

structure Sim (M : Mem) (β : Places) (h : View) (w0 w : World) : Prop where
  below : Below w0.heap.size w0 w
  mem : ∀ a c, M.c a = some c → w.cell? a = some c
  memo : ∀ r o, M.o r = some o → w.heap[r]? = some o
  maps : ∀ r o, M.o r = some o → ∃ es clock, o = .map es clock
  sane : ∀ b i, β b = some i → i.blk < w.heap.size
  obj : ∀ b o, h b = some o → ∃ i, β b = some i ∧ w0.heap.size ≤ i.blk ∧ ObjSim M β w i o
  sep : ∀ b b' o o' i i', b ≠ b' → h b = some o → h b' = some o' → β b = some i → β b' = some i' → o.owns = true → o'.owns = true → i.blk ≠ i'.blk

/-- From w to w' block B alone may have turned, and there nothing that is never written any more; blocks may have come. -/
structure Keeps (M : Mem) (B : Nat) (w w' : World) : Prop where
  os : w'.os = w.os
  tape : w'.tape = w.tape
  output : w'.output = w.output
  size : w.heap.size ≤ w'.heap.size
  other : ∀ r, r ≠ B → r < w.heap.size → w'.heap[r]? = w.heap[r]?
  cells : ∀ a c, M.c a = some c → w.cell? a = some c → w'.cell? a = some c
  objs : ∀ r o, M.o r = some o → w.heap[r]? = some o → w'.heap[r]? = some o

theorem cell?_eq {w w' : World} {a : Addr} (h : w'.heap[a.block]? = w.heap[a.block]?) : w'.cell? a = w.cell? a := by
  unfold World.cell?; rw [h]

theorem lt_of_cell? {w : World} {a : Addr} {c : Value} (h : w.cell? a = some c) : a.block < w.heap.size := by
  unfold World.cell? at h
  by_cases hb : a.block < w.heap.size
  · exact hb
  · rw [Array.getElem?_eq_none (Nat.le_of_not_lt hb)] at h; simp at h

theorem lt_of_get? {w : World} {r : Nat} {o : Go.Obj} (h : w.heap[r]? = some o) : r < w.heap.size := by
  by_cases hb : r < w.heap.size
  · exact hb
  · rw [Array.getElem?_eq_none (Nat.le_of_not_lt hb)] at h; simp at h

theorem CellsOk.mono {M : Mem} {β β' : Places} (hβ : β.le β') {w : World} {i : Place} {cs : List V} {fz : Nat} {arr : Array Value} {T : TypeId} {fr : Nat × Nat} (h : CellsOk M β w i cs fz arr T fr) :
    CellsOk M β' w i cs fz arr T fr :=
  ⟨h.blk, h.size, h.thaw, h.fits, fun k v hk => let ⟨h1, c, hc, hr⟩ := h.rel k v hk; ⟨h1, c, hc, Rel.mono (.refl M) hβ _ _ hr⟩, h.fzle, h.ice, h.free⟩

theorem ObjSim.mono {M : Mem} {β β' : Places} (hβ : β.le β') {w : World} {i : Place} : ∀ {o : AObj}, ObjSim M β w i o → ObjSim M β' w i o
  | .cells _ _ _ false, ⟨h1, h2, arr, T, fr, h⟩ => ⟨h1, h2, arr, T, fr, h.mono hβ⟩
  | .cells _ _ _ true, ⟨h1, h2, h3⟩ => ⟨h1, h2, fun k v hk => let ⟨h4, c, hc, hr⟩ := h3 k v hk; ⟨h4, c, hc, Rel.mono (.refl M) hβ _ _ hr⟩⟩
  | .map _ _ _, ⟨ces, h1, h2, h3⟩ => ⟨ces, h1, RelEnt.mono (.refl M) hβ _ _ h2, h3⟩
  | .mapIter none _ _ _, h => h
  | .mapIter (some _) _ _ _, ⟨⟨r, h1, j, hj, e⟩, h2⟩ => ⟨⟨r, h1, j, hβ _ _ hj, e⟩, h2⟩
  | .rmapIter _ _ _, ⟨⟨r, ces, clock, last, h1, h3, h4, h5, h6, h7, h8⟩, h9⟩ => ⟨⟨r, ces, clock, last, h1, h3, h4, h5, RelKs.mono (.refl M) hβ _ _ h6, RelVs.mono (.refl M) hβ _ _ h7, h8⟩, h9⟩
  | .strIter _ _, h => h
  | .loop _, h => h
  | .shut, h => h

theorem ObjSim.change {M : Mem} {β : Places} {w w' : World} {B : Nat} (k : Keeps M B w w') {i : Place} (hlt : i.blk < w.heap.size) : ∀ {o : AObj}, (o.owns = true → i.blk ≠ B) → ObjSim M β w i o → ObjSim M β w' i o
  | .cells _ _ _ false, hne, ⟨h1, h2, arr, T, fr, h⟩ => ⟨h1, h2, arr, T, fr, ⟨by rw [k.other _ (hne rfl) hlt]; exact h.blk, h.size, h.thaw, h.fits, h.rel, h.fzle, h.ice, h.free⟩⟩
  | .cells _ _ _ true, _, h => h
  | .map _ _ _, hne, ⟨ces, h1, h2⟩ => ⟨ces, by rw [k.other _ (hne rfl) hlt]; exact h1, h2⟩
  | .mapIter none _ _ _, hne, ⟨⟨r, h1, h2⟩, h3⟩ => ⟨⟨r, by rw [k.other _ (hne rfl) hlt]; exact h1, h2⟩, h3⟩
  | .mapIter (some _) _ _ _, hne, ⟨⟨r, h1, h2⟩, h3⟩ => ⟨⟨r, by rw [k.other _ (hne rfl) hlt]; exact h1, h2⟩, h3⟩
  | .rmapIter _ _ _, hne, ⟨⟨r, ces, clock, last, h1, h2⟩, h3⟩ => ⟨⟨r, ces, clock, last, by rw [k.other _ (hne rfl) hlt]; exact h1, h2⟩, h3⟩
  | .strIter _ _, hne, ⟨⟨bs, h1, h2⟩, h3⟩ => ⟨⟨bs, by rw [k.other _ (hne rfl) hlt]; exact h1, h2⟩, h3⟩
  | .loop _, hne, ⟨⟨r, h1, h2, h4⟩, h3⟩ => ⟨⟨r, h1, h2, by rw [k.other _ (hne rfl) hlt]; exact h4⟩, h3⟩
  | .shut, hne, ⟨h1, h3⟩ => ⟨by rw [k.other _ (hne rfl) hlt]; exact h1, h3⟩

section
variable {M : Mem} {β : Places} {h : View} {w0 w w' : World}

theorem Sim.base (S : Sim M β h w0 w) : w0.heap.size ≤ w.heap.size := S.below.size

/-- A block that no object owns may turn. -/
theorem Sim.change (S : Sim M β h w0 w) {B : Nat} (k : Keeps M B w w') (hB : w0.heap.size ≤ B) (hno : ∀ b o i, h b = some o → β b = some i → o.owns = true → i.blk ≠ B) : Sim M β h w0 w' where
  below := S.below.trans ⟨k.os, k.tape, k.output, k.size, fun r hr => k.other r (by omega) (by have := S.base; omega)⟩
  mem a c e := k.cells a c e (S.mem a c e)
  memo r o e := k.objs r o e (S.memo r o e)
  maps := S.maps
  sane b i e := Nat.lt_of_lt_of_le (S.sane b i e) k.size
  obj b o e := by
    obtain ⟨i, hi, hb, ho⟩ := S.obj b o e
    exact ⟨i, hi, hb, ho.change k (S.sane b i hi) (hno b o i e hi)⟩
  sep := S.sep

theorem Sim.drop (S : Sim M β h w0 w) (b : Nat) : Sim M β (upd h b none) w0 w where
  below := S.below
  mem := S.mem
  memo := S.memo
  maps := S.maps
  sane := S.sane
  obj x o e := by
    by_cases hx : x = b
    · subst hx; rw [upd_eq] at e; cases e
    · rw [upd_ne _ _ hx] at e; exact S.obj x o e
  sep x y o o' i i' hne e e' := by
    by_cases hx : x = b
    · subst hx; rw [upd_eq] at e; cases e
    · by_cases hy : y = b
      · subst hy; rw [upd_eq] at e'; cases e'
      · rw [upd_ne _ _ hx] at e; rw [upd_ne _ _ hy] at e'; exact S.sep x y o o' i i' hne e e'

theorem Sim.put (S : Sim M β h w0 w) {b : Nat} {i : Place} {o : AObj} (hi : β b = some i) (hb : w0.heap.size ≤ i.blk) (ho : ObjSim M β w i o)
    (hsep : o.owns = true → ∀ b' o' i', b' ≠ b → h b' = some o' → β b' = some i' → o'.owns = true → i'.blk ≠ i.blk) : Sim M β (upd h b (some o)) w0 w where
  below := S.below
  mem := S.mem
  memo := S.memo
  maps := S.maps
  sane := S.sane
  obj x o' e := by
    by_cases hx : x = b
    · subst hx; rw [upd_eq] at e; cases e; exact ⟨i, hi, hb, ho⟩
    · rw [upd_ne _ _ hx] at e; exact S.obj x o' e
  sep x y o1 o2 i1 i2 hne e1 e2 p1 p2 n1 n2 := by
    by_cases hx : x = b
    · subst hx
      rw [upd_eq] at e1; cases e1
      rw [hi] at p1; cases p1
      rw [upd_ne _ _ (Ne.symm hne)] at e2
      exact Ne.symm (hsep n1 y o2 i2 (Ne.symm hne) e2 p2 n2)
    · rw [upd_ne _ _ hx] at e1
      by_cases hy : y = b
      · subst hy
        rw [upd_eq] at e2; cases e2
        rw [hi] at p2; cases p2
        exact hsep n2 x o1 i1 hx e1 p1 n1
      · rw [upd_ne _ _ hy] at e2; exact S.sep x y o1 o2 i1 i2 hne e1 e2 p1 p2 n1 n2

theorem Sim.more (S : Sim M β h w0 w) {β' : Places} (hβ : β.le β') (hs : ∀ b i, β' b = some i → i.blk < w.heap.size) : Sim M β' h w0 w where
  below := S.below
  mem := S.mem
  memo := S.memo
  maps := S.maps
  sane := hs
  obj x o e := by
    obtain ⟨i, hi, hb, ho⟩ := S.obj x o e
    exact ⟨i, hβ _ _ hi, hb, ho.mono hβ⟩
  sep x y o1 o2 i1 i2 hne e1 e2 p1 p2 := by
    obtain ⟨j1, q1, _⟩ := S.obj x o1 e1
    obtain ⟨j2, q2, _⟩ := S.obj y o2 e2
    have a1 := hβ _ _ q1; rw [p1] at a1; cases a1
    have a2 := hβ _ _ q2; rw [p2] at a2; cases a2
    exact S.sep x y o1 o2 i1 i2 hne e1 e2 q1 q2

theorem Sim.none_of (S : Sim M β h w0 w) {b : Nat} (hb : β b = none) : h b = none := by
  cases e : h b with
  | none => rfl
  | some o => obtain ⟨i, hi, _⟩ := S.obj b o e; rw [hb] at hi; cases hi

/-- Places with one more. -/
def Places.set (β : Places) (b : Nat) (i : Place) : Places := fun x => if x = b then some i else β x
theorem Places.set_eq (β : Places) (b : Nat) (i : Place) : β.set b i b = some i := if_pos rfl
theorem Places.set_ne (β : Places) {b x : Nat} (i : Place) (e : x ≠ b) : β.set b i x = β x := if_neg e
theorem Places.le_set (β : Places) {b : Nat} (i : Place) (hb : β b = none) : β.le (β.set b i) := by
  intro x j hx
  by_cases e : x = b
  · subst e; rw [hb] at hx; cases hx
  · rw [Places.set_ne _ _ e]; exact hx

/-- A new object, under a number that nobody has, in a block that nobody owns. -/
theorem Sim.add (S : Sim M β h w0 w) {b : Nat} {i : Place} {o : AObj} (hb : β b = none) (hB : w0.heap.size ≤ i.blk) (hlt : i.blk < w.heap.size) (ho : ObjSim M (β.set b i) w i o)
    (hsep : ∀ b' o' i', h b' = some o' → β b' = some i' → o'.owns = true → i'.blk ≠ i.blk) : Sim M (β.set b i) (upd h b (some o)) w0 w := by
  have S' : Sim M (β.set b i) h w0 w := S.more (β.le_set i hb) (fun x j hx => by
    by_cases e : x = b
    · subst e; rw [Places.set_eq] at hx; cases hx; exact hlt
    · rw [Places.set_ne _ _ e] at hx; exact S.sane x j hx)
  refine S'.put (Places.set_eq _ _ _) hB ho (fun _ b' o' i' hne he hi hown => hsep b' o' i' he ?_ hown)
  rw [Places.set_ne _ _ hne] at hi; exact hi

/-- A new block. -/
theorem Keeps.alloc (o : Go.Obj) : Keeps M w.heap.size w (w.alloc o) where
  os := rfl
  tape := rfl
  output := rfl
  size := by simp
  other r _ hr := Below.heap_alloc _ _ _ hr
  cells a c _ e := by rw [← e]; exact cell?_eq (Below.heap_alloc _ _ _ (lt_of_cell? e))
  objs r o _ e := by rw [← e]; exact Below.heap_alloc _ _ _ (lt_of_get? e)

theorem Sim.alloc (S : Sim M β h w0 w) (o : Go.Obj) : Sim M β h w0 (w.alloc o) :=
  S.change (.alloc o) S.base (fun b _ i _ hi _ => by have := S.sane b i hi; omega)

theorem Sim.drew (S : Sim M β h w0 w) : Sim M β h w0 w.drew where
  below := S.below.drew
  mem := S.mem
  memo := S.memo
  maps := S.maps
  sane := S.sane
  obj b o e := by
    obtain ⟨i, hi, hb, ho⟩ := S.obj b o e
    exact ⟨i, hi, hb, ho.change (B := w.heap.size) (w := w) (w' := w.drew) ⟨rfl, rfl, rfl, Nat.le_refl _, fun _ _ _ => rfl, fun _ _ _ e => e, fun _ _ _ e => e⟩ (S.sane b i hi) (fun _ => by have := S.sane b i hi; omega)⟩
  sep := S.sep
end
end Go.Abs

/-
  ABS, part 6: rows of related values; reading and writing cells.
-/
namespace Go.Abs
open Go Go.RowKit
set_option linter.unusedSectionVars false
variable [Syms]

section
variable {M : Mem} {β : Places}

theorem RelL.length : ∀ {l : List V} {cs : List Value}, RelL M β l cs → cs.length = l.length
  | [], _, h => by simp only [RelL] at h; subst h; rfl
  | v :: vs, _, h => by
    simp only [RelL] at h
    obtain ⟨c, cs, rfl, _, ht⟩ := h
    simp [RelL.length ht]

theorem RelL.get : ∀ {l : List V} {cs : List Value}, RelL M β l cs → ∀ {k : Nat} {v : V}, l[k]? = some v → ∃ c, cs[k]? = some c ∧ Rel M β v c
  | [], _, _, k, v, hk => by simp at hk
  | x :: xs, _, h, k, v, hk => by
    simp only [RelL] at h
    obtain ⟨c, cs, rfl, hr, ht⟩ := h
    cases k with
    | zero => simp at hk; subst hk; exact ⟨c, rfl, hr⟩
    | succ k => simpa using RelL.get ht (by simpa using hk)

theorem RelL.of_get : ∀ {l : List V} {cs : List Value}, cs.length = l.length → (∀ (k : Nat) (v : V), l[k]? = some v → ∃ c, cs[k]? = some c ∧ Rel M β v c) → RelL M β l cs
  | [], cs, hl, _ => by simp only [RelL]; exact List.length_eq_zero_iff.1 hl
  | v :: vs, [], hl, _ => by simp at hl
  | v :: vs, c :: cs, hl, h => by
    simp only [RelL]
    obtain ⟨c', hc, hr⟩ := h 0 v rfl
    simp at hc; subst hc
    exact ⟨c, cs, rfl, hr, RelL.of_get (by simpa using hl) fun k v hk => by simpa using h (k + 1) v (by simpa using hk)⟩

theorem RelL.nil_iff {cs : List Value} : RelL M β [] cs ↔ cs = [] := by simp only [RelL]

theorem RelL.append {l l' : List V} {cs cs' : List Value} (h : RelL M β l cs) (h' : RelL M β l' cs') : RelL M β (l ++ l') (cs ++ cs') :=
  RelL.of_get (by simp [h.length, h'.length]) fun k v hk => by
    by_cases hlt : k < l.length
    · rw [List.getElem?_append_left hlt] at hk
      obtain ⟨c, hc, hr⟩ := h.get hk
      exact ⟨c, by rw [List.getElem?_append_left (by rw [h.length]; exact hlt)]; exact hc, hr⟩
    · rw [List.getElem?_append_right (by omega)] at hk
      obtain ⟨c, hc, hr⟩ := h'.get hk
      exact ⟨c, by rw [List.getElem?_append_right (by rw [h.length]; omega), h.length]; exact hc, hr⟩

theorem RelL.take {l : List V} {cs : List Value} (h : RelL M β l cs) (n : Nat) : RelL M β (l.take n) (cs.take n) :=
  RelL.of_get (by simp [h.length]) fun k v hk => by
    rw [List.getElem?_take] at hk ⊢
    split at hk
    · rw [if_pos (by assumption)]; exact h.get hk
    · cases hk

theorem RelL.drop {l : List V} {cs : List Value} (h : RelL M β l cs) (n : Nat) : RelL M β (l.drop n) (cs.drop n) :=
  RelL.of_get (by simp [h.length]) fun k v hk => by
    rw [List.getElem?_drop] at hk ⊢; exact h.get hk

theorem RelL.of_flat {l : List V} {cs : List Value} (h : RelL M β l cs) {v : V} (hv : v ∈ l) : ∃ c, Rel M β v c := by
  obtain ⟨k, hk⟩ := List.mem_iff_getElem?.1 hv
  obtain ⟨c, _, hr⟩ := h.get hk
  exact ⟨c, hr⟩

theorem Rel.cells {v : V} {c : Value} (h : Rel M β v c) : RelL M β v.cells c.cells.toList := by
  cases v with
  | agg cs => simp only [Rel] at h; obtain ⟨a, rfl, ha⟩ := h; exact ha
  | slice b off len cap => simp only [V.cells, RelL]; refine ⟨c, [], ?_, h, rfl⟩; simp only [Rel] at h; obtain ⟨i, n, _, _, _, _, _, a, rfl, _⟩ := h; rfl
  | rslice row off len cap => simp only [V.cells, RelL]; refine ⟨c, [], ?_, h, rfl⟩; simp only [Rel] at h; obtain ⟨i, n, _, _, _, _, a, rfl, _⟩ := h; rfl
  | str l => simp only [V.cells, RelL]; refine ⟨c, [], ?_, h, rfl⟩; simp only [Rel] at h; obtain ⟨s, rfl, _⟩ := h; rfl
  | ptr b off => simp only [V.cells, RelL]; refine ⟨c, [], ?_, h, rfl⟩; simp only [Rel] at h; obtain ⟨i, _, rfl⟩ := h; rfl
  | rptr b off => simp only [V.cells, RelL]; refine ⟨c, [], ?_, h, rfl⟩; simp only [Rel] at h; obtain ⟨i, _, _, rfl⟩ := h; rfl
  | map b => simp only [V.cells, RelL]; refine ⟨c, [], ?_, h, rfl⟩; simp only [Rel] at h; obtain ⟨i, _, rfl⟩ := h; rfl
  | rmap ks vs => simp only [V.cells, RelL]; refine ⟨c, [], ?_, h, rfl⟩; simp only [Rel] at h; obtain ⟨r, es, _, rfl, _⟩ := h; rfl
  | func f x y => simp only [V.cells, RelL]; refine ⟨c, [], ?_, h, rfl⟩; simp only [Rel] at h; obtain ⟨f', a, b, _, rfl, _⟩ := h; rfl
  | iface t v => simp only [V.cells, RelL]; refine ⟨c, [], ?_, h, rfl⟩; simp only [Rel] at h; obtain ⟨d, rfl, _⟩ := h; rfl
  | sym x => simp only [V.cells, RelL]; refine ⟨c, [], ?_, h, rfl⟩; simp only [Rel] at h; obtain ⟨n, rfl, _⟩ := h; rfl
  | sstr l => simp only [V.cells, RelL]; refine ⟨c, [], ?_, h, rfl⟩; simp only [Rel] at h; obtain ⟨s, rfl, _⟩ := h; rfl
  | tuple vs => simp only [V.cells, RelL]; refine ⟨c, [], ?_, h, rfl⟩; simp only [Rel] at h; obtain ⟨a, rfl, _⟩ := h; rfl
  | _ => simp only [V.cells, RelL]; refine ⟨c, [], ?_, h, rfl⟩; simp only [Rel] at h; subst h; rfl

theorem Rel.one {v : V} {c : Value} (h : Rel M β v c) : c.oneCell' = v.one := by
  cases v <;> simp only [Rel] at h
  case slice => obtain ⟨i, n, _, _, _, _, _, a, rfl, _⟩ := h; rfl
  case rslice => obtain ⟨i, n, _, _, _, _, a, rfl, _⟩ := h; rfl
  case str => obtain ⟨s, rfl, _⟩ := h; rfl
  case ptr => obtain ⟨i, _, rfl⟩ := h; rfl
  case rptr => obtain ⟨i, _, _, rfl⟩ := h; rfl
  case map => obtain ⟨i, _, rfl⟩ := h; rfl
  case rmap => obtain ⟨r, es, _, rfl, _⟩ := h; rfl
  case func => obtain ⟨f', a, b, _, rfl, _⟩ := h; rfl
  case iface => obtain ⟨d, rfl, _⟩ := h; rfl
  case agg => obtain ⟨a, rfl, _⟩ := h; rfl
  case tuple => obtain ⟨a, rfl, _⟩ := h; rfl
  case sym => obtain ⟨n, rfl, _⟩ := h; rfl
  case sstr => obtain ⟨s, rfl, _⟩ := h; rfl
  all_goals (subst h; rfl)

/-- One cell or a row of them, as a variable of the type reads. -/
theorem ofCells_rel {g : Bool} {cs : List V} {v : V} (h : ofCells g cs = some v) {l : List Value} (hl : RelL M β cs l) :
    (g = true → Rel M β v (.agg l.toArray)) ∧ (g = false → ∃ c, l = [c] ∧ Rel M β v c) := by
  unfold ofCells at h
  cases g with
  | true =>
    simp at h; subst h
    exact ⟨fun _ => by simp only [Rel]; exact ⟨_, rfl, hl⟩, fun h => by cases h⟩
  | false =>
    refine ⟨(fun h => by cases h), fun _ => ?_⟩
    match cs, h with
    | [x], h =>
      simp at h; subst h
      simp only [RelL] at hl
      obtain ⟨c, cs, rfl, hr, rfl⟩ := hl
      exact ⟨c, rfl, hr⟩

theorem RelRow.get : ∀ {l : List V} {B O : Nat}, RelRow M β l B O → ∀ {k : Nat} {v : V}, l[k]? = some v → ∃ c, M.c ⟨B, O + k, none⟩ = some c ∧ v.imm = true ∧ v.one = true ∧ Rel M β v c
  | [], _, _, _, k, v, hk => by simp at hk
  | x :: xs, B, O, h, k, v, hk => by
    simp only [RelRow] at h
    obtain ⟨⟨c, h1, h2, h3, h4⟩, ht⟩ := h
    cases k with
    | zero => simp at hk; subst hk; exact ⟨c, h1, h2, h3, h4⟩
    | succ k =>
      obtain ⟨c, h⟩ := RelRow.get ht (k := k) (by simpa using hk)
      rw [show O + 1 + k = O + (k + 1) by omega] at h
      exact ⟨c, h⟩

theorem RelRow.of_get : ∀ {l : List V} {B O : Nat}, (∀ (k : Nat) (v : V), l[k]? = some v → ∃ c, M.c ⟨B, O + k, none⟩ = some c ∧ v.imm = true ∧ v.one = true ∧ Rel M β v c) → RelRow M β l B O
  | [], _, _, _ => by simp only [RelRow]
  | x :: xs, B, O, h => by
    simp only [RelRow]
    refine ⟨by simpa using h 0 x rfl, RelRow.of_get fun k v hk => ?_⟩
    have := h (k + 1) v (by simpa using hk)
    rwa [show O + (k + 1) = O + 1 + k by omega] at this

theorem cellsAt_some {row cs : List V} {off n : Nat} (h : cellsAt row off n = some cs) : off + n ≤ row.length ∧ cs.length = n ∧ ∀ k v, cs[k]? = some v → row[off + k]? = some v := by
  unfold cellsAt at h
  split at h
  · rename_i hle
    cases h
    refine ⟨hle, by simp; omega, fun k v hk => ?_⟩
    rw [List.getElem?_take] at hk
    split at hk
    · rwa [List.getElem?_drop] at hk
    · cases hk
  · cases h

theorem add_none (B O k : Nat) : (⟨B, O, none⟩ : Addr).add k = ⟨B, O + k, none⟩ := by
  unfold Addr.add
  split
  · subst_vars; rfl
  · rfl

theorem frozen?_of {w : World} {a : Addr} {arr : Array Value} {T : TypeId} {fr : Nat × Nat} (h : w.heap[a.block]? = some (.cells arr T fr)) : w.frozen? a = (decide (fr.1 ≤ a.off) && decide (a.off < fr.2)) := by
  unfold World.frozen?; rw [h]

theorem cell?_of {w : World} {B k : Nat} {arr : Array Value} {T : TypeId} {fr : Nat × Nat} (h : w.heap[B]? = some (.cells arr T fr)) : w.cell? ⟨B, k, none⟩ = arr[k]? := by
  simp only [World.cell?, h]; rfl
end

section
variable {M : Mem} {β : Places} {h : View} {w0 w : World} {P : Program}

/-- An object's cell, read. -/
theorem Sim.cell (S : Sim M β h w0 w) {b : Nat} {cs : List V} {esz fz : Nat} {sp : Bool} (hb : h b = some (.cells cs esz fz sp)) :
    ∃ i, β b = some i ∧ esz = i.esz ∧ cs.length = i.ext ∧ ∀ k v, cs[k]? = some v → v.one = true ∧ ∃ c, w.cell? ⟨i.blk, i.off + k, none⟩ = some c ∧ Rel M β v c := by
  obtain ⟨i, hi, _, ho⟩ := S.obj _ _ hb
  cases sp with
  | false =>
    obtain ⟨h1, h2, arr, T, fr, hc⟩ := ho
    exact ⟨i, hi, h1, h2, fun k v hk => by obtain ⟨h3, c, h4, h5⟩ := hc.rel k v hk; exact ⟨h3, c, by rw [cell?_of hc.blk]; exact h4, h5⟩⟩
  | true =>
    obtain ⟨h1, h2, h3⟩ := ho
    exact ⟨i, hi, h1, h2, fun k v hk => by obtain ⟨h4, c, h5, h6⟩ := h3 k v hk; exact ⟨h4, c, S.mem _ _ h5, h6⟩⟩

/-- Cells from a place on: what is there in the world. -/
theorem Sim.readAt (S : Sim M β h w0 w) {g : View} (hg : ∀ b o, g b = some o → h b = some o) {p : V} {c : Value} (hp : Rel M β p c) {n : Nat} {cs : List V} (hr : readAt g p n = some cs) :
    ∃ B O l, c = .pointer (some ⟨B, O, none⟩) ∧ RelL M β cs l ∧ cs.length = n ∧ (∀ v ∈ cs, v.one = true) ∧ ∀ j v, l[j]? = some v → w.cell? ⟨B, O + j, none⟩ = some v := by
  cases p with
  | ptr b off =>
    simp only [Abs.readAt] at hr
    split at hr
    · rename_i cs' esz fz sp hb
      obtain ⟨hle, hlen, hget⟩ := cellsAt_some hr
      obtain ⟨i, hi, _, _, hrel⟩ := S.cell (hg _ _ hb)
      simp only [Rel] at hp
      obtain ⟨j, hj, rfl⟩ := hp
      rw [hi] at hj; cases hj
      let l := cs.mapIdx fun k _ => (w.cell? ⟨i.blk, i.off + off + k, none⟩).getD undef
      have hl : ∀ k v, cs[k]? = some v → ∃ c, w.cell? ⟨i.blk, i.off + off + k, none⟩ = some c ∧ v.one = true ∧ Rel M β v c := fun k v hk => by
        obtain ⟨h1, c, h2, h3⟩ := hrel _ _ (hget k v hk)
        rw [← Nat.add_assoc] at h2
        exact ⟨c, h2, h1, h3⟩
      refine ⟨i.blk, i.off + off, l, rfl, RelL.of_get (by simp [l]) fun k v hk => ?_, hlen, fun v hv => ?_, fun k v hk => ?_⟩
      · obtain ⟨c, h1, _, h3⟩ := hl k v hk
        exact ⟨c, by simp [l, List.getElem?_mapIdx, hk, h1], h3⟩
      · obtain ⟨k, hk⟩ := List.mem_iff_getElem?.1 hv
        obtain ⟨_, _, h2, _⟩ := hl k v hk
        exact h2
      · simp only [l, List.getElem?_mapIdx, Option.map_eq_some_iff] at hk
        obtain ⟨x, hx, rfl⟩ := hk
        obtain ⟨c, h1, _⟩ := hl k x hx
        rw [h1]; rfl
    · cases hr
  | rptr row off =>
    simp only [Abs.readAt] at hr
    obtain ⟨hle, hlen, hget⟩ := cellsAt_some hr
    simp only [Rel] at hp
    obtain ⟨B, O, hrow, rfl⟩ := hp
    let l := cs.mapIdx fun k _ => (w.cell? ⟨B, O + off + k, none⟩).getD undef
    have hl : ∀ k v, cs[k]? = some v → ∃ c, w.cell? ⟨B, O + off + k, none⟩ = some c ∧ v.one = true ∧ Rel M β v c := fun k v hk => by
      obtain ⟨c, h1, _, h3, h4⟩ := hrow.get (hget k v hk)
      rw [← Nat.add_assoc] at h1
      exact ⟨c, S.mem _ _ h1, h3, h4⟩
    refine ⟨B, O + off, l, rfl, RelL.of_get (by simp [l]) fun k v hk => ?_, hlen, fun v hv => ?_, fun k v hk => ?_⟩
    · obtain ⟨c, h1, _, h3⟩ := hl k v hk
      exact ⟨c, by simp [l, List.getElem?_mapIdx, hk, h1], h3⟩
    · obtain ⟨k, hk⟩ := List.mem_iff_getElem?.1 hv
      obtain ⟨_, _, h2, _⟩ := hl k v hk
      exact h2
    · simp only [l, List.getElem?_mapIdx, Option.map_eq_some_iff] at hk
      obtain ⟨x, hx, rfl⟩ := hk
      obtain ⟨c, h1, _⟩ := hl k x hx
      rw [h1]; rfl
  | _ => simp [Abs.readAt] at hr

theorem run_loadCells_at {B O : Nat} {l : List Value} (hl : ∀ j v, l[j]? = some v → w.cell? ⟨B, O + j, none⟩ = some v) : (loadCells ⟨B, O, none⟩ l.length).run P w = .ok l.toArray w :=
  run_loadCells_list (P := P) w ⟨B, O, none⟩ l fun j v hj => by rw [add_none]; exact hl j v hj

end
end Go.Abs

/-
  ABS, part 7: slots and operands; what it is for one operation to be followed.
-/
namespace Go.Abs
open Go Go.RowKit
set_option linter.unusedSectionVars false
variable [Syms]

theorem undef_rel (M : Mem) (β : Places) : Rel M β V.undef undef := by
  simp only [V.undef, Rel]; exact ⟨#[], rfl, by simp only [RelL]⟩

structure EnvRel (M : Mem) (β : Places) (N : Nat) (e : Env) (a : Act) : Prop where
  size : a.tmps.size = N
  rel : ∀ t, Rel M β (e.at t) (a.tmps.getD t undef)

theorem EnvRel.mono {M M' : Mem} {β β' : Places} (hM : M.le M') (hβ : β.le β') {N : Nat} {e : Env} {a : Act} (E : EnvRel M β N e a) : EnvRel M' β' N e a :=
  ⟨E.size, fun t => (E.rel t).mono hM hβ⟩

theorem at_set (e : Env) (d t : Nat) (v : V) : Env.at (e.set d v) t = if t = d then v else e.at t := by
  unfold Env.at
  rw [T.get_set]
  by_cases h : t = d <;> simp [h]

theorem EnvRel.put {M : Mem} {β : Places} {N : Nat} {e : Env} {a : Act} (E : EnvRel M β N e a) {d : Option Nat} (hd : ∀ t, d = some t → t < N) {v : V} {c : Value} (h : Rel M β v c) :
    EnvRel M β N (putDst e d v) (a.put d c) := by
  cases d with
  | none => exact E
  | some d =>
    refine ⟨by simp [Act.put, E.size], fun t => ?_⟩
    simp only [putDst, Act.put, at_set]
    by_cases ht : t = d
    · subst ht
      have := hd t rfl
      rw [if_pos rfl]
      simp [Array.getD, E.size, this, h]
    · rw [if_neg ht]
      have := E.rel t
      simpa [Array.getD_eq_getD_getElem?, Array.getElem?_setIfInBounds, Ne.symm ht] using this

theorem EnvRel.defers {M : Mem} {β : Places} {N : Nat} {e : Env} {a : Act} (E : EnvRel M β N e a) (ds : List Deferred) : EnvRel M β N e { a with defers := ds } := ⟨E.size, E.rel⟩

mutual
theorem ofConst_rel (M : Mem) (β : Places) : ∀ (d : Nat) (c : Value) (v : V), ofConst d c = some v → Rel M β v c
  | 0, _, _, h => by simp [ofConst] at h
  | d + 1, c, v, h => by
    unfold ofConst at h
    split at h
    all_goals first
      | (cases h; simp only [Rel]; done)
      | skip
    · cases h; simp only [Rel]; exact ⟨_, rfl, rfl⟩
    · split at h
      case isFalse => cases h
      case isTrue hny =>
        simp only [Option.bind_eq_some_iff, Option.map_eq_some_iff] at h
        obtain ⟨a, ha, b, hb, rfl⟩ := h
        simp only [Rel]
        exact ⟨_, _, _, FnRel.self β hny, rfl, ofConsts_rel M β d _ _ ha, ofConsts_rel M β d _ _ hb⟩
    · simp only [Option.map_eq_some_iff] at h
      obtain ⟨a, ha, rfl⟩ := h
      simp only [Rel]
      exact ⟨_, rfl, ofConst_rel M β d _ _ ha⟩
    · simp only [Option.map_eq_some_iff] at h
      obtain ⟨a, ha, rfl⟩ := h
      simp only [Rel]
      exact ⟨_, rfl, ofConsts_rel M β d _ _ ha⟩
    · simp only [Option.map_eq_some_iff] at h
      obtain ⟨a, ha, rfl⟩ := h
      simp only [Rel]
      exact ⟨_, rfl, ofConsts_rel M β d _ _ ha⟩
    · cases h
theorem ofConsts_rel (M : Mem) (β : Places) : ∀ (d : Nat) (c : List Value) (v : List V), ofConsts d c = some v → RelL M β v c
  | 0, _, _, h => by simp [ofConsts] at h
  | _ + 1, [], v, h => by simp [ofConsts] at h; subst h; simp only [RelL]
  | d + 1, c :: cs, v, h => by
    simp only [ofConsts, Option.bind_eq_some_iff, Option.map_eq_some_iff] at h
    obtain ⟨a, ha, b, hb, rfl⟩ := h
    simp only [RelL]
    exact ⟨_, _, rfl, ofConst_rel M β d _ _ ha, ofConsts_rel M β d _ _ hb⟩
end

/-- The listed variables' rows are among what is never written. -/
def Globs (gl : Nat → Option (List V)) (M : Mem) : Prop := ∀ g row, gl g = some row → ∀ β, RelRow M β row g 0

theorem Globs.mono {gl : Nat → Option (List V)} {M M' : Mem} (hM : M.le M') (G : Globs gl M) : Globs gl M' := fun g row h β => (G g row h β).mono hM (.refl β)

section
variable {M : Mem} {β : Places} {N : Nat} {e : Env} {a : Act} {gl : Nat → Option (List V)}

theorem cX_rel (G : Globs gl M) (E : EnvRel M β N e a) {x : Operand} {x' : X} (h : cX gl x = some x') : Rel M β (x'.val e) (a.eval x) := by
  cases x with
  | tmp t => simp [cX] at h; subst h; exact E.rel t
  | const v => simp [cX] at h; obtain ⟨v', hv, rfl⟩ := h; exact ofConst_rel M β _ _ _ hv
  | global g =>
    simp [cX] at h
    obtain ⟨row, hr, rfl⟩ := h
    simp only [X.val, Rel, Act.eval]
    exact ⟨g, 0, G g row hr β, rfl⟩
  | func f =>
    simp [cX] at h; subst h
    simp only [X.val, Rel, Act.eval]
    exact ⟨_, #[], #[], rfl, rfl, by simp only [RelL], by simp only [RelL]⟩

theorem cXs_rel (G : Globs gl M) (E : EnvRel M β N e a) : ∀ {l : List Operand} {l' : List X}, cXs gl l = some l' → RelL M β (l'.map (X.val e)) (l.map a.eval)
  | [], l', h => by simp [cXs] at h; subst h; simp only [List.map_nil, RelL]
  | x :: xs, l', h => by
    simp only [cXs, List.mapM_cons, bind, pure, Option.bind_eq_some_iff] at h
    obtain ⟨y, hy, ys, hys, h⟩ := h
    cases h
    simp only [List.map_cons, RelL]
    exact ⟨_, _, rfl, cX_rel G E hy, cXs_rel G E hys⟩
end

/-- One operation is followed: the model's run ends in a world that is told by the effect. -/
def Follows (P : Program) (M : Mem) (β : Places) (w0 w : World) (s : Sem Next) (hp : Heap) (id : Nat) (eff : Eff) : Prop :=
  ∃ β' w' c, (s.run P w = .ok (.value c) w' ∨ (s.run P w = .ok .skip w' ∧ c = undef)) ∧ β.le β' ∧ (∀ x, x ≠ id → β' x = β x) ∧ Sim M β' (eff.heap id hp).get w0 w' ∧ Rel M β' eff.val c

section
variable {P : Program} {M : Mem} {β : Places} {w0 w : World} {hp : Heap} {id : Nat}

theorem Follows.same {s : Sem Next} {v : V} {c : Value} (S : Sim M β hp.get w0 w) (hr : s.run P w = .ok (.value c) w) (h : Rel M β v c) : Follows P M β w0 w s hp id { val := v } :=
  ⟨β, w, c, .inl hr, .refl β, fun _ _ => rfl, S, h⟩

theorem Follows.drew {s : Sem Next} {v : V} {c : Value} (S : Sim M β hp.get w0 w) (hr : s.run P w = .ok (.value c) w.drew) (h : Rel M β v c) : Follows P M β w0 w s hp id { val := v } :=
  ⟨β, w.drew, c, .inl hr, .refl β, fun _ _ => rfl, S.drew, h⟩

theorem heap_new (w : World) (o : Go.Obj) : (w.alloc o).heap[w.heap.size]? = some o := by
  show (w.heap.push o)[w.heap.size]? = some o
  simp

/-- A new row of cells that fills its block, but for what lies behind. -/
theorem cells_new (S : Sim M β hp.get w0 w) (hid : β id = none) {cs : List V} {l rest : List Value} (hl : RelL M β cs l) (h1 : ∀ v ∈ cs, v.one = true) (esz : Nat) (T : TypeId) :
    let i : Place := ⟨w.heap.size, 0, esz, cs.length, l.length + rest.length, none⟩
    Sim M (β.set id i) (upd hp.get id (some (.cells cs esz 0 false))) w0 (w.alloc (.cells (l ++ rest).toArray T)) := by
  intro i
  have hm : ∀ a c, M.c a = some c → a.block ≠ w.heap.size := fun a c e => by have := lt_of_cell? (S.mem a c e); omega
  refine (S.alloc _).add (b := id) (i := i) (o := .cells cs esz 0 false) hid S.base (by simp [i]) ⟨rfl, rfl, (l ++ rest).toArray, T, (0, 0), ?_⟩ (fun b' o' i' _ hi' _ => ?_)
  · refine ⟨heap_new _ _, by simp [i], fun k _ => by simp, by simp [i, hl.length], fun k v hk => ?_, Nat.zero_le _, fun he k c hk => by omega, fun a c e hb => absurd hb (hm a c e)⟩
    obtain ⟨c, hc, hr⟩ := hl.get hk
    refine ⟨h1 v (List.mem_of_getElem? hk), c, ?_, hr.mono (.refl M) (β.le_set i hid)⟩
    have hlt : k < l.length := by
      rcases Nat.lt_or_ge k l.length with h | h
      · exact h
      · rw [List.getElem?_eq_none h] at hc; cases hc
    simp [i, List.getElem?_append_left hlt, hc]
  · have := S.sane b' i' hi'; simp [i]; omega

end
end Go.Abs

/-
  ABS, part 8: operations on values alone, and those that read, are followed.
-/
namespace Go.Abs
open Go Go.RowKit
set_option linter.unusedSectionVars false
variable [Syms]

section
variable {P : Program} {M : Mem} {β : Places} {w0 w : World} {hp : Heap} {id N : Nat} {e : Env} {a : Act} {gl : Nat → Option (List V)} {g : View} {o : Oper} {i : I} {eff : Eff}

theorem f_move (G : Globs gl M) (E : EnvRel M β N e a) (S : Sim M β hp.get w0 w) {x : Operand} (ho : o.op = .move x ∨ o.op = .assign x) (hc : (cX gl x).map I.mov = some i) (hev : evI g id e i = some eff) :
    Follows P M β w0 w (execOp a.eval o) hp id eff := by
  simp only [Option.map_eq_some_iff] at hc
  obtain ⟨x', hx, rfl⟩ := hc
  simp only [evI, Option.some.injEq] at hev
  subst hev
  refine Follows.same S (c := a.eval x) ?_ (cX_rel G E hx)
  rcases ho with ho | ho <;> simp [execOp, ho]

theorem f_pick (G : Globs gl M) (E : EnvRel M β N e a) (S : Sim M β hp.get w0 w) {c x y : Operand} (ho : o.op = .pick c x y) (hc : cOp P gl (.pick c x y) = some i) (hev : evI g id e i = some eff) :
    Follows P M β w0 w (execOp a.eval o) hp id eff := by
  simp only [cOp, Option.bind_eq_some_iff, Option.map_eq_some_iff] at hc
  obtain ⟨c', hc', x', hx, y', hy, rfl⟩ := hc
  simp only [evI] at hev
  have hr := cX_rel G E hc'
  split at hev
  · rename_i t ht
    cases hev
    rw [ht] at hr
    simp only [Rel] at hr
    refine Follows.same S (c := if t then a.eval x else a.eval y) ?_ ?_
    · simp [execOp, ho, asBool, hr]
    · cases t
      · exact cX_rel G E hy
      · exact cX_rel G E hx
  · cases hev

theorem f_un (G : Globs gl M) (E : EnvRel M β N e a) (S : Sim M β hp.get w0 w) {op : UnOp} {t : TypeId} {x : Operand} (ho : o.op = .unOp op t x) (hc : cOp P gl (.unOp op t x) = some i) (hev : evI g id e i = some eff) :
    Follows P M β w0 w (execOp a.eval o) hp id eff := by
  simp only [cOp, Option.map_eq_some_iff] at hc
  obtain ⟨x', hx, rfl⟩ := hc
  simp only [evI, Option.map_eq_some_iff] at hev
  obtain ⟨v, hv, rfl⟩ := hev
  have hr := cX_rel G E hx
  unfold Abs.unOp at hv
  split at hv
  · rename_i k n hx'
    cases hv; rw [hx'] at hr; simp only [Rel] at hr
    exact Follows.same S (c := .int k (k.wrap (0 - n))) (by simp [execOp, ho, hr, Op.unary, Op.intArith]) (by simp only [Rel])
  · rename_i k n hx'
    cases hv; rw [hx'] at hr; simp only [Rel] at hr
    exact Follows.same S (c := .int k (k.wrap (BitVec.ofInt k.bits (if k.signed then -1 else k.max) ^^^ BitVec.ofInt k.bits n).toNat)) (by simp [execOp, ho, hr, Op.unary, Op.intBits]) (by simp only [Rel])
  · rename_i b hx'
    cases hv; rw [hx'] at hr; simp only [Rel] at hr
    exact Follows.same S (c := .bool !b) (by simp [execOp, ho, hr, Op.unary]) (by simp only [Rel])
  · cases hv

theorem bytesLess_eq : ∀ (x y : List UInt8), Op.bytesLess x y = bytesLess (x.map (·.toNat)) (y.map (·.toNat))
  | _, [] => by simp [Op.bytesLess, bytesLess]
  | [], _ :: _ => by simp [Op.bytesLess, bytesLess]
  | a :: x, b :: y => by
    simp only [Op.bytesLess, bytesLess, List.map_cons, bytesLess_eq x y]
    congr 1
    · rw [Bool.eq_iff_iff]; simp [UInt8.lt_iff_toNat_lt, Nat.blt_eq]
    · congr 1
      rw [Bool.eq_iff_iff]; simp only [beq_iff_eq, Nat.beq_eq]; exact UInt8.toNat_inj.symm

theorem map_toNat_inj {x y : List UInt8} : (x.map (·.toNat) = y.map (·.toNat)) ↔ x = y := by
  constructor
  · intro h
    exact List.map_inj_right (fun a b hab => UInt8.toNat_inj.1 hab) |>.1 h
  · rintro rfl; rfl

theorem bytesOf_beq (s t : ByteArray) : (s.toList == t.toList) = (bytesOf s == bytesOf t) := by
  rw [Bool.eq_iff_iff]
  simp only [beq_iff_eq, ByteArray.toList_eq, bytesOf, map_toNat_inj]

theorem bytesOf_less (s t : ByteArray) : Op.bytesLess s.toList t.toList = bytesLess (bytesOf s) (bytesOf t) := by
  rw [bytesLess_eq, ByteArray.toList_eq, ByteArray.toList_eq]; rfl

theorem bytesOf_length (s : ByteArray) : (bytesOf s).length = s.size := by simp [bytesOf]

theorem bytesOf_append (s t : ByteArray) : bytesOf (s ++ t) = bytesOf s ++ bytesOf t := by
  simp [bytesOf, ByteArray.data_append]

theorem run_strOp {op : BinOp} {x y : List Nat} {r : V} (h : strOp op x y = some r) {s t : ByteArray} (hs : bytesOf s = x) (ht : bytesOf t = y) (w : World) :
    ∃ c, (Op.stringOp op s t).run P w = .ok c w ∧ Rel M β r c := by
  subst hs ht
  cases op <;> simp only [strOp] at h
  case add =>
    split at h
    · rename_i hle
      cases h
      have h1 : ¬ (((s.size + t.size : Nat) : Int) > IntKind.i64.max) := by
        rw [bytesOf_length, bytesOf_length] at hle
        have : IntKind.i64.max = 9223372036854775807 := by decide
        have : roomy = 1099511627776 := by decide
        omega
      exact ⟨.string (s ++ t), by simp only [Op.stringOp, if_neg h1]; rfl, by simp only [Rel]; exact ⟨_, rfl, bytesOf_append _ _⟩⟩
    · cases h
  all_goals first
    | (cases h; done)
    | (cases h; refine ⟨_, rfl, ?_⟩; simp only [Rel, bytesOf_beq, bytesOf_less]; done)

theorem run_intOp {op : BinOp} {k : IntKind} {x y : Int} {r : V} (h : intOp op k x y = some r) (t : TypeId) (w : World) :
    ∃ c, (Go.binOp op t (.int k x) (.int k y)).run P w = .ok c w ∧ Rel M β r c := by
  cases op <;> simp only [intOp] at h
  case quo =>
    split at h
    · cases h
    · rename_i hy
      cases h
      exact ⟨.int k (k.wrap (x.tdiv y)), by simp [binOp_quo, Op.intDiv, hy], by simp only [Rel]⟩
  case rem =>
    split at h
    · cases h
    · rename_i hy
      cases h
      exact ⟨.int k (x.tmod y), by simp [binOp_rem, Op.intDiv, hy], by simp only [Rel]⟩
  all_goals first
    | (cases h; done)
    | (cases h; refine ⟨_, by simp only [Go.binOp, ne_eq, not_true_eq_false, if_false, Op.intArith, Op.intBits, Op.intCmp]; rfl, ?_⟩; simp only [Rel]; done)

theorem run_shiftOp {op : BinOp} {k : IntKind} {x y : Int} {r : V} (h : shiftOp op k x y = some r) (k' : IntKind) (w : World) :
    ∃ c, (Op.shift op k x k' y).run P w = .ok c w ∧ Rel M β r c := by
  unfold shiftOp at h
  split at h
  · cases h
  · rename_i hy
    cases op <;> simp only at h
    case shl => cases h; exact ⟨.int k (k.wrap (x * 2 ^ (min y.toNat k.bits))), by simp [Op.shift, hy], by simp only [Rel]⟩
    case shr => cases h; exact ⟨.int k (x.fdiv (2 ^ (min y.toNat k.bits))), by simp [Op.shift, hy], by simp only [Rel]⟩
    all_goals cases h

theorem wrap_lim {k : IntKind} {n : Int} (h0 : 0 ≤ n) (h1 : n < limOf k) : k.wrap n = n := by
  unfold IntKind.wrap
  cases k <;> simp only [limOf] at h1 <;> simp [IntKind.bits, IntKind.signed] <;> omega

theorem Sx.Means.bnd {x : Sx} {n : Int} (h : x.Means n) : x.bnd.1 ≤ n ∧ n ≤ x.bnd.2 := by
  cases x with
  | num k p lo hi fs => exact ⟨h.2.1, h.2.2.1⟩
  | rem k d p lo hi fs => exact ⟨h.1, h.2.1⟩
  | any k lo hi => exact h

theorem Poly.at_const (n : Int) : (Poly.const n).at = n := by simp [Poly.at, Poly.const]
theorem Poly.at_add (p q : Poly) : (p.add q).at = p.at + q.at := by simp only [Poly.at, Poly.add]; grind
theorem Poly.at_mul {p q r : Poly} (h : p.mul q = some r) : r.at = p.at * q.at := by
  unfold Poly.mul at h
  split at h
  · rename_i hz
    obtain ⟨h1, h2, h3, h4, h5⟩ := hz
    cases h
    simp only [Poly.at]
    grind
  · cases h

theorem Facts.pick {fs gs : List (Poly × Int × Int)} (h : Facts fs) (h' : Facts gs) : Facts (pickF fs gs) := by
  unfold pickF
  split
  · exact h'
  · exact h

theorem tight_ok {fs : List (Poly × Int × Int)} (hf : Facts fs) {p : Poly} {lo hi : Int} (h : lo ≤ p.at ∧ p.at ≤ hi) : (tight fs p lo hi).1 ≤ p.at ∧ p.at ≤ (tight fs p lo hi).2 := by
  unfold tight
  split
  · rename_i f hfi
    have h1 := List.find?_some hfi
    simp only [decide_eq_true_eq] at h1
    have h2 := hf f (List.mem_of_find?_eq_some hfi)
    rw [h1] at h2
    constructor
    · show (if lo ≤ f.2.1 then f.2.1 else lo) ≤ _
      split
      · exact h2.1
      · exact h.1
    · show _ ≤ (if f.2.2 ≤ hi then f.2.2 else hi)
      split
      · exact h2.2
      · exact h.2
  · exact h

theorem mkNum_rel {k : IntKind} {p : Poly} {lo hi n : Int} {fs : List (Poly × Int × Int)} (h : n = p.at ∧ lo ≤ n ∧ n ≤ hi ∧ Facts fs) : Rel M β (mkNum k p lo hi fs) (.int k n) := by
  unfold mkNum
  split
  · rename_i hz
    simp only [Rel]
    rw [h.1]
    simp [Poly.at, hz.1, hz.2.1, hz.2.2]
  · simp only [Rel]
    exact ⟨n, rfl, h⟩

theorem cmpB_ok {op : BinOp} {x y : Int × Int} {b : Bool} {m n : Int} (k : IntKind) (h : cmpB op x y = some b) (hm : x.1 ≤ m ∧ m ≤ x.2) (hn : y.1 ≤ n ∧ n ≤ y.2) : intOp op k m n = some (.bool b) := by
  cases op <;> simp only [cmpB] at h <;> first | (cases h; done) | skip
  all_goals
    simp only [intOp]
    split at h
    · cases h
      congr 2
      first | (simp; omega) | (rw [Bool.eq_iff_iff]; simp; omega)
    · first
      | (cases h; done)
      | (split at h
         · cases h
           congr 2
           first | (simp; omega) | (rw [Bool.eq_iff_iff]; simp; omega)
         · cases h)

theorem symCmp_ok {op : BinOp} {x y : Sx} {b : Bool} {m n : Int} (k : IntKind) (h : symCmp op x y = some b) (hm : x.Means m) (hn : y.Means n) : intOp op k m n = some (.bool b) := by
  unfold symCmp at h
  split at h
  · rename_i ha
    have e : m = n := by
      cases x <;> cases y <;> simp [Sx.alike] at ha
      subst ha
      rw [hm.1, hn.1]
    subst e
    cases op <;> simp only at h <;> first | (cases h; done) | (cases h; simp [intOp]; done)
  · exact cmpB_ok k h hm.bnd hn.bnd

theorem symNum_ok {op : BinOp} {x y : Sx} {r : V} {m n : Int} (h : symNum op x y = some r) (hm : x.Means m) (hn : y.Means n) : ∃ z, intOp op x.kind m n = some (.int x.kind z) ∧ Rel M β r (.int x.kind z) := by
  unfold symNum at h
  split at h
  · rename_i k p lo hi fs k' q lo' hi' gs
    obtain ⟨m1, m2, m3, m4⟩ := hm
    obtain ⟨n1, n2, n3, n4⟩ := hn
    have hfs := m4.pick n4
    split at h
    · unfold fitNum at h
      split at h
      · rename_i hz
        cases h
        have hat : m + n = (p.add q).at := by rw [Poly.at_add, m1, n1]
        have ht := tight_ok hfs (p := p.add q) (lo := lo + lo') (hi := hi + hi') (by omega)
        refine ⟨m + n, ?_, mkNum_rel ⟨hat, by omega, by omega, hfs⟩⟩
        simp only [intOp, Sx.kind]
        rw [wrap_lim (by omega) (by omega)]
      · cases h
    · split at h
      · rename_i hz
        simp only [Option.bind_eq_some_iff] at h
        obtain ⟨s, hs, h⟩ := h
        unfold fitNum at h
        split at h
        · rename_i hf
          cases h
          have h1 : lo * lo' ≤ m * n := Int.mul_le_mul m2 n2 hz.2 (by omega)
          have h2 : m * n ≤ hi * hi' := Int.mul_le_mul m3 n3 (by omega) (by omega)
          have hat : m * n = s.at := by rw [Poly.at_mul hs, m1, n1]
          have ht := tight_ok hfs (p := s) (lo := lo * lo') (hi := hi * hi') (by rw [← hat]; exact ⟨h1, h2⟩)
          rw [← hat] at ht
          refine ⟨m * n, ?_, mkNum_rel ⟨hat, ht.1, ht.2, hfs⟩⟩
          simp only [intOp, Sx.kind]
          rw [wrap_lim (by omega) (by omega)]
        · cases h
      · cases h
    · cases h
  · rename_i k d p lo hi fs k' q lo' hi' gs
    obtain ⟨m1, m2, m3, m4, m5, m6⟩ := hm
    obtain ⟨n1, n2, n3⟩ := hn
    split at h
    · split at h
      · rename_i hz
        cases h
        rw [hz.1, Poly.at_const] at n1
        subst n1
        refine ⟨m.tmod n, ?_, mkNum_rel ⟨m3, by rw [m3]; exact m4, by rw [m3]; exact m5, m6⟩⟩
        simp only [intOp, Sx.kind, if_neg hz.2]
      · cases h
    · cases h
  · cases h

theorem run_symOp {op : BinOp} {x y : Sx} {r : V} {m n : Int} (h : symOp op x y = some r) (hm : x.Means m) (hn : y.Means n) (t : TypeId) (w : World) :
    ∃ c, (Go.binOp op t (.int x.kind m) (.int y.kind n)).run P w = .ok c w ∧ Rel M β r c := by
  unfold symOp at h
  split at h
  · rename_i hk
    rw [← hk]
    split at h
    · rename_i b hb
      cases h
      exact run_intOp (P := P) (symCmp_ok x.kind hb hm hn) t w
    · obtain ⟨z, h1, h2⟩ := symNum_ok (M := M) (β := β) h hm hn
      obtain ⟨c, h3, h4⟩ := run_intOp (P := P) (M := M) (β := β) h1 t w
      simp only [Rel] at h4
      subst h4
      exact ⟨_, h3, h2⟩
  · cases h

theorem clash_ne : ∀ {l r s t : List Nat}, clash l r = true → Wild l s → Wild r t → s ≠ t
  | [], [], _, _, h, _, _ => by simp [clash] at h
  | [], _ :: _, _, _, _, h1, ⟨d, r, rfl, _, _⟩ => by cases h1; simp
  | _ :: _, [], _, _, _, ⟨d, r, rfl, _, _⟩, h2 => by cases h2; simp
  | c :: l, d :: r, _, _, h, ⟨c', s, rfl, hc, h1⟩, ⟨d', t, rfl, hd, h2⟩ => by
    simp only [clash, Bool.or_eq_true] at h
    intro e
    simp only [List.cons.injEq] at e
    rcases h with h | h
    · unfold clash1 at h
      obtain ⟨e, _⟩ := e
      subst e
      split at h
      · rename_i h256
        simp [Nat.blt_eq] at h
        rcases hc with hc | hc <;> rcases hd with hd | hd <;> omega
      · split at h
        · simp [Nat.blt_eq] at h
          rcases hc with hc | hc <;> rcases hd with hd | hd <;> omega
        · simp at h
          rcases hc with hc | hc <;> rcases hd with hd | hd <;> omega
    · exact clash_ne h h1 h2 e.2

theorem run_sstrOp {op : BinOp} {x y : List Nat} {r : V} (h : sstrOp op x y = some r) {s t : ByteArray} (hs : Wild x (bytesOf s)) (ht : Wild y (bytesOf t)) (w : World) :
    ∃ c, (Op.stringOp op s t).run P w = .ok c w ∧ Rel M β r c := by
  cases op <;> simp only [sstrOp] at h
  case add =>
    split at h
    · rename_i hle
      cases h
      have h1 : ¬ (((s.size + t.size : Nat) : Int) > IntKind.i64.max) := by
        have e1 := hs.length
        have e2 := ht.length
        rw [bytesOf_length] at e1 e2
        have : IntKind.i64.max = 9223372036854775807 := by decide
        have : roomy = 1099511627776 := by decide
        omega
      exact ⟨.string (s ++ t), by simp only [Op.stringOp, if_neg h1]; rfl, by simp only [Rel]; exact ⟨_, rfl, by rw [bytesOf_append]; exact hs.append ht⟩⟩
    · cases h
  case eql =>
    split at h
    · rename_i hc
      cases h
      refine ⟨_, rfl, ?_⟩
      simp only [Rel, bytesOf_beq]
      have := clash_ne hc hs ht
      simp [this]
    · cases h
  case neq =>
    split at h
    · rename_i hc
      cases h
      refine ⟨_, rfl, ?_⟩
      simp only [Rel, bytesOf_beq]
      have := clash_ne hc hs ht
      simp [this]
    · cases h
  all_goals cases h

theorem run_binOp {op : BinOp} {u v r : V} (h : Abs.binOp op u v = some r) {c d : Value} (hu : Rel M β u c) (hv : Rel M β v d) (t : TypeId) (x y : Operand) (w : World) :
    ∃ c', (do eqGuard op t x y c d; Go.binOp op t c d : Sem Value).run P w = .ok c' w ∧ Rel M β r c' := by
  unfold Abs.binOp at h
  split at h
  · rename_i k p k' q
    simp only [Rel] at hu hv
    subst hu hv
    have hg : eqGuard op t x y (.int k p) (.int k' q) = pure () := eqGuard_at_int ..
    split at h
    · obtain ⟨c', h1, h2⟩ := run_shiftOp (P := P) (M := M) (β := β) h k' w
      exact ⟨c', by simp [hg, binOp_shl, h1], h2⟩
    · obtain ⟨c', h1, h2⟩ := run_shiftOp (P := P) (M := M) (β := β) h k' w
      exact ⟨c', by simp [hg, binOp_shr, h1], h2⟩
    · split at h
      · rename_i hk
        subst hk
        obtain ⟨c', h1, h2⟩ := run_intOp (P := P) (M := M) (β := β) h t w
        exact ⟨c', by simp [hg, h1], h2⟩
      · cases h
  · simp only [Rel] at hu hv
    obtain ⟨s, rfl, hs⟩ := hu
    obtain ⟨s', rfl, hs'⟩ := hv
    obtain ⟨c', h1, h2⟩ := run_strOp (P := P) (M := M) (β := β) h hs hs' w
    refine ⟨c', ?_, h2⟩
    have hb : Go.binOp op t (.string s) (.string s') = Op.stringOp op s s' := by cases op <;> rfl
    simp [eqGuard_at_string, hb, h1]
  · simp only [Rel] at hu hv
    obtain ⟨m, rfl, hm⟩ := hu
    obtain ⟨n, rfl, hn⟩ := hv
    obtain ⟨c', h1, h2⟩ := run_symOp (P := P) (M := M) (β := β) h hm hn t w
    exact ⟨c', by simp [eqGuard_at_int, h1], h2⟩
  · simp only [Rel] at hu hv
    obtain ⟨m, rfl, hm⟩ := hu
    subst hv
    obtain ⟨c', h1, h2⟩ := run_symOp (P := P) (M := M) (β := β) h hm (n := _) ⟨(Poly.at_const _).symm, Int.le_refl _, Int.le_refl _, (fun f h => nomatch h)⟩ t w
    exact ⟨c', by rw [show eqGuard op t x y _ _ = pure () from eqGuard_at_int ..]; exact h1, h2⟩
  · simp only [Rel] at hu hv
    obtain ⟨m, rfl, hm⟩ := hv
    subst hu
    obtain ⟨c', h1, h2⟩ := run_symOp (P := P) (M := M) (β := β) h (m := _) ⟨(Poly.at_const _).symm, Int.le_refl _, Int.le_refl _, (fun f h => nomatch h)⟩ hm t w
    exact ⟨c', by rw [show eqGuard op t x y _ _ = pure () from eqGuard_at_int ..]; exact h1, h2⟩
  · simp only [Rel] at hu hv
    obtain ⟨s, rfl, hs⟩ := hu
    obtain ⟨s', rfl, hs'⟩ := hv
    obtain ⟨c', h1, h2⟩ := run_sstrOp (P := P) (M := M) (β := β) h hs hs' w
    refine ⟨c', ?_, h2⟩
    have hb : Go.binOp op t (.string s) (.string s') = Op.stringOp op s s' := by cases op <;> rfl
    simp [eqGuard_at_string, hb, h1]
  · simp only [Rel] at hu hv
    obtain ⟨s, rfl, hs⟩ := hu
    obtain ⟨s', rfl, rfl⟩ := hv
    obtain ⟨c', h1, h2⟩ := run_sstrOp (P := P) (M := M) (β := β) h hs (Wild.refl _) w
    refine ⟨c', ?_, h2⟩
    have hb : Go.binOp op t (.string s) (.string s') = Op.stringOp op s s' := by cases op <;> rfl
    simp [eqGuard_at_string, hb, h1]
  · simp only [Rel] at hu hv
    obtain ⟨s, rfl, rfl⟩ := hu
    obtain ⟨s', rfl, hs'⟩ := hv
    obtain ⟨c', h1, h2⟩ := run_sstrOp (P := P) (M := M) (β := β) h (Wild.refl _) hs' w
    refine ⟨c', ?_, h2⟩
    have hb : Go.binOp op t (.string s) (.string s') = Op.stringOp op s s' := by cases op <;> rfl
    simp [eqGuard_at_string, hb, h1]
  · cases h

theorem f_bin (G : Globs gl M) (E : EnvRel M β N e a) (S : Sim M β hp.get w0 w) {op : BinOp} {t u : TypeId} {x y : Operand} (ho : o.op = .binOp op t x y u) {x' y' : X} (hx : cX gl x = some x') (hy : cX gl y = some y')
    (hev : evI g id e (.bin op x' y') = some eff) : Follows P M β w0 w (execOp a.eval o) hp id eff := by
  simp only [evI, Option.map_eq_some_iff] at hev
  obtain ⟨v, hv, rfl⟩ := hev
  obtain ⟨c, h1, h2⟩ := run_binOp (P := P) hv (cX_rel G E hx) (cX_rel G E hy) t x y w
  refine Follows.same S (c := c) ?_ h2
  simp only [execOp, ho]
  simp only [Sem.run_bind, Sem.run_pure] at h1 ⊢
  rw [h1]; rfl

end
end Go.Abs

/-
  ABS, part 9: keys and structs are held against each other cell by cell.
-/
namespace Go.Abs
open Go Go.RowKit
set_option linter.unusedSectionVars false
variable [Syms]

theorem fitsAll_length : ∀ {ks : List CK} {u : List V}, fitsAll ks u = true → u.length = ks.length
  | [], [], _ => rfl
  | [], _ :: _, h => by simp [fitsAll] at h
  | _ :: _, [], h => by simp [fitsAll] at h
  | k :: ks, v :: u, h => by
    simp only [fitsAll, Bool.and_eq_true] at h
    simp [fitsAll_length h.2]

theorem fitsAll_append : ∀ {a b : List CK} {u : List V}, fitsAll (a ++ b) u = true → fitsAll a (u.take a.length) = true ∧ fitsAll b (u.drop a.length) = true
  | [], b, u, h => by simpa [fitsAll] using h
  | k :: a, b, [], h => by simp [fitsAll] at h
  | k :: a, b, v :: u, h => by
    simp only [List.cons_append, fitsAll, Bool.and_eq_true] at h
    obtain ⟨h1, h2⟩ := fitsAll_append h.2
    simp [fitsAll, h.1, h1, h2]

theorem sameAll_append : ∀ {u u' v v' : List V}, u.length = u'.length → sameAll (u ++ v) (u' ++ v') = (sameAll u u' && sameAll v v')
  | [], [], v, v', _ => by simp [sameAll]
  | x :: u, y :: u', v, v', h => by
    simp only [List.cons_append, sameAll]
    rw [sameAll_append (by simpa using h), Bool.and_assoc]

section
variable {P : Program} {M : Mem} {β : Places}

/-- A value of a type, by its cells. -/
def CellsOf (M : Mem) (β : Places) (g : Bool) (u : List V) (c : Value) : Prop :=
  match g with
  | true => ∃ arr, c = .agg arr ∧ RelL M β u arr.toList
  | false => ∃ x, u = [x] ∧ Rel M β x c

theorem run_part_rel {t : TypeId} {g : Bool} (hg : tAgg P t = some g) {xs : Array Value} {u : List V} (hu : RelL M β u xs.toList) {off : Nat} {a : List V} (ha : a = (u.drop off).take (P.cellsOf t)) (hl : a.length = P.cellsOf t)
    (h1 : g = false → P.cellsOf t = 1) (w : World) : ∃ c, (part t xs off).run P w = .ok c w ∧ CellsOf M β g a c := by
  unfold tAgg at hg
  cases hd : P.underlying t with
  | none => simp [hd] at hg
  | some d =>
    simp only [hd, Option.map_some, Option.some.injEq] at hg
    have hi : ∃ i, P.info? t = some i := by
      unfold Program.underlying at hd
      cases hi : P.info? t with
      | none => simp [hi] at hd
      | some i => exact ⟨i, rfl⟩
    obtain ⟨i, hi⟩ := hi
    have hsz : P.cellsOf t = i.size := by simp [Program.cellsOf, hi]
    have key : RelL M β a ((xs.toList.drop off).take (P.cellsOf t)) := by subst ha; exact (hu.drop off).take _
    cases g with
    | true =>
      have hag : ∀ w, (isAgg t).run P w = .ok true w := fun w => by
        cases d <;> first | (simp at hg; done) | simp [isAgg, run_underlying hd]
      refine ⟨.agg (xs.extract off (off + i.size)), by simp [part, hag, sizeOf, typeInfo, hi], _, rfl, ?_⟩
      rw [Array.toList_extract]
      rw [hsz] at key
      simpa [List.extract] using key
    | false =>
      have hag : ∀ w, (isAgg t).run P w = .ok false w := fun w => by
        cases d <;> first | (simp at hg; done) | simp [isAgg, run_underlying hd]
      have h1' := h1 rfl
      rw [h1'] at key hl
      match a, hl, key with
      | [x], _, key =>
        simp only [RelL] at key
        obtain ⟨c, cs, e, hr, rfl⟩ := key
        have hx : xs[off]? = some c := by
          have : ((xs.toList.drop off).take 1)[0]? = some c := by rw [e]; rfl
          rw [List.getElem?_take, if_pos (by omega), List.getElem?_drop] at this
          simpa using this
        exact ⟨c, by simp [part, hag, hx], x, rfl, hr⟩

theorem agg_one {d : Nat} {t : TypeId} {ks : List CK} (h : tCks P d t = some ks) (hg : tAgg P t = some false) : ks.length = 1 := by
  cases d with
  | zero => simp [tCks] at h
  | succ d =>
    unfold tCks at h
    unfold tAgg at hg
    cases hd : P.underlying t with
    | none => simp [hd] at hg
    | some td =>
      rw [hd] at h hg
      cases td <;> simp at h hg
      all_goals (subst h; rfl)

theorem tAgg_some {d : Nat} {t : TypeId} {ks : List CK} (h : tCks P d t = some ks) : ∃ g, tAgg P t = some g := by
  cases d with
  | zero => simp [tCks] at h
  | succ d =>
    unfold tCks at h
    unfold tAgg
    cases hd : P.underlying t with
    | none => rw [hd] at h; cases h
    | some td => exact ⟨_, rfl⟩

mutual
theorem run_equal_cks : ∀ (d : Nat) (t : TypeId) (ks : List CK) (g : Bool) (n : Nat), tCks P d t = some ks → tAgg P t = some g → d ≤ n → ∀ (u v : List V) (c c' : Value) (w : World),
    fitsAll ks u = true → fitsAll ks v = true → CellsOf M β g u c → CellsOf M β g v c' → (Op.equalIn n t c c').run P w = .ok (sameAll u v) w
  | 0, _, _, _, _, h, _, _, _, _, _, _, _, _, _, _, _ => by simp [tCks] at h
  | d + 1, t, ks, g, 0, h, hg, hn, _, _, _, _, _, _, _, _, _ => by omega
  | d + 1, t, ks, g, n + 1, h, hg, hn, u, v, c, c', w, hu, hv, hc, hc' => by
    unfold tCks at h
    have hg' := hg
    unfold tAgg at hg
    split at h
    · rename_i hd
      simp [hd] at hg; subst hg; cases h
      obtain ⟨x, rfl, hx⟩ := hc
      obtain ⟨y, rfl, hy⟩ := hc'
      cases x <;> simp [fitsAll, CK.fits] at hu
      cases y <;> simp [fitsAll, CK.fits] at hv
      simp only [Rel] at hx hy
      subst hx hy
      rw [run_equalIn_bool' w n t _ _ hd]
      simp [sameAll, V.same]
    · rename_i k hd
      simp [hd] at hg; subst hg; cases h
      obtain ⟨x, rfl, hx⟩ := hc
      obtain ⟨y, rfl, hy⟩ := hc'
      cases x <;> simp [fitsAll, CK.fits] at hu
      cases y <;> simp [fitsAll, CK.fits] at hv
      subst hu hv
      simp only [Rel] at hx hy
      subst hx hy
      rw [run_equalIn_int w n t _ _ _ _ hd]
      simp [sameAll, V.same]
    · rename_i hd
      simp [hd] at hg; subst hg; cases h
      obtain ⟨x, rfl, hx⟩ := hc
      obtain ⟨y, rfl, hy⟩ := hc'
      cases x <;> simp [fitsAll, CK.fits] at hu
      cases y <;> simp [fitsAll, CK.fits] at hv
      simp only [Rel] at hx hy
      obtain ⟨s, rfl, hs⟩ := hx
      obtain ⟨s', rfl, hs'⟩ := hy
      rw [run_equalIn_string w n t _ _ hd, bytesOf_beq, hs, hs']
      simp [sameAll, V.same]
    · rename_i fs hd
      simp [hd] at hg; subst hg
      split at h
      · cases h
      · rename_i hst
        obtain ⟨xs, rfl, hx⟩ := hc
        obtain ⟨ys, rfl, hy⟩ := hc'
        have hfs : P.fieldsOf t = fs := by simp [Program.fieldsOf, hd]
        rw [run_equalIn_struct w n t xs ys (by rw [hd, hfs]) (by simpa using hst), hfs]
        have := run_eqFields_cks d 0 fs.toList ks n h (by omega) xs ys u v w hx hy (by simpa using hu) (by simpa using hv)
        simpa using this
    · cases h
theorem run_eqFields_cks : ∀ (d off : Nat) (fs : List Field) (ks : List CK) (n : Nat), tCksF P d off fs = some ks → d ≤ n → ∀ (xs ys : Array Value) (u v : List V) (w : World),
    RelL M β u xs.toList → RelL M β v ys.toList → fitsAll ks (u.drop off) = true → fitsAll ks (v.drop off) = true → (Op.eqFields n xs ys fs).run P w = .ok (sameAll (u.drop off) (v.drop off)) w
  | 0, _, _, _, _, h, _, _, _, _, _, _, _, _, _, _ => by simp [tCksF] at h
  | d + 1, off, [], ks, n, h, _, xs, ys, u, v, w, hx, hy, hu, hv => by
    simp only [tCksF, Option.some.injEq] at h; subst h
    have h1 := fitsAll_length hu
    have h2 := fitsAll_length hv
    rw [List.length_eq_zero_iff.1 h1, List.length_eq_zero_iff.1 h2]
    simp [Op.eqFields, sameAll]
  | d + 1, off, f :: fs, ks, n, h, hn, xs, ys, u, v, w, hx, hy, hu, hv => by
    unfold tCksF at h
    split at h
    · rename_i hf
      obtain ⟨hname, hoff⟩ := hf
      simp only [Option.bind_eq_some_iff] at h
      obtain ⟨a, ha, h⟩ := h
      split at h
      · rename_i hal
        simp only [Option.map_eq_some_iff] at h
        obtain ⟨b, hb, rfl⟩ := h
        obtain ⟨hu1, hu2⟩ := fitsAll_append hu
        obtain ⟨hv1, hv2⟩ := fitsAll_append hv
        obtain ⟨g, hg⟩ := tAgg_some ha
        have h1 : g = false → P.cellsOf f.type = 1 := fun e => by rw [← hal]; exact agg_one ha (by rw [hg, e])
        rw [hal] at hu1 hv1
        have hlu := fitsAll_length hu1
        have hlv := fitsAll_length hv1
        obtain ⟨c, hc, hcr⟩ := run_part_rel (P := P) hg hx (off := off) rfl (by rw [hlu, hal]) h1 w
        obtain ⟨c', hc', hcr'⟩ := run_part_rel (P := P) hg hy (off := off) rfl (by rw [hlv, hal]) h1 w
        have hq := run_equal_cks d f.type a g n ha hg (by omega) _ _ c c' w hu1 hv1 hcr hcr'
        have hrest := run_eqFields_cks d (off + a.length) fs b n hb (by omega) xs ys u v w hx hy (by rw [← List.drop_drop]; exact hu2) (by rw [← List.drop_drop]; exact hv2)
        have split1 : u.drop off = (u.drop off).take (P.cellsOf f.type) ++ u.drop (off + a.length) := by
          rw [hal, ← List.drop_drop, List.take_append_drop]
        have split2 : v.drop off = (v.drop off).take (P.cellsOf f.type) ++ v.drop (off + a.length) := by
          rw [hal, ← List.drop_drop, List.take_append_drop]
        rw [split1, split2, sameAll_append (by rw [hlu, hlv])]
        simp only [Op.eqFields, hname, ne_eq, not_false_eq_true, if_true, hoff, Sem.run_bind, hc, hc', hq, Result.andThen_ok, Sem.run_ite, Sem.run_pure]
        cases sameAll ((u.drop off).take (P.cellsOf f.type)) ((v.drop off).take (P.cellsOf f.type)) with
        | false => simp
        | true => simpa using hrest
      · cases h
    · cases h
end

mutual
theorem run_checkKey_cks : ∀ (d : Nat) (t : TypeId) (ks : List CK) (g : Bool) (n : Nat) (em : Bool), tCks P d t = some ks → tAgg P t = some g → d ≤ n → ∀ (u : List V) (c : Value) (w : World),
    fitsAll ks u = true → CellsOf M β g u c → (Instr.checkKey em n t c).run P w = .ok () w
  | 0, _, _, _, _, _, h, _, _, _, _, _, _, _ => by simp [tCks] at h
  | d + 1, t, ks, g, 0, _, h, hg, hn, _, _, _, _, _ => by omega
  | d + 1, t, ks, g, n + 1, em, h, hg, hn, u, c, w, hu, hc => by
    unfold tCks at h
    have hg' := hg
    unfold tAgg at hg
    split at h
    · rename_i hd
      simp [hd] at hg; subst hg; cases h
      simp [Instr.checkKey, run_underlying hd]
    · rename_i k hd
      simp [hd] at hg; subst hg; cases h
      simp [Instr.checkKey, run_underlying hd]
    · rename_i hd
      simp [hd] at hg; subst hg; cases h
      simp [Instr.checkKey, run_underlying hd]
    · rename_i fs hd
      simp [hd] at hg; subst hg
      split at h
      · cases h
      · rename_i hst
        obtain ⟨xs, rfl, hx⟩ := hc
        simp only [Instr.checkKey, Sem.run_bind, run_underlying hd, Result.andThen_ok]
        rw [← Array.forIn_toList]
        have := run_checkFields_cks d 0 fs.toList ks n em h (by omega) xs u w hx (by simpa using hu)
        simp only [this, Result.andThen_ok, Sem.run_pure]
    · cases h
theorem run_checkFields_cks : ∀ (d off : Nat) (fs : List Field) (ks : List CK) (n : Nat) (em : Bool), tCksF P d off fs = some ks → d ≤ n → ∀ (xs : Array Value) (u : List V) (w : World),
    RelL M β u xs.toList → fitsAll ks (u.drop off) = true →
    (forIn (m := Sem) fs PUnit.unit fun f _ => (do
        if f.name ≠ "_" then do
          Instr.checkKey em n f.type (← part f.type xs f.offset)
          pure (ForInStep.yield PUnit.unit)
        else pure (ForInStep.yield PUnit.unit) : Sem (ForInStep PUnit))).run P w = .ok () w
  | 0, _, _, _, _, _, h, _, _, _, _, _, _ => by simp [tCksF] at h
  | d + 1, off, [], ks, n, em, h, _, xs, u, w, hx, hu => by simp
  | d + 1, off, f :: fs, ks, n, em, h, hn, xs, u, w, hx, hu => by
    unfold tCksF at h
    split at h
    · rename_i hf
      obtain ⟨hname, hoff⟩ := hf
      simp only [Option.bind_eq_some_iff] at h
      obtain ⟨a, ha, h⟩ := h
      split at h
      · rename_i hal
        simp only [Option.map_eq_some_iff] at h
        obtain ⟨b, hb, rfl⟩ := h
        obtain ⟨hu1, hu2⟩ := fitsAll_append hu
        obtain ⟨g, hg⟩ := tAgg_some ha
        have h1 : g = false → P.cellsOf f.type = 1 := fun e => by rw [← hal]; exact agg_one ha (by rw [hg, e])
        rw [hal] at hu1
        have hlu := fitsAll_length hu1
        obtain ⟨c, hc, hcr⟩ := run_part_rel (P := P) hg hx (off := off) rfl (by rw [hlu, hal]) h1 w
        have hq := run_checkKey_cks d f.type a g n em ha hg (by omega) _ c w hu1 hcr
        have hrest := run_checkFields_cks d (off + a.length) fs b n em hb (by omega) xs u w hx (by rw [← List.drop_drop]; exact hu2)
        simp only [List.forIn_cons, Sem.run_bind, hname, ne_eq, not_false_eq_true, if_true, hoff, Result.andThen_ok, hc, hq, Sem.run_pure]
        exact hrest
      · cases h
    · cases h
end
end
end Go.Abs
