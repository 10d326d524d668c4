/-
  ABS, part 0: the abstract evaluator's words: values, heaps, slots, compiled operations and code. No program in sight.
  Inputs are inline trees (rslice, rptr, rmap: nobody writes them); what a run makes lies in a heap of its own under numbers of its own.
-/
import Derived.Laws.Sem
namespace Go.Abs
open Go

/-- Two numbers that a run's inputs hold. -/
class Syms where
  a : Int
  b : Int

/-- What is reckoned out of the two numbers. -/
structure Poly where
  c : Int
  a : Int
  b : Int
  ab : Int
  deriving DecidableEq, Inhabited

def Poly.const (n : Int) : Poly := ⟨n, 0, 0, 0⟩
def Poly.at [Syms] (p : Poly) : Int := p.c + p.a * Syms.a + p.b * Syms.b + p.ab * (Syms.a * Syms.b)

/-- What is known of a number that isn't known: what it is reckoned out of, and between which bounds, and what is known of other reckonings; what its remainder by another is; its bounds alone. -/
inductive Sx where
  | num (k : IntKind) (p : Poly) (lo hi : Int) (fs : List (Poly × Int × Int))
  | rem (k : IntKind) (d : Int) (p : Poly) (lo hi : Int) (fs : List (Poly × Int × Int))
  | any (k : IntKind) (lo hi : Int)
  deriving DecidableEq, Inhabited

def Sx.kind : Sx → IntKind
  | .num k .. | .rem k .. | .any k .. => k

/-- What is known of some reckonings: their bounds. -/
def Facts [Syms] (fs : List (Poly × Int × Int)) : Prop := ∀ f ∈ fs, f.2.1 ≤ f.1.at ∧ f.1.at ≤ f.2.2

def Sx.Means [Syms] : Sx → Int → Prop
  | .num _ p lo hi fs, n => n = p.at ∧ lo ≤ n ∧ n ≤ hi ∧ Facts fs
  | .rem _ d p lo hi fs, n => 0 ≤ n ∧ n ≤ 255 ∧ n.tmod d = p.at ∧ lo ≤ p.at ∧ p.at ≤ hi ∧ Facts fs
  | .any _ lo hi, n => lo ≤ n ∧ n ≤ hi

inductive V where
  | bool (b : Bool)
  | int (k : IntKind) (n : Int)
  | str (s : List Nat)
  | nilPtr
  | ptr (b off : Nat)
  | rptr (row : List V) (off : Nat)
  | nilSlice
  | slice (b off len : Nat) (cap : Option Nat)
  | rslice (row : List V) (off len : Nat) (cap : Option Nat)
  | nilMap
  | map (b : Nat)
  | rmap (ks vs : List V)
  | func (fn : Fn) (first captured : List V)
  | nilFunc
  | iface (t : TypeId) (v : V)
  | nilIface
  | agg (cells : List V)
  | tuple (vs : List V)
  | sym (x : Sx)
  /-- A text; 256 stands for a digit. -/
  | sstr (s : List Nat)
  deriving Inhabited

def V.undef : V := .tuple []

def V.cells : V → List V
  | .agg cs => cs
  | v => [v]

def V.one : V → Bool
  | .agg _ | .tuple _ => false
  | _ => true

/-- Values that hold no memory: their meaning hangs on nothing. -/
def V.flat : V → Bool
  | .bool _ | .int .. | .str _ | .nilPtr | .nilSlice | .nilMap | .nilFunc | .nilIface | .sym _ | .sstr _ => true
  | .agg cs => flats cs
  | .tuple vs => flats vs
  | .iface _ v => v.flat
  | _ => false
where flats : List V → Bool
  | [] => true
  | v :: vs => v.flat && flats vs

/-- Not a loop's own function. -/
def plainFn : Fn → Bool
  | .yield _ => false
  | _ => true

/-- Values that name no object of the run's own heap. -/
def V.imm : V → Bool
  | .ptr .. | .slice .. | .map _ => false
  | .func f a b => plainFn f && imms a && imms b
  | .iface _ v => v.imm
  | .agg cs => imms cs
  | .tuple vs => imms vs
  | _ => true
where imms : List V → Bool
  | [] => true
  | v :: vs => v.imm && imms vs

/-- Kinds of single cells that can be held against each other, and be keys. -/
inductive CK where
  | bool
  | int (k : IntKind)
  | str
  deriving DecidableEq, Inhabited

def CK.fits : CK → V → Bool
  | .bool, .bool _ => true
  | .int k, .int k' _ => k == k'
  | .str, .str _ => true
  | _, _ => false

def fitsAll : List CK → List V → Bool
  | [], [] => true
  | k :: ks, v :: vs => k.fits v && fitsAll ks vs
  | _, _ => false

def V.same : V → V → Bool
  | .bool a, .bool b => a == b
  | .int _ a, .int _ b => a == b
  | .str a, .str b => a == b
  | _, _ => false

def sameAll : List V → List V → Bool
  | [], [] => true
  | x :: xs, y :: ys => x.same y && sameAll xs ys
  | _, _ => false

/-! Tries: maps from numbers. -/
inductive T (α : Type) where
  | leaf
  | node (v : Option α) (l r : T α)
  deriving Inhabited

/-- A finite map from numbers, as a trie: place 0 is the root, i odd goes left, i even right. -/
def T.get {α : Type} : T α → Nat → Option α
  | .leaf, _ => none
  | .node v l r, i => if i = 0 then v else if i % 2 = 1 then l.get (i / 2) else r.get (i / 2 - 1)

def T.setN {α : Type} (v : Option α) : Nat → T α → Nat → T α
  | 0, t, _ => t
  | n + 1, .leaf, i => if i = 0 then .node v .leaf .leaf else if i % 2 = 1 then .node none (setN v n .leaf (i / 2)) .leaf else .node none .leaf (setN v n .leaf (i / 2 - 1))
  | n + 1, .node u l r, i => if i = 0 then .node v l r else if i % 2 = 1 then .node u (setN v n l (i / 2)) r else .node u l (setN v n r (i / 2 - 1))

def T.put {α : Type} (t : T α) (i : Nat) (v : Option α) : T α := T.setN v (i + 1) t i
def T.set {α : Type} (t : T α) (i : Nat) (v : α) : T α := t.put i (some v)

theorem T.get_setN {α : Type} (v : Option α) : ∀ (n : Nat) (t : T α) (i j : Nat), i < n → (T.setN v n t i).get j = if j = i then v else t.get j := by
  intro n
  induction n with
  | zero => intro t i j h; omega
  | succ n ih =>
    intro t i j h
    by_cases hj : j = 0
    · subst hj
      by_cases hi : i = 0
      · subst hi; cases t <;> simp [T.setN, T.get]
      · cases t <;> by_cases h1 : i % 2 = 1 <;> simp [T.setN, T.get, hi, h1, Ne.symm hi]
    · by_cases hi : i = 0
      · subst hi; cases t <;> simp [T.setN, T.get, hj]
      · by_cases h1 : i % 2 = 1 <;> by_cases hj1 : j % 2 = 1
        · have e : (j / 2 = i / 2) = (j = i) := propext ⟨fun _ => by omega, fun _ => by omega⟩
          cases t <;> simp [T.setN, T.get, hj, hi, h1, hj1, ih _ (i / 2) (j / 2) (by omega), e]
        · have e : ¬ j = i := fun e => by omega
          cases t <;> simp [T.setN, T.get, hj, hi, h1, hj1, e]
        · have e : ¬ j = i := fun e => by omega
          cases t <;> simp [T.setN, T.get, hj, hi, h1, hj1, e]
        · have e : (j / 2 - 1 = i / 2 - 1) = (j = i) := propext ⟨fun _ => by omega, fun _ => by omega⟩
          cases t <;> simp [T.setN, T.get, hj, hi, h1, hj1, ih _ (i / 2 - 1) (j / 2 - 1) (by omega), e]

theorem T.setN_comm {α : Type} (u v : Option α) : ∀ (n m : Nat) (t : T α) (i j : Nat), i < n → j < m → i ≠ j → T.setN v n (T.setN u m t j) i = T.setN u m (T.setN v n t i) j := by
  intro n
  induction n with
  | zero => intro m t i j h; omega
  | succ n ih =>
    intro m t i j h hm ne
    cases m with
    | zero => omega
    | succ m =>
      by_cases hi : i = 0
      · subst hi
        have hj : ¬ j = 0 := fun e => ne e.symm
        by_cases h1 : j % 2 = 1 <;> cases t <;> simp [T.setN, hj, h1]
      · by_cases hj : j = 0
        · subst hj
          by_cases h1 : i % 2 = 1 <;> cases t <;> simp [T.setN, hi, h1]
        · by_cases h1 : i % 2 = 1 <;> by_cases h2 : j % 2 = 1
          · cases t <;> simp [T.setN, hi, hj, h1, h2, ih m _ (i / 2) (j / 2) (by omega) (by omega) (by omega)]
          · cases t <;> simp [T.setN, hi, hj, h1, h2]
          · cases t <;> simp [T.setN, hi, hj, h1, h2]
          · cases t <;> simp [T.setN, hi, hj, h1, h2, ih m _ (i / 2 - 1) (j / 2 - 1) (by omega) (by omega) (by omega)]

theorem T.get_put {α : Type} (t : T α) (i j : Nat) (v : Option α) : (t.put i v).get j = if j = i then v else t.get j := T.get_setN v _ t i j (by omega)
theorem T.get_put_eq {α : Type} (t : T α) (i : Nat) (v : Option α) : (t.put i v).get i = v := by rw [T.get_put, if_pos rfl]
theorem T.get_put_ne {α : Type} (t : T α) {i j : Nat} (v : Option α) (h : j ≠ i) : (t.put i v).get j = t.get j := by rw [T.get_put, if_neg h]
theorem T.get_set {α : Type} (t : T α) (i j : Nat) (v : α) : (t.set i v).get j = if j = i then some v else t.get j := T.get_put t i j _
theorem T.get_set_eq {α : Type} (t : T α) (i : Nat) (v : α) : (t.set i v).get i = some v := T.get_put_eq t i _
theorem T.get_set_ne {α : Type} (t : T α) {i j : Nat} (v : α) (h : j ≠ i) : (t.set i v).get j = t.get j := T.get_put_ne t _ h
theorem T.put_comm {α : Type} (t : T α) {i j : Nat} (u v : Option α) (h : i ≠ j) : (t.put j u).put i v = (t.put i v).put j u := T.setN_comm u v _ _ t i j (by omega) (by omega) h
theorem T.get_leaf {α : Type} (i : Nat) : (T.leaf : T α).get i = none := by cases i <;> rfl

end Go.Abs
