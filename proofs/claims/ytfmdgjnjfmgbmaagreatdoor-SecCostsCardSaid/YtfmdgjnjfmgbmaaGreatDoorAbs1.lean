/-
  ABS, part 1: what one compiled operation does, and how compiled code runs. No program in sight: sizes and zero values stand in the operations.
-/
import Derived.Test.YtfmdgjnjfmgbmaaGreatDoorAbs0
import GoSem.Core.Utf8
namespace Go.Abs
open Go

inductive AObj where
  | cells (cs : List V) (esz fz : Nat) (spent : Bool)
  | map (es : List (V × V × Nat)) (clock : Nat) (frozen : Bool)
  | mapIter (m : Option Nat) (since : Nat) (seen : List Nat) (last : Nat)
  | rmapIter (ks vs : List V) (seen : List Nat)
  | strIter (s : List Nat) (pos : Nat)
  /-- A loop over a function: is a round on? -/
  | loop (busy : Bool)
  /-- The block for the calls that a loop's rounds put off: none. -/
  | shut
  deriving Inhabited

abbrev Heap := T AObj
abbrev Env := T V

/-- Operands. -/
inductive X where
  | tmp (t : Nat)
  | const (v : V)
  deriving Inhabited

def Env.at (e : Env) (t : Nat) : V := match e.get t with | some v => v | none => V.undef
def X.val (e : Env) : X → V
  | .tmp t => e.at t
  | .const v => v

/-- What '==' holds against each other. -/
inductive EqK where
  | flat (agg : Bool) (ks : List CK)
  | ptrNil | sliceNil | mapNil | funcNil | ifaceNil
  deriving Inhabited

/-- A key's type: a struct or array, or not; its cells' kinds. -/
structure KT where
  agg : Bool
  ks : List CK
  deriving Inhabited

inductive I where
  | mov (x : X)
  | pick (c a b : X)
  | new (cs : List V)
  | box (x : X)
  | build (zero : List V) (parts : List (Nat × Nat × X))
  | buildSlice (cells : List V) (esz len : Nat) (parts : List (Nat × Nat × X))
  | load (agg : Bool) (n : Nat) (a : X)
  | store (n : Nat) (a x : X)
  | nilCheck (x : X)
  | bin (op : BinOp) (x y : X)
  | eq (k : EqK) (neg : Bool) (x y : X)
  | un (op : UnOp) (x : X)
  | convI (k : IntKind) (x : X)
  | convId (x : X)
  | bytesOf (x : X)
  | strOf (x : X)
  | iface (t : TypeId) (x : X)
  | func (fn : Fn) (first captured : List X)
  | mkMap (hint : Option X)
  | mkSlice (zero : List V) (esz bytes : Nat) (len cap : X)
  | sliceS (x : X) (lo hi : Option X)
  | sliceL (esz : Nat) (x : X) (lo hi mx : Option X)
  | fieldAddr (off : Nat) (x : X)
  | field (agg : Bool) (n off : Nat) (x : X)
  | indexAddrS (esz : Nat) (x i : X)
  | indexAddrA (esz len : Nat) (x i : X)
  | indexA (agg : Bool) (esz len : Nat) (x i : X)
  | indexStr (x i : X)
  | lookup (kt : KT) (zero : V) (ok : Bool) (x k : X)
  | mapSet (kt : KT) (m k v : X)
  | rangeM (x : X)
  | rangeS (x : X)
  | nextS (it : X)
  | nextM (it : X)
  | entry (it : X)
  | assertC (t : TypeId) (zero : V) (ok : Bool) (x : X)
  | extract (i : Nat) (x : X)
  | lenStr (x : X)
  | lenSlice (x : X)
  | lenMap (x : X)
  | append (esz bytes : Nat) (s x : X)
  | copy (esz : Nat) (d s : X)
  | delete (kt : KT) (m k : X)
  | minmax (max : Bool) (x y : X)
  | call (f : X) (args : List X)
  | recover
  | defer (f : X) (args : List X)
  | panic (x : X)
  | runeS (x : X)
  | bad
  deriving Inhabited

/-- What an operation comes to: an object that is written anew or dropped, one that is made under the number it is handed, and its value. -/
structure Eff where
  upd : Option (Nat × Option AObj) := none
  new : Option AObj := none
  val : V

def Eff.heap (e : Eff) (id : Nat) (h : Heap) : Heap :=
  let h := match e.upd with | some (b, o) => h.put b o | none => h
  match e.new with | some o => h.set id o | none => h

abbrev View := Nat → Option AObj

def cellsAt (row : List V) (off n : Nat) : Option (List V) := if off + n ≤ row.length then some ((row.drop off).take n) else none

/-- n cells from a place on. -/
def readAt (g : View) (p : V) (n : Nat) : Option (List V) :=
  match p with
  | .ptr b off => match g b with | some (.cells cs _ _ _) => cellsAt cs off n | _ => none
  | .rptr row off => cellsAt row off n
  | _ => none

def putAt (cs : List V) (off : Nat) (vs : List V) : List V := cs.take off ++ vs ++ cs.drop (off + vs.length)

/-- One value of n cells. -/
def ofCells (agg : Bool) (cs : List V) : Option V :=
  if agg then some (.agg cs) else match cs with | [v] => some v | _ => none

def vlen : V → Option Nat
  | .nilSlice => some 0
  | .slice _ _ n _ => some n
  | .rslice _ _ n _ => some n
  | .str s => some s.length
  | _ => none

/-- A slice's (or text's) first n elements' cells. -/
def firstCells (g : View) (esz n : Nat) : V → Option (List V)
  | .nilSlice => if n = 0 then some [] else none
  | .slice b off len _ => if n ≤ len then (match g b with | some (.cells cs e _ _) => if e = esz then cellsAt cs off (n * esz) else none | _ => none) else none
  | .rslice row off len _ => if n ≤ len then cellsAt row off (n * esz) else none
  | .str s => if esz = 1 ∧ n ≤ s.length then some ((s.take n).map fun b : Nat => V.int .u8 b) else none
  | _ => none

def fillIn (cells : List V) : List (Nat × Nat × V) → Option (List V)
  | [] => some cells
  | (off, size, v) :: rest =>
    if v.cells.length = size ∧ off + size ≤ cells.length ∧ v.cells.all V.one then fillIn (putAt cells off v.cells) rest else none

def intOf : V → Option (IntKind × Int)
  | .int k n => some (k, n)
  | _ => none

/-- Sums of lengths beyond this are not gone into. -/
def roomy : Nat := 2 ^ 40

def bytesLess : List Nat → List Nat → Bool
  | _, [] => false
  | [], _ :: _ => true
  | a :: x, b :: y => Nat.blt a b || (Nat.beq a b && bytesLess x y)

def strOp (op : BinOp) (x y : List Nat) : Option V :=
  match op with
  | .add => if x.length + y.length ≤ roomy then some (.str (x ++ y)) else none
  | .eql => some (.bool (x == y))
  | .neq => some (.bool !(x == y))
  | .lss => some (.bool (bytesLess x y))
  | .leq => some (.bool (bytesLess x y || x == y))
  | .gtr => some (.bool !(bytesLess x y || x == y))
  | .geq => some (.bool !(bytesLess x y))
  | _ => none

def intOp (op : BinOp) (k : IntKind) (a b : Int) : Option V :=
  match op with
  | .add => some (.int k (k.wrap (a + b)))
  | .sub => some (.int k (k.wrap (a - b)))
  | .mul => some (.int k (k.wrap (a * b)))
  | .quo => if b = 0 then none else some (.int k (k.wrap (a.tdiv b)))
  | .rem => if b = 0 then none else some (.int k (a.tmod b))
  | .and => some (.int k (k.wrap (BitVec.ofInt k.bits a &&& BitVec.ofInt k.bits b).toNat))
  | .or => some (.int k (k.wrap (BitVec.ofInt k.bits a ||| BitVec.ofInt k.bits b).toNat))
  | .xor => some (.int k (k.wrap (BitVec.ofInt k.bits a ^^^ BitVec.ofInt k.bits b).toNat))
  | .andNot => some (.int k (k.wrap (BitVec.ofInt k.bits a &&& ~~~ BitVec.ofInt k.bits b).toNat))
  | .eql => some (.bool (a == b))
  | .neq => some (.bool (a != b))
  | .lss => some (.bool (decide (a < b)))
  | .leq => some (.bool (decide (a ≤ b)))
  | .gtr => some (.bool (decide (a > b)))
  | .geq => some (.bool (decide (a ≥ b)))
  | _ => none

def shiftOp (op : BinOp) (k : IntKind) (a b : Int) : Option V :=
  if b < 0 then none else
    match op with
    | .shl => some (.int k (k.wrap (a * 2 ^ (min b.toNat k.bits))))
    | .shr => some (.int k (a.fdiv (2 ^ (min b.toNat k.bits))))
    | _ => none

/-! Numbers that aren't known, and texts with digits that aren't. -/
/-- Up to here a kind's numbers are themselves. -/
def limOf : IntKind → Int
  | .i8 => 128
  | .i16 => 32768
  | .i32 => 2147483648
  | .i64 => 9223372036854775808
  | .u8 => 256
  | .u16 => 65536
  | .u32 => 4294967296
  | .u64 => 18446744073709551616

def Sx.bnd : Sx → Int × Int
  | .num _ _ lo hi _ | .any _ lo hi => (lo, hi)
  | .rem .. => (0, 255)

def mkNum (k : IntKind) (p : Poly) (lo hi : Int) (fs : List (Poly × Int × Int)) : V := if p.a = 0 ∧ p.b = 0 ∧ p.ab = 0 then .int k p.c else .sym (.num k p lo hi fs)
/-- The tighter bounds. -/
def tight (fs : List (Poly × Int × Int)) (p : Poly) (lo hi : Int) : Int × Int := match fs.find? fun f => decide (f.1 = p) with
  | some f => (if lo ≤ f.2.1 then f.2.1 else lo, if f.2.2 ≤ hi then f.2.2 else hi)
  | none => (lo, hi)
def fitNum (k : IntKind) (p : Poly) (b : Int × Int) (fs : List (Poly × Int × Int)) : Option V := if 0 ≤ b.1 ∧ b.2 < limOf k then some (mkNum k p b.1 b.2 fs) else none
def pickF (fs gs : List (Poly × Int × Int)) : List (Poly × Int × Int) := if fs.isEmpty then gs else fs
def Poly.add (p q : Poly) : Poly := ⟨p.c + q.c, p.a + q.a, p.b + q.b, p.ab + q.ab⟩
def Poly.mul (p q : Poly) : Option Poly :=
  if p.a * q.a = 0 ∧ p.b * q.b = 0 ∧ p.ab * q.ab = 0 ∧ p.a * q.ab + p.ab * q.a = 0 ∧ p.b * q.ab + p.ab * q.b = 0 then
    some ⟨p.c * q.c, p.c * q.a + p.a * q.c, p.c * q.b + p.b * q.c, p.c * q.ab + p.ab * q.c + (p.a * q.b + p.b * q.a)⟩ else none

/-- What bounds tell. -/
def cmpB (op : BinOp) (x y : Int × Int) : Option Bool := match op with
  | .lss => if x.2 < y.1 then some true else if y.2 ≤ x.1 then some false else none
  | .leq => if x.2 ≤ y.1 then some true else if y.2 < x.1 then some false else none
  | .gtr => if y.2 < x.1 then some true else if x.2 ≤ y.1 then some false else none
  | .geq => if y.2 ≤ x.1 then some true else if x.2 < y.1 then some false else none
  | .eql => if x.2 < y.1 ∨ y.2 < x.1 then some false else none
  | .neq => if x.2 < y.1 ∨ y.2 < x.1 then some true else none
  | _ => none

/-- Are they the same, whatever they are? -/
def Sx.alike : Sx → Sx → Bool
  | .num _ p .., .num _ q .. => decide (p = q)
  | _, _ => false

def symCmp (op : BinOp) (x y : Sx) : Option Bool :=
  if x.alike y then (match op with | .eql | .leq | .geq => some true | .neq | .lss | .gtr => some false | _ => none) else cmpB op x.bnd y.bnd

def symNum (op : BinOp) (x y : Sx) : Option V := match x, y with
  | .num k p lo hi fs, .num _ q lo' hi' gs => match op with
    | .add => fitNum k (p.add q) (tight (pickF fs gs) (p.add q) (lo + lo') (hi + hi')) (pickF fs gs)
    | .mul => if 0 ≤ lo ∧ 0 ≤ lo' then (p.mul q).bind fun r => fitNum k r (tight (pickF fs gs) r (lo * lo') (hi * hi')) (pickF fs gs) else none
    | _ => none
  | .rem k d p lo hi fs, .num _ q _ _ _ => match op with
    | .rem => if q = Poly.const d ∧ d ≠ 0 then some (mkNum k p lo hi fs) else none
    | _ => none
  | _, _ => none

def symOp (op : BinOp) (x y : Sx) : Option V :=
  if x.kind = y.kind then (match symCmp op x y with | some b => some (.bool b) | none => symNum op x y) else none

def symConv (k : IntKind) : Sx → Option V
  | .num _ p lo hi fs => if 0 ≤ lo ∧ hi < limOf k then some (.sym (.num k p lo hi fs)) else none
  | .rem _ d p lo hi fs => if 255 < limOf k then some (.sym (.rem k d p lo hi fs)) else none
  | .any _ lo hi => if 0 ≤ lo ∧ hi < limOf k then some (.sym (.any k lo hi)) else none

def V.sx : V → Option Sx
  | .int k n => some (.num k (.const n) n n [])
  | .sym x => some x
  | _ => none

def symMax (max : Bool) (u v : V) : Option V := match u.sx, v.sx with
  | some x, some y => if x.kind = y.kind then
      (if x.bnd.2 ≤ y.bnd.1 then some (if max then v else u) else if y.bnd.2 ≤ x.bnd.1 then some (if max then u else v) else none) else none
  | _, _ => none

def clash1 (c d : Nat) : Bool := if c = 256 then (d != 256 && (Nat.blt d 48 || Nat.blt 57 d)) else if d = 256 then (Nat.blt c 48 || Nat.blt 57 c) else c != d
/-- Two texts that can't be the same. -/
def clash : List Nat → List Nat → Bool
  | [], [] => false
  | c :: l, d :: r => clash1 c d || clash l r
  | _, _ => true

def sstrOp (op : BinOp) (x y : List Nat) : Option V := match op with
  | .add => if x.length + y.length ≤ roomy then some (.sstr (x ++ y)) else none
  | .eql => if clash x y then some (.bool false) else none
  | .neq => if clash x y then some (.bool true) else none
  | _ => none

def binOp (op : BinOp) (x y : V) : Option V :=
  match x, y with
  | .int k a, .int k' b => match op with
    | .shl => shiftOp .shl k a b
    | .shr => shiftOp .shr k a b
    | op => if k = k' then intOp op k a b else none
  | .str a, .str b => strOp op a b
  | .sym x, .sym y => symOp op x y
  | .sym x, .int k n => symOp op x (.num k (.const n) n n [])
  | .int k n, .sym y => symOp op (.num k (.const n) n n []) y
  | .sstr a, .sstr b => sstrOp op a b
  | .sstr a, .str b => sstrOp op a b
  | .str a, .sstr b => sstrOp op a b
  | _, _ => none

def unOp (op : UnOp) (x : V) : Option V :=
  match op, x with
  | .neg, .int k n => some (.int k (k.wrap (0 - n)))
  | .xor, .int k n => some (.int k (k.wrap (BitVec.ofInt k.bits (if k.signed then -1 else k.max) ^^^ BitVec.ofInt k.bits n).toNat))
  | .not, .bool b => some (.bool !b)
  | _, _ => none

def eqOp (k : EqK) (x y : V) : Option Bool :=
  match k, x, y with
  | .flat agg ks, x, y => match agg, x, y with
    | true, .agg a, .agg b => if fitsAll ks a && fitsAll ks b then some (sameAll a b) else none
    | false, .bool a, .bool b => match ks with | [.bool] => some (a == b) | _ => none
    | _, _, _ => none
  | .ptrNil, .nilPtr, .nilPtr => some true
  | .ptrNil, .ptr .., .nilPtr | .ptrNil, .rptr .., .nilPtr | .ptrNil, .nilPtr, .ptr .. | .ptrNil, .nilPtr, .rptr .. => some false
  | .sliceNil, .nilSlice, .nilSlice => some true
  | .sliceNil, .slice .., .nilSlice | .sliceNil, .rslice .., .nilSlice | .sliceNil, .nilSlice, .slice .. | .sliceNil, .nilSlice, .rslice .. => some false
  | .mapNil, .nilMap, .nilMap => some true
  | .mapNil, .map .., .nilMap | .mapNil, .rmap .., .nilMap => some false
  | .funcNil, .nilFunc, .nilFunc => some true
  | .funcNil, .func .., .nilFunc | .funcNil, .nilFunc, .func .. => some false
  | .ifaceNil, .nilIface, .nilIface => some true
  | .ifaceNil, .iface .., .nilIface | .ifaceNil, .nilIface, .iface .. => some false
  | _, _, _ => none

def KT.fits (kt : KT) (k : V) : Bool :=
  match kt.agg, k with
  | true, .agg cs => fitsAll kt.ks cs
  | true, _ => false
  | false, .agg _ => false
  | false, v => fitsAll kt.ks [v]

/-- Where a key is among entries. -/
def findE (k : List V) : List (V × V × Nat) → Nat → Option (Nat × V)
  | [], _ => none
  | (k', v, _) :: es, i => if sameAll k k'.cells then some (i, v) else findE k es (i + 1)

def findR (k : List V) : List V → List V → Option V
  | k' :: ks, v :: vs => if sameAll k k'.cells then some v else findR k ks vs
  | _, _ => none

def lookupV (g : View) (kt : KT) (x k : V) : Option (Option V) :=
  if !kt.fits k then none else
  match x with
  | .nilMap => some none
  | .rmap ks vs => if ks.all kt.fits && ks.length == vs.length then some (findR k.cells ks vs) else none
  | .map b => match g b with
    | some (.map es _ _) => if es.all (fun e => kt.fits e.1) then some ((findE k.cells es 0).map (·.2)) else none
    | _ => none
  | _ => none

def bound (e : Env) (x : Option X) (d most : Nat) : Option Nat :=
  match x with
  | none => some d
  | some x => match x.val e with
    | .int _ i => if 0 ≤ i ∧ i ≤ most then some i.toNat else none
    | _ => none

def decodeAt (s : List Nat) (i : Nat) : Nat × Nat :=
  let at' (k : Nat) : Nat := s.getD (i + k) 0
  let cont (k : Nat) : Bool := i + k < s.length && at' k / 64 == 2
  let b0 := at' 0
  if b0 < 0x80 then (b0, 1)
  else if b0 / 32 == 6 && cont 1 then
    let c := (b0 % 32) * 64 + at' 1 % 64
    if c ≥ 0x80 then (c, 2) else (Utf8.runeError, 1)
  else if b0 / 16 == 14 && cont 1 && cont 2 then
    let c := (b0 % 16) * 4096 + (at' 1 % 64) * 64 + at' 2 % 64
    if c ≥ 0x800 && Utf8.valid c then (c, 3) else (Utf8.runeError, 1)
  else if b0 / 8 == 30 && cont 1 && cont 2 && cont 3 then
    let c := (b0 % 8) * 262144 + (at' 1 % 64) * 4096 + (at' 2 % 64) * 64 + at' 3 % 64
    if c ≥ 0x10000 && Utf8.valid c then (c, 4) else (Utf8.runeError, 1)
  else (Utf8.runeError, 1)

def bytesIn : List V → Option (List Nat)
  | [] => some []
  | .int .u8 n :: r => if 0 ≤ n ∧ n < 256 then (bytesIn r).map (n.toNat :: ·) else none
  | _ => none

def isStr : V → Bool
  | .str _ => true
  | _ => false

def evAppend (g : View) (id esz bytes : Nat) (s x : V) : Option Eff :=
  if isStr s then none else
  match vlen s, vlen x with
  | some ls, some n =>
    match firstCells g esz ls s, firstCells g esz n x with
    | some old, some new =>
      if n = 0 then some { val := s } else
      if (ls + n) * (bytes + 1) ≤ roomy ∧ 0 < esz then
        let fresh : Eff := { new := some (.cells (old ++ new) esz 0 false), val := .slice id 0 (ls + n) none }
        match s with
        | .nilSlice => some fresh
        | .rslice _ _ _ (some c) => if ls + n ≤ c then none else some fresh
        | .slice b off _ cap => match g b with
          | some (.cells cs e fz spent) =>
            if spent then none
            else match cap with
              | some c =>
                if ls + n ≤ c then
                  if fz ≤ off + ls * esz ∧ off + (ls + n) * esz ≤ cs.length then some { upd := some (b, some (.cells (putAt cs (off + ls * esz) new) e fz false)), val := .slice b off (ls + n) (some c) } else none
                else some fresh
              | none =>
                if off + ls * esz = cs.length then
                  some { upd := some (b, if fz = cs.length then some (.cells cs e fz true) else none)
                         new := some (.cells (old ++ new) esz (fz - off) false), val := .slice id 0 (ls + n) none }
                else if fz ≤ off + ls * esz then
                  if off + (ls + n) * esz ≤ cs.length then some { upd := some (b, some (.cells (putAt cs (off + ls * esz) new) e fz false)), val := .slice b off (ls + n) none }
                  else none
                else none
          | _ => none
        | _ => none
      else none
    | _, _ => none
  | _, _ => none

def evCopy (g : View) (esz : Nat) (d s : V) : Option Eff :=
  if isStr d || esz == 0 then none else
  match vlen d, vlen s with
  | some ld, some ls =>
    let n := min ls ld
    match firstCells g esz n s with
    | some cs =>
      if n = 0 then some { val := .int .i64 0 } else
      match d with
      | .slice b off _ _ => match g b with
        | some (.cells old e fz false) =>
          if e = esz ∧ fz ≤ off ∧ off + cs.length ≤ old.length then some { upd := some (b, some (.cells (putAt old off cs) e fz false)), val := .int .i64 n } else none
        | _ => none
      | _ => none
    | none => none
  | _, _ => none

def evSlice (g : View) (e : Env) (esz : Nat) (x : V) (lo hi mx : Option X) : Option V :=
  match x with
  | .nilSlice => (bound e mx 0 0).bind fun m => (bound e hi 0 m).bind fun h => (bound e lo 0 h).bind fun _ => some .nilSlice
  | .slice b off len cap =>
    (match g b with | some (.cells _ es _ _) => if es = esz then some () else none | _ => none).bind fun _ => match mx with
    | none => (bound e hi len (cap.getD len)).bind fun h => (bound e lo 0 h).bind fun l => some (.slice b (off + l * esz) (h - l) (cap.map (· - l)))
    | some _ => (bound e mx 0 (cap.getD len)).bind fun m => (bound e hi len m).bind fun h => (bound e lo 0 h).bind fun l => some (.slice b (off + l * esz) (h - l) (some (m - l)))
  | .rslice row off len cap =>
    match mx with
    | none => (bound e hi len len).bind fun h => (bound e lo 0 h).bind fun l => some (.rslice row (off + l * esz) (h - l) (cap.map (· - l)))
    | some _ => (bound e mx 0 len).bind fun m => (bound e hi len m).bind fun h => (bound e lo 0 h).bind fun l => some (.rslice row (off + l * esz) (h - l) (some (m - l)))
  | _ => none

/-- One operation, but for calls, recover, defer, panic and steps over maps. -/
def evI (g : View) (id : Nat) (e : Env) : I → Option Eff
  | .mov x => some { val := x.val e }
  | .pick c a b => match c.val e with | .bool t => some { val := if t then a.val e else b.val e } | _ => none
  | .new cs => some { new := some (.cells cs cs.length 0 false), val := .ptr id 0 }
  | .box x => let v := x.val e
    if v.cells.all V.one then some { new := some (.cells v.cells v.cells.length 0 false), val := .ptr id 0 } else none
  | .build zero parts => (fillIn zero (parts.map fun p => (p.1, p.2.1, p.2.2.val e))).map fun cs => { val := .agg cs }
  | .buildSlice cells esz len parts => (fillIn cells (parts.map fun p => (p.1, p.2.1, p.2.2.val e))).map fun cs =>
      { new := some (.cells cs esz 0 false), val := .slice id 0 len (some len) }
  | .load agg n a => (readAt g (a.val e) n).bind fun cs => (ofCells agg cs).map fun v => { val := v }
  | .store n a x => match a.val e with
    | .ptr b off => match g b with
      | some (.cells cs esz fz false) =>
        let vs := (x.val e).cells
        if vs.length = n ∧ fz ≤ off ∧ off + n ≤ cs.length ∧ vs.all V.one then some { upd := some (b, some (.cells (putAt cs off vs) esz fz false)), val := V.undef } else none
      | _ => none
    | _ => none
  | .nilCheck x => match x.val e with
    | .ptr b off => some { val := .ptr b off }
    | .rptr row off => some { val := .rptr row off }
    | .func (.func f) a b => some { val := .func (.func f) a b }
    | .iface t v => some { val := .iface t v }
    | _ => none
  | .bin op x y => (binOp op (x.val e) (y.val e)).map fun v => { val := v }
  | .eq k neg x y => (eqOp k (x.val e) (y.val e)).map fun b => { val := .bool (if neg then !b else b) }
  | .un op x => (unOp op (x.val e)).map fun v => { val := v }
  | .convI k x => match x.val e with | .int _ n => some { val := .int k (k.wrap n) } | .sym x => (symConv k x).map fun v => { val := v } | _ => none
  | .convId x => match x.val e with | .str s => some { val := .str s } | _ => none
  | .bytesOf x => match x.val e with
    | .str s => if s.length ≤ roomy then some { new := some (.cells (s.map fun b : Nat => V.int .u8 b) 1 0 false), val := .slice id 0 s.length none } else none
    | _ => none
  | .strOf x => match vlen (x.val e), x.val e with
    | some _, .str _ => none
    | some n, v => (firstCells g 1 n v).bind fun cs => (bytesIn cs).map fun s => { val := .str s }
    | none, _ => none
  | .iface t x => some { val := .iface t (x.val e) }
  | .func fn first captured => some { val := .func fn (first.map (X.val e)) (captured.map (X.val e)) }
  | .mkMap hint => match hint with
    | none => some { new := some (.map [] 0 false), val := .map id }
    | some x => match x.val e with | .int .. => some { new := some (.map [] 0 false), val := .map id } | _ => none
  | .mkSlice zero esz bytes len cap => match len.val e, cap.val e with
    | .int _ l, .int _ c => if 0 ≤ l ∧ l ≤ c ∧ c * (bytes + 1) ≤ (roomy : Int) ∧ zero.length = esz then
        some { new := some (.cells ((List.replicate c.toNat zero).flatten) esz 0 false), val := .slice id 0 l.toNat (some c.toNat) } else none
    | _, _ => none
  | .sliceS x lo hi => match x.val e with
    | .str s => (bound e hi s.length s.length).bind fun h => (bound e lo 0 h).bind fun l => some { val := .str ((s.take h).drop l) }
    | _ => none
  | .sliceL esz x lo hi mx => (evSlice g e esz (x.val e) lo hi mx).map fun v => { val := v }
  | .fieldAddr off x => match x.val e with
    | .ptr b o => some { val := .ptr b (o + off) }
    | .rptr row o => some { val := .rptr row (o + off) }
    | _ => none
  | .field agg n off x => match x.val e with
    | .agg cs => (cellsAt cs off n).bind fun cs => (ofCells agg cs).map fun v => { val := v }
    | _ => none
  | .indexAddrS esz x i => match x.val e, i.val e with
    | .slice b off len _, .int _ n => if 0 ≤ n ∧ n < len then some { val := .ptr b (off + n.toNat * esz) } else none
    | .rslice row off len _, .int _ n => if 0 ≤ n ∧ n < len then some { val := .rptr row (off + n.toNat * esz) } else none
    | _, _ => none
  | .indexAddrA esz len x i => match x.val e, i.val e with
    | .ptr b off, .int _ n => if 0 ≤ n ∧ n < len then some { val := .ptr b (off + n.toNat * esz) } else none
    | .rptr row off, .int _ n => if 0 ≤ n ∧ n < len then some { val := .rptr row (off + n.toNat * esz) } else none
    | _, _ => none
  | .indexA agg esz len x i => match x.val e, i.val e with
    | .agg cs, .int _ n => if 0 ≤ n ∧ n < len then (cellsAt cs (n.toNat * esz) esz).bind fun cs => (ofCells agg cs).map fun v => { val := v } else none
    | _, _ => none
  | .indexStr x i => match x.val e, i.val e with
    | .str s, .int _ n => if 0 ≤ n then (s[n.toNat]?).map fun b : Nat => ({ val := .int .u8 b } : Eff) else none
    | _, _ => none
  | .lookup kt zero ok x k => (lookupV g kt (x.val e) (k.val e)).map fun r =>
      { val := if ok then .tuple [r.getD zero, .bool r.isSome] else r.getD zero }
  | .mapSet kt m k v => match m.val e with
    | .map b => match g b with
      | some (.map es clock false) =>
        let k := k.val e
        if kt.fits k && es.all (fun e => kt.fits e.1) then
          some { upd := some (b, some (match findE k.cells es 0 with
            | some (i, _) => .map (es.set i (k, v.val e, ((es[i]?).map (·.2.2)).getD 0)) clock false
            | none => .map (es ++ [(k, v.val e, clock)]) (clock + 1) false)), val := V.undef }
        else none
      | _ => none
    | _ => none
  | .rangeM x => match x.val e with
    | .nilMap => some { new := some (.mapIter none 0 [] 0), val := .ptr id 0 }
    | .map b => match g b with | some (.map _ clock _) => some { new := some (.mapIter (some b) clock [] clock), val := .ptr id 0 } | _ => none
    | .rmap ks vs => some { new := some (.rmapIter ks vs []), val := .ptr id 0 }
    | _ => none
  | .rangeS x => match x.val e with
    | .str s => some { new := some (.strIter s 0), val := .ptr id 0 }
    | .sstr s => some { new := some (.strIter s 0), val := .ptr id 0 }
    | _ => none
  | .nextS it => match it.val e with
    | .ptr b 0 => match g b with
      | some (.strIter s pos) =>
        if pos < s.length then
          if s.getD pos 0 < 128 then some { upd := some (b, some (.strIter s (pos + 1))), val := .tuple [.bool true, .int .i64 pos, .int .i32 (s.getD pos 0)] }
          else if s.getD pos 0 = 256 then some { upd := some (b, some (.strIter s (pos + 1))), val := .tuple [.bool true, .int .i64 pos, .sym (.any .i32 48 57)] }
          else if s.all (fun c => c != 256) then some { upd := some (b, some (.strIter s (pos + (decodeAt s pos).2))), val := .tuple [.bool true, .int .i64 pos, .int .i32 (decodeAt s pos).1] }
          else none
        else some { val := .tuple [.bool false] }
      | _ => none
    | _ => none
  | .entry it => match it.val e with
    | .ptr b 0 => match g b with
      | some (.mapIter (some m) _ seen stepped) => match g m with
        | some (.map es clock _) => match seen.getLast? with
          | some stamp => if clock = stepped then (es.find? (fun x => Nat.beq x.2.2 stamp)).map fun x => { val := .tuple [x.1, x.2.1] } else none
          | none => none
        | _ => none
      | some (.rmapIter ks vs seen) => match seen.getLast? with
        | some i => match ks[i]?, vs[i]? with
          | some k, some v => some { val := .tuple [k, v] }
          | _, _ => none
        | none => none
      | _ => none
    | _ => none
  | .assertC t zero ok x => match x.val e with
    | .nilIface => if ok then some { val := .tuple [zero, .bool false] } else none
    | .iface u v => if u = t then some { val := if ok then .tuple [v, .bool true] else v } else if ok then some { val := .tuple [zero, .bool false] } else none
    | _ => none
  | .extract i x => match x.val e with
    | .tuple vs => (vs[i]?).map fun v => { val := v }
    | _ => none
  | .lenStr x => match x.val e with | .str s => some { val := .int .i64 s.length } | .sstr s => some { val := .int .i64 s.length } | _ => none
  | .lenSlice x => match x.val e with | .str _ => none | v => (vlen v).map fun n : Nat => ({ val := .int .i64 n } : Eff)
  | .lenMap x => match x.val e with
    | .nilMap => some { val := .int .i64 0 }
    | .rmap ks vs => if ks.length = vs.length then some { val := .int .i64 ks.length } else none
    | .map b => match g b with | some (.map es _ _) => some { val := .int .i64 es.length } | _ => none
    | _ => none
  | .append esz bytes s x => evAppend g id esz bytes (s.val e) (x.val e)
  | .copy esz d s => evCopy g esz (d.val e) (s.val e)
  | .delete kt m k => match m.val e with
    | .nilMap => if kt.fits (k.val e) then some { val := .tuple [] } else none
    | .map b => match g b with
      | some (.map es clock false) =>
        if kt.fits (k.val e) && es.all (fun e => kt.fits e.1) then
          some { upd := some (b, some (match findE (k.val e).cells es 0 with
            | some (i, _) => .map (es.eraseIdx i) clock false
            | none => .map es clock false)), val := .tuple [] }
        else none
      | _ => none
    | _ => none
  | .minmax max x y => match x.val e, y.val e with
    | .int k a, .int k' b => if k = k' then some { val := .int k (if max then (if b > a then b else a) else (if b < a then b else a)) } else none
    | .str a, .str b => some { val := .str (if max then (if bytesLess a b then b else a) else (if bytesLess a b || a == b then a else b)) }
    | u, v => (symMax max u v).map fun r => { val := r }
  | .runeS x => match x.val e with | .int _ n => if 0 ≤ n ∧ n < 128 then some { val := .str [n.toNat] } else none | .sym x => if 48 ≤ x.bnd.1 ∧ x.bnd.2 ≤ 57 then some { val := .sstr [256] } else none | _ => none
  | .nextM _ | .call _ _ | .recover | .defer _ _ | .panic _ | .bad => none

end Go.Abs
