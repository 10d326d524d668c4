/-
  ABS, part 3: from the model's code to compiled code: sizes, zero values and kinds are read off the table of types once. What isn't known to the evaluator compiles to nothing.
-/
import Derived.Test.YtfmdgjnjfmgbmaaGreatDoorAbs2
import GoSem.Dispatch
import GoSem.Core.Region
namespace Go.Abs
open Go

mutual
def ofConst : Nat → Value → Option V
  | 0, _ => none
  | d + 1, v =>
    match v with
    | .bool b => some (.bool b)
    | .int k n => some (.int k n)
    | .string s => some (.str (s.data.toList.map (·.toNat)))
    | .pointer none => some .nilPtr
    | .slice none 0 0 => some .nilSlice
    | .map none => some .nilMap
    | .func fn first captured => if plainFn fn then (ofConsts d first.toList).bind fun a => (ofConsts d captured.toList).map fun b => .func fn a b else none
    | .nilFunc => some .nilFunc
    | .iface t v => (ofConst d v).map (.iface t ·)
    | .nilIface => some .nilIface
    | .agg cs => (ofConsts d cs.toList).map .agg
    | .tuple cs => (ofConsts d cs.toList).map .tuple
    | _ => none
def ofConsts : Nat → List Value → Option (List V)
  | 0, _ => none
  | _ + 1, [] => some []
  | d + 1, v :: vs => (ofConst d v).bind fun v => (ofConsts d vs).map (v :: ·)
end

/-- How deep constants are gone into. -/
def constDeep : Nat := 100000

section
variable (P : Program) (gl : Nat → Option (List V))

def cX : Operand → Option X
  | .tmp t => some (.tmp t)
  | .const v => (ofConst constDeep v).map .const
  | .global g => (gl g).map fun row => .const (.rptr row 0)
  | .func f => some (.const (.func (.func f) [] []))

def cXs (l : List Operand) : Option (List X) := l.mapM (cX gl)
def cXo : Option Operand → Option (Option X)
  | none => some none
  | some x => (cX gl x).map some

def tSize (t : TypeId) : Option Nat := (P.info? t).map (·.size)
def tBytes (t : TypeId) : Option Nat := (P.info? t).map (·.bytes)
def tZero (t : TypeId) : Option V := ((P.info? t).bind (·.zero)).bind (ofConst constDeep)
def tAgg (t : TypeId) : Option Bool := (P.underlying t).map fun d => match d with | .struct _ | .array _ _ => true | _ => false

mutual
/-- The kinds of the cells of a type whose values are held against each other cell by cell. -/
def tCks : Nat → TypeId → Option (List CK)
  | 0, _ => none
  | d + 1, t =>
    match P.underlying t with
    | some .bool => some [.bool]
    | some (.int k) => some [.int k]
    | some .string => some [.str]
    | some (.struct fs) => if P.stoodInHeld t then none else tCksF d 0 fs.toList
    | _ => none
def tCksF : Nat → Nat → List Field → Option (List CK)
  | 0, _, _ => none
  | _ + 1, _, [] => some []
  | d + 1, off, f :: fs => if f.name ≠ "_" ∧ f.offset = off then
      (tCks d f.type).bind fun a => if a.length = P.cellsOf f.type then (tCksF d (off + a.length) fs).map (a ++ ·) else none
    else none
end

def tKT (t : TypeId) : Option KT := (tAgg P t).bind fun a => (tCks P 1000 t).map fun l => ⟨a, l⟩

def isConst : Operand → Bool
  | .const _ => true
  | _ => false

def cEq (t : TypeId) (x y : Operand) : Option EqK :=
  match P.underlying t with
  | some .bool => some (.flat false [.bool])
  | some (.struct _) | some (.array _ _) => if P.eqGuardType P.depth t then none else (tCks P 1000 t).map (.flat true ·)
  | some (.pointer e) => if P.cellsOf e = 0 then none else some .ptrNil
  | some (.slice _) => some .sliceNil
  | some (.map _ _) => some .mapNil
  | some (.func _ _ _) => some .funcNil
  | some (.interface _) => if isConst x || isConst y then some .ifaceNil else none
  | _ => none

def structParts (fs : Array Field) (l : List (Nat × Operand)) : Option (List (Nat × Nat × X)) :=
  l.mapM fun p => (fs[p.1]?).bind fun f => (tSize P f.type).bind fun n => (cX gl p.2).map fun x => (f.offset, n, x)
def arrayParts (n : Nat) (l : List (Nat × Operand)) : Option (List (Nat × Nat × X)) :=
  l.mapM fun p => (cX gl p.2).map fun x => (p.1 * n, n, x)

def cOp : Op → Option I
  | .move x | .assign x => (cX gl x).map .mov
  | .pick c a b => (cX gl c).bind fun c => (cX gl a).bind fun a => (cX gl b).map fun b => .pick c a b
  | .alloc t => (tZero P t).bind fun z => if z.cells.all V.one then some (.new z.cells) else none
  | .box _ x => (cX gl x).map .box
  | .build t parts => (tZero P t).bind fun z => if z.cells.all V.one then match P.underlying t with
    | some (.struct fs) => if fs.all fun f => (P.info? f.type).isSome then (structParts P gl fs parts.toList).map fun ps => .build z.cells ps else none
    | some (.array _ e) => (tSize P e).bind fun n => (arrayParts gl n parts.toList).map fun ps => .build z.cells ps
    | _ => none
    else none
  | .buildSlice t len parts => match P.underlying t with
    | some (.slice e) => (tSize P e).bind fun n => (tZero P e).bind fun z =>
      if len * n ≤ 2 ^ 24 ∧ z.cells.length = n ∧ 0 < n ∧ z.cells.all V.one then (arrayParts gl n parts.toList).map fun ps => .buildSlice (List.replicate len z.cells).flatten n len ps else none
    | _ => none
  | .load t a => (tAgg P t).bind fun g => (tSize P t).bind fun n => (cX gl a).map fun a => .load g (if g then n else 1) a
  | .store t a x => (tSize P t).bind fun n => (cX gl a).bind fun a => (cX gl x).map fun x => .store n a x
  | .nilCheck x => (cX gl x).map .nilCheck
  | .binOp op t x y _ => (cX gl x).bind fun x' => (cX gl y).bind fun y' => match op with
    | .eql | .neq => match P.underlying t with
      | some (.int _) | some .string => some (.bin op x' y')
      | _ => (cEq P t x y).map fun k => .eq k (match op with | .neq => true | _ => false) x' y'
    | _ => some (.bin op x' y')
  | .unOp op _ x => (cX gl x).map (.un op ·)
  | .convert src dst x => (cX gl x).bind fun x => match P.underlying src, P.underlying dst with
    | some (.int _), some (.int k) => some (.convI k x)
    | some .string, some .string => some (.convId x)
    | some (.int _), some .string => some (.runeS x)
    | _, _ => none
  | .makeInterface t x => match P.underlying t with
    | some (.interface _) | none => none
    | _ => (cX gl x).map (.iface t ·)
  | .makeFunc fn first captured => if plainFn fn then (cXs gl first.toList).bind fun a => (cXs gl captured.toList).map fun b => .func fn a b else none
  | .makeMap t r => match P.underlying t with
    | some (.map _ _) => (cXo gl r).map .mkMap
    | _ => none
  | .makeSlice t l c => match P.underlying t with
    | some (.slice e) => (tSize P e).bind fun n => (tBytes P e).bind fun b => (tZero P e).bind fun z => (cX gl l).bind fun l => (cX gl c).bind fun c =>
      if 0 < n ∧ z.cells.length = n ∧ z.cells.all V.one then some (.mkSlice z.cells n b l c) else none
    | _ => none
  | .slice t x lo hi mx => (cX gl x).bind fun x => (cXo gl lo).bind fun lo => (cXo gl hi).bind fun hi => (cXo gl mx).bind fun mx =>
    match P.underlying t with
    | some .string => (match mx with | none => some (.sliceS x lo hi) | some _ => none)
    | some (.slice e) => (tSize P e).bind fun n => if (mx.isSome && hi.isNone) then none else some (.sliceL n x lo hi mx)
    | _ => none
  | .fieldAddr s x f => match P.underlying s with
    | some (.struct fs) => (fs[f]?).bind fun f => (tSize P f.type).bind fun n => if n = 0 then none else (cX gl x).map fun x => .fieldAddr f.offset x
    | _ => none
  | .field s x f => match P.underlying s with
    | some (.struct fs) => (fs[f]?).bind fun f => (tAgg P f.type).bind fun g => (tSize P f.type).bind fun n => (cX gl x).map fun x => .field g (if g then n else 1) f.offset x
    | _ => none
  | .indexAddr t x i => (cX gl x).bind fun x => (cX gl i).bind fun i => match P.underlying t with
    | some (.slice e) => (tSize P e).map fun n => .indexAddrS n x i
    | some (.array len e) => (tSize P e).map fun n => .indexAddrA n len x i
    | _ => none
  | .index t x i => (cX gl x).bind fun x => (cX gl i).bind fun i => match P.underlying t with
    | some .string => some (.indexStr x i)
    | some (.array len e) => (tAgg P e).bind fun g => (tSize P e).bind fun n => if g || n == 1 then some (.indexA g n len x i) else none
    | _ => none
  | .lookup t x k ok => match P.underlying t with
    | some (.map kt e) => (tKT P kt).bind fun kt => (tZero P e).bind fun z => (cX gl x).bind fun x => (cX gl k).map fun k => .lookup kt z ok x k
    | _ => none
  | .mapUpdate t m k v | .insert t m k v => match P.underlying t with
    | some (.map kt _) => (tKT P kt).bind fun kt => (cX gl m).bind fun m => (cX gl k).bind fun k => (cX gl v).map fun v => .mapSet kt m k v
    | _ => none
  | .range t x => (cX gl x).bind fun x => match P.underlying t with
    | some .string => some (.rangeS x)
    | some (.map _ _) => some (.rangeM x)
    | _ => none
  | .next it s => (cX gl it).map fun it => if s then .nextS it else .nextM it
  | .entry it => (cX gl it).map .entry
  | .typeAssert x _ t ok => match P.underlying t with
    | some (.interface _) | none => none
    | _ => (tZero P t).bind fun z => (cX gl x).map fun x => .assertC t z ok x
  | .extract x i => (cX gl x).map (.extract i ·)
  | .panic x => (cX gl x).map .panic
  | .defer c => (cXs gl c.args.toList).bind fun as => match c.callee with
    | .value f => (cX gl f).map fun f => .defer f as
    | _ => none
  | .call c => (cXs gl c.args.toList).bind fun as => match c.callee with
    | .value f => (cX gl f).map fun f => .call f as
    | .invoke _ _ => none
    | .builtin b => match b, as, c.argTypes.toList with
      | .len, [x], [t] => (match P.underlying t with
        | some .string => some (.lenStr x)
        | some (.slice _) => some (.lenSlice x)
        | some (.map _ _) => some (.lenMap x)
        | _ => none)
      | .append, [s, x], [t, u] => (match P.underlying t, P.underlying u with
        | some (.slice e), some (.slice _) | some (.slice e), some .string => (tSize P e).bind fun n => (tBytes P e).bind fun b => (tZero P e).bind fun z => if z.cells.length = n then some (.append n b s x) else none
        | _, _ => none)
      | .copy, [d, s], [t, _] => (match P.underlying t with
        | some (.slice e) => (tSize P e).map fun n => .copy n d s
        | _ => none)
      | .delete, [m, k], [t, _] => (match P.underlying t with
        | some (.map kt _) => (tKT P kt).map fun kt => .delete kt m k
        | _ => none)
      | .max, [x, y], _ => some (.minmax true x y)
      | .min, [x, y], _ => some (.minmax false x y)
      | .recover, [], _ => some .recover
      | _, _, _ => none
  | _ => none

/-- An operation that is not compiled is one at which a run stands still. -/
def cOper (ops : Array Oper) (o : Oper) : Option O :=
  match o.guard with
  | none => some ⟨o.dst, (cOp P gl o.op).getD .bad, none⟩
  | some (j, w) => ((ops[j]?).bind (·.dst)).map fun t => ⟨o.dst, (cOp P gl o.op).getD .bad, some (t, w)⟩

/-! What an operation looks at, and whether it reads, makes or writes objects. -/

def X.tmps : X → List Nat
  | .tmp t => [t]
  | .const _ => []
def xsTmps (l : List X) : List Nat := l.flatMap X.tmps
def xoTmps : Option X → List Nat
  | none => []
  | some x => x.tmps

def I.tmps : I → List Nat
  | .mov x | .box x | .nilCheck x | .un _ x | .convI _ x | .convId x | .bytesOf x | .strOf x | .iface _ x | .fieldAddr _ x | .field _ _ _ x | .rangeM x | .rangeS x | .nextS x | .nextM x
  | .entry x | .assertC _ _ _ x | .extract _ x | .lenStr x | .lenSlice x | .lenMap x | .panic x | .load _ _ x | .runeS x => x.tmps
  | .new _ | .recover | .bad => []
  | .pick c a b => c.tmps ++ a.tmps ++ b.tmps
  | .build _ ps | .buildSlice _ _ _ ps => xsTmps (ps.map (·.2.2))
  | .store _ a b | .bin _ a b | .eq _ _ a b | .mkSlice _ _ _ a b | .indexAddrS _ a b | .indexAddrA _ _ a b | .indexA _ _ _ a b | .indexStr a b | .lookup _ _ _ a b | .append _ _ a b | .copy _ a b
  | .delete _ a b | .minmax _ a b => a.tmps ++ b.tmps
  | .mapSet _ a b c => a.tmps ++ b.tmps ++ c.tmps
  | .func _ a b => xsTmps a ++ xsTmps b
  | .mkMap h => xoTmps h
  | .sliceS x lo hi => x.tmps ++ xoTmps lo ++ xoTmps hi
  | .sliceL _ x lo hi mx => x.tmps ++ xoTmps lo ++ xoTmps hi ++ xoTmps mx
  | .call f as | .defer f as => f.tmps ++ xsTmps as

inductive Cls where
  | pure | read | make | write
  deriving DecidableEq

def I.cls : I → Cls
  | .load .. | .lookup .. | .lenMap _ | .strOf _ | .entry _ | .call .. | .sliceL .. => .read
  | .new _ | .box _ | .buildSlice .. | .bytesOf _ | .mkMap _ | .mkSlice .. | .rangeS _ => .make
  | .store .. | .mapSet .. | .nextS _ | .nextM _ | .append .. | .copy .. | .delete .. | .rangeM _ | .recover | .defer .. | .panic _ => .write
  | _ => .pure

def O.looks (o : O) : List Nat := o.i.tmps ++ (match o.guard with | some (t, _) => [t] | none => [])

def hits (d : Option Nat) (l : List Nat) : Bool := match d with | some d => l.contains d | none => false

/-- May two operations not change places? -/
def conflict (x y : O) : Bool :=
  hits x.dst y.looks || hits y.dst x.looks || (match x.dst, y.dst with | some a, some b => a == b | _, _ => false) ||
  (x.i.cls == .write && y.i.cls != .pure) || (x.i.cls != .pure && y.i.cls == .write)

/-- Of each operation those that come ahead of it in every order. -/
def befs : List Oper → List (List Nat) → Option (List (List Nat))
  | [], acc => some acc
  | o :: l, acc =>
    let on := (o.after.toList.filter fun e => Region.binds .any e).map (·.on)
    if on.all (fun i => Nat.blt i acc.length) then befs l (acc ++ [(on ++ on.flatMap fun i => acc.getD i []).eraseDups]) else none

/-- All that may not change places come in the text's order always. -/
def ordered : Nat → List (O × List Nat) → List O → Bool
  | _, [], _ => true
  | n, (o, bef) :: l, before => ((List.range n).all fun i => match before[i]? with | some p => !conflict p o || bef.contains i | none => false) && ordered (n + 1) l (before ++ [o])

/-- Each comes behind all that stand ahead of it. -/
def chained : Nat → List (O × List Nat) → Bool
  | _, [] => true
  | i, (_, bef) :: l => (List.range i).all (fun x => bef.contains x) && chained (i + 1) l

def cutAt (z : List (O × List Nat)) : Nat := ((List.range z.length).find? fun k => chained k (z.drop k)).getD z.length

def C.findL : C → Nat → Option C
  | .seq a b, l => match a.findL l with
    | some rest => some (.seq rest b)
    | none => b.findL l
  | .label l', l => if l' == l then some .skip else none
  | _, _ => none

/-- The first label of a scope's text. -/
def C.labels : C → List Nat
  | .seq a b => a.labels ++ b.labels
  | .label l => [l]
  | _ => []

def isDefer : Op → Bool
  | .defer _ => true
  | _ => false

/-- Code without a scope, without a loop over a function, and that puts nothing off. -/
def scopeFree : Code → Bool
  | .scope _ | .rangeFunc .. => false
  | .region _ ops _ => ops.toList.all fun o => !isDefer o.op
  | .seq a b => scopeFree a && scopeFree b
  | .cond _ a b => scopeFree a && scopeFree b
  | .block _ c => scopeFree c
  | .loop c => scopeFree c
  | _ => true

def cCode : Code → Option C
  | .skip => some .skip
  | .region _ ops false => (ops.toList.mapM (cOper P gl ops)).map .ops
  | .region _ ops true => (ops.toList.mapM (cOper P gl ops)).bind fun l => (befs ops.toList []).bind fun bs =>
    let z := l.zip bs
    let k := cutAt z
    if Nat.ble k z.length && ordered 0 (z.take k) [] && chained k (z.drop k) && z.length == ops.size then some (.drawn (z.take k) ((z.drop k).map (·.1))) else none
  | .seq a b => (cCode a).bind fun a => (cCode b).map fun b => .seq a b
  | .cond c a b => (cX gl c).bind fun c => (cCode a).bind fun a => (cCode b).map fun b => .cond c a b
  | .block id c => (cCode c).map (.block id ·)
  | .loop c => (cCode c).map .loop
  | .exit id => some (.exit id)
  | .ret => some .ret
  | .label l => some (.label l)
  | .goto l => some (.goto l)
  | .scope c => (cCode c).bind fun c => match c.labels with
    | [l] => (c.findL l).map fun rest => .scope c l rest
    | _ => none
  | .rangeFunc g ps a b => if scopeFree a && scopeFree b then (cX gl g).bind fun g => (cCode a).bind fun a => (cCode b).map fun b => .rangeF g ps.toList a b else none
  | .refuse _ => none

def cRes : ResultVar → Option RV
  | .tmp t => some (.tmp t)
  | .cell t ty => (tAgg P ty).bind fun g => (tSize P ty).map fun n => .cell t g (if g then n else 1)

/-- Slots that code writes. -/
def C.dsts : C → List Nat
  | .ops l => l.filterMap (·.dst)
  | .drawn l t => l.filterMap (·.1.dst) ++ t.filterMap (·.dst)
  | .seq a b | .cond _ a b => a.dsts ++ b.dsts
  | .block _ c | .loop c => c.dsts
  | .scope c _ rest => c.dsts ++ rest.dsts
  | .rangeF _ ps a b => ps ++ (a.dsts ++ b.dsts)
  | _ => []

def cFunc (fn : Func) : Option AFn :=
  fn.body.bind fun b => (cCode P gl b).bind fun c => (fn.results.toList.mapM (cRes P)).bind fun rs =>
    let np := fn.params.size + fn.nfree
    if np ≤ fn.ntmps ∧ c.dsts.all (fun d => Nat.blt d fn.ntmps) then some ⟨np, c, rs⟩ else none

end
end Go.Abs
