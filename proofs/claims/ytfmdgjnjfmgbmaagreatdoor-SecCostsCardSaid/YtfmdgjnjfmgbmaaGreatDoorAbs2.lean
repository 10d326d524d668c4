/-
  ABS, part 2: compiled code and how it runs, by continuations: an answer is a proposition or a truth value; a step over a map asks for every choice.
-/
import Derived.Test.YtfmdgjnjfmgbmaaGreatDoorAbs1
namespace Go.Abs
open Go

/-- What a run answers: no (stuck), or all of some answers. -/
class Ans (Ω : Type) where
  ff : Ω
  all : List Ω → Ω

instance : Ans Prop := ⟨False, fun l => ∀ p ∈ l, p⟩
instance : Ans Bool := ⟨false, fun l => l.all id⟩

structure O where
  dst : Option Nat
  i : I
  guard : Option (Nat × Bool)
  deriving Inhabited

inductive C where
  | skip
  | ops (l : List O)
  /-- A region whose order is open; and those of its operations that come behind all others, one by one. -/
  | drawn (l : List (O × List Nat)) (tail : List O)
  | seq (a b : C)
  | cond (c : X) (a b : C)
  | block (id : Nat) (c : C)
  | loop (c : C)
  | exit (id : Nat)
  | ret
  | label (l : Nat)
  | goto (l : Nat)
  | scope (c : C) (l : Nat) (rest : C)
  | rangeF (x : X) (ps : List Nat) (assign body : C)
  deriving Inhabited

inductive RV where
  | tmp (t : Nat)
  | cell (t : Nat) (agg : Bool) (n : Nat)
  deriving Inhabited

structure AFn where
  np : Nat
  body : C
  results : List RV
  deriving Inhabited

structure Ctx where
  fn : FuncId → Option AFn
  sum : FuncId → Option (List V → Option V)
  /-- The model's own entry that copies a map. -/
  clone : FuncId → Bool := fun _ => false

/-- What an activation puts off: a loop's mark; a call. -/
inductive Dfr where
  | mark (d : Nat)
  | call (f : FuncId) (args : List V)

structure FSt where
  env : Env
  h : Heap
  nid : Nat
  dfr : List Dfr

inductive Ex where
  | normal
  | exit (id : Nat)
  | goto (l : Nat)
  | ret
  | panic (chain : List V)

inductive End where
  | returned (v : V)
  | panicked (chain : List V)

def putDst (e : Env) (d : Option Nat) (v : V) : Env := match d with | some d => e.set d v | none => e

def wanted (e : Env) : Option (Nat × Bool) → Bool
  | none => true
  | some (t, w) => match e.at t with | .bool b => b == w | _ => false

/-- A function value's function and what it is handed. -/
def resolve (f : V) (args : List V) : Option (FuncId × List V) :=
  match f with
  | .func (.func f) first captured => some (f, first ++ args ++ captured)
  | _ => none

/-- A loop's own function. -/
def yielder (f : V) : Option Nat :=
  match f with
  | .func (.yield b) [] [] => some b
  | _ => none

/-- A round of a loop over a function: on what it yields, in a heap; what comes then. -/
abbrev Yld (Ω : Type) := Nat → List V → Heap → Nat → (End → Heap → Nat → Ω) → Ω

def noYld {Ω : Type} [Ans Ω] : Yld Ω := fun _ _ _ _ _ => Ans.ff

def isLoop : Option AObj → Bool → Bool
  | some (.loop b), c => b == c
  | _, _ => false

def isShut : Option AObj → Bool
  | some .shut => true
  | _ => false

def putArgs (ps : List Nat) (vs : List V) (e : Env) : Env := (ps.zip vs).foldl (fun e p => e.set p.1 p.2) e

/-- A text that takes up a panic at its very beginning: the slot; what comes then. -/
def recHead : C → Option (Option Nat × C)
  | .ops [⟨d, .recover, none⟩] => some (d, .skip)
  | .seq a b => (recHead a).map fun p => (p.1, .seq p.2 b)
  | _ => none

/-- What a call that was put off finds: no panic, or one. -/
def recovered : Option (List V) → Option V
  | none => some .nilIface
  | some (v :: _) => some v
  | some [] => none

mutual
/-- A value with all that it leads to, inline. -/
def reify (g : View) : Nat → V → Option V
  | 0, _ => none
  | d + 1, v =>
    match v with
    | .ptr b off => match g b with | some (.cells cs _ _ _) => (reifyL g d cs).map (.rptr · off) | _ => none
    | .slice b off len _ => match g b with | some (.cells cs _ _ _) => (reifyL g d cs).map (.rslice · off len none) | _ => none
    | .map b => match g b with
      | some (.map es _ _) => (reifyL g d (es.map (·.1))).bind fun ks => (reifyL g d (es.map (·.2.1))).map fun vs => .rmap ks vs
      | _ => none
    | .func fn first captured => if plainFn fn then (reifyL g d first).bind fun a => (reifyL g d captured).map fun b => .func fn a b else none
    | .iface t v => (reify g d v).map (.iface t ·)
    | .agg cs => (reifyL g d cs).map .agg
    | .tuple cs => (reifyL g d cs).map .tuple
    | v => some v
def reifyL (g : View) : Nat → List V → Option (List V)
  | 0, _ => none
  | _ + 1, [] => some []
  | d + 1, v :: vs => (reify g d v).bind fun v => (reifyL g d vs).map (v :: ·)
end

mutual
/-- The objects that a value leads to. -/
def touched (g : View) : Nat → V → List Nat
  | 0, _ => []
  | d + 1, v =>
    match v with
    | .ptr b _ | .slice b _ _ _ => match g b with | some (.cells cs _ _ _) => b :: touchedL g d cs | _ => []
    | .map b => match g b with
      | some (.map es _ _) => b :: (touchedL g d (es.map (·.1)) ++ touchedL g d (es.map (·.2.1)))
      | _ => []
    | .func _ first captured => touchedL g d first ++ touchedL g d captured
    | .iface _ v => touched g d v
    | .agg cs | .tuple cs => touchedL g d cs
    | _ => []
def touchedL (g : View) : Nat → List V → List Nat
  | 0, _ => []
  | _ + 1, [] => []
  | d + 1, v :: vs => touched g d v ++ touchedL g d vs
end

/-- How deep values are gone into. -/
def deep : Nat := 1000000

def AObj.freeze : AObj → AObj
  | .cells cs esz _ spent => .cells cs esz cs.length spent
  | .map es clock _ => .map es clock true
  | o => o

def freezeAll (h : Heap) : List Nat → Heap
  | [] => h
  | b :: l => freezeAll (match h.get b with | some o => h.set b o.freeze | none => h) l

def immL (vs : List V) : Bool := V.imm.imms vs

/-- A call that is told by a function on values, and that leaves the heap alone. -/
def callSum (g : View) (F : List V → Option V) (args : List V) : Option V :=
  (reifyL g deep args).bind fun as => (F as).bind fun r => if r.flat || immL args then some r else none

/-- The same where what is answered may share memory with what was handed in: that stays as it is from here on. -/
def callSumF (h : Heap) (F : List V → Option V) (args : List V) : Option (V × Heap) :=
  (reifyL h.get deep args).bind fun as => (F as).map fun r => if r.flat || immL args then (r, h) else (r, freezeAll h (touchedL h.get deep args))

section
variable {Ω : Type} [Ans Ω] (cx : Ctx)

/-- A step over a map: what may come next. -/
def nextM (h : Heap) (it : V) : Option (List (V × Option (Nat × AObj))) :=
  match it with
  | .ptr b 0 => match h.get b with
    | some (.mapIter none _ _ _) => some [(.tuple [.bool false], none)]
    | some (.mapIter (some m) since seen last) => match h.get m with
      | some (.map es clock _) =>
        if !seen.isEmpty && !es.isEmpty && es.all (fun e => Nat.ble last e.2.2) then none else
        let left := es.filter fun e => !seen.contains e.2.2
        let old := left.filter fun e => Nat.blt e.2.2 since
        let new := left.filter fun e => !Nat.blt e.2.2 since
        let some' := (old ++ new).map fun e => (V.tuple [.bool true, e.1, e.2.1], some (b, AObj.mapIter (some m) since (seen ++ [e.2.2]) clock))
        some (if old.isEmpty then (V.tuple [.bool false], none) :: some' else some')
      | _ => none
    | some (.rmapIter ks vs seen) =>
      if ks.length = vs.length then
        let left := (List.range ks.length).filter fun i => !seen.contains i
        if left.isEmpty then some [(.tuple [.bool false], none)]
        else some (left.map fun i => (V.tuple [.bool true, ks.getD i V.undef, vs.getD i V.undef], some (b, AObj.rmapIter ks vs (seen ++ [i]))))
      else none
    | _ => none
  | _ => none

/-- Operations one by one. -/
def evOps (call : FuncId → List V → Heap → Nat → (End → Heap → Nat → Ω) → Ω) (yld : Yld Ω) : List O → FSt → (Ex → FSt → Ω) → Ω
  | [], st, K => K .normal st
  | o :: l, st, K =>
    if wanted st.env o.guard then
      match o.i with
      | .call f args => match resolve (f.val st.env) (args.map (X.val st.env)) with
        | some (f, args) => call f args st.h (st.nid + 1) fun e h nid => match e with
          | .returned v => evOps call yld l { st with env := putDst st.env o.dst v, h, nid } K
          | .panicked ch => K (.panic ch) { st with h, nid }
        | none => match yielder (f.val st.env) with
          | some b => yld b (args.map (X.val st.env)) st.h (st.nid + 1) fun e h nid => match e with
            | .returned v => evOps call yld l { st with env := putDst st.env o.dst v, h, nid } K
            | .panicked ch => K (.panic ch) { st with h, nid }
          | none => Ans.ff
      | .panic x => match x.val st.env with
        | .iface t v => K (.panic [.iface t v]) { st with nid := st.nid + 1 }
        | _ => Ans.ff
      | .defer f args => match resolve (f.val st.env) (args.map (X.val st.env)) with
        | some (f, args) => evOps call yld l { st with env := putDst st.env o.dst V.undef, nid := st.nid + 1, dfr := .call f args :: st.dfr } K
        | none => Ans.ff
      | .recover => Ans.ff
      | .nextM it => match nextM st.h (it.val st.env) with
        | some cs => Ans.all (cs.map fun c => evOps call yld l { st with env := putDst st.env o.dst c.1, nid := st.nid + 1, h := match c.2 with | some (b, obj) => st.h.set b obj | none => st.h } K)
        | none => Ans.ff
      | i => match evI st.h.get st.nid st.env i with
        | some eff => evOps call yld l { st with env := putDst st.env o.dst eff.val, h := eff.heap st.nid st.h, nid := st.nid + 1 } K
        | none => Ans.ff
    else evOps call yld l { st with env := putDst st.env o.dst V.undef, nid := st.nid + 1 } K

/-- What an operation of a region whose order is open sees: nothing that another operation of the region makes, but those that come ahead of it in every order. -/
def seen (h : Heap) (nid n : Nat) (bef : List Nat) : View := fun b => if nid ≤ b && Nat.blt b (nid + n) && !bef.contains (b - nid) then none else h.get b

/-- One operation of a region whose order is open: deterministic, by fixed numbers. -/
def actOp (nid n i : Nat) (o : O) (bef : List Nat) (s : Env × Heap) : Option (Env × Heap) :=
  let e := s.1
  let h := s.2
  if wanted e o.guard then
    match o.i with
    | .call f args => match resolve (f.val e) (args.map (X.val e)) with
      | some (f, args) => match cx.sum f with
        | some F => (callSum (seen h nid n bef) F args).map fun v => (putDst e o.dst v, h)
        | none => none
      | none => none
    | .panic _ | .defer _ _ | .recover | .nextM _ => none
    | op => (evI (seen h nid n bef) (nid + i) e op).map fun eff => (putDst e o.dst eff.val, eff.heap (nid + i) h)
  else some (putDst e o.dst V.undef, h)

def actAll (nid n : Nat) : Nat → List (O × List Nat) → Env × Heap → Option (Env × Heap)
  | _, [], s => some s
  | i, (o, bef) :: l, s => (actOp cx nid n i o bef s).bind (actAll nid n (i + 1) l)

/-- Operations in an order that is told by their numbers. -/
def actIdx (nid n : Nat) (z : List (O × List Nat)) : List Nat → Env × Heap → Option (Env × Heap)
  | [], s => some s
  | i :: l, s => match z[i]? with
    | some (o, bef) => (actOp cx nid n i o bef s).bind (actIdx nid n z l)
    | none => none

/-! A region whose order is open, and that holds calls which are not told by values: what is bound to come ahead of a call is done, the call is made, and what is not bound to it must come to the same ahead of it and behind it. -/
def befOf (z : List (O × List Nat)) (i : Nat) : List Nat := match z[i]? with
  | some p => p.2
  | none => []

def I.isCall : I → Bool
  | .call _ _ => true
  | _ => false

/-- What may be done ahead of a call or behind it. -/
def I.calm : I → Bool
  | .load .. | .mov _ | .fieldAddr .. | .nilCheck _ | .bin .. | .lenSlice _ | .lenStr _ | .extract .. | .field .. | .indexAddrS .. => true
  | _ => false

def callAt (z : List (O × List Nat)) (i : Nat) : Bool := match z[i]? with
  | some p => p.1.i.isCall
  | none => false

def calmAt (z : List (O × List Nat)) (i : Nat) : Bool := match z[i]? with
  | some p => p.1.i.calm
  | none => false

def dstOf (z : List (O × List Nat)) (i : Nat) : Option Nat := match z[i]? with
  | some p => p.1.dst
  | none => none

def distinct : List Nat → Bool
  | [] => true
  | a :: l => !l.contains a && distinct l

mutual
/-- Are two values the same, name by name? -/
def V.eqA : V → V → Bool
  | .bool a, .bool b => a == b
  | .int k a, .int l b => decide (k = l) && decide (a = b)
  | .str a, .str b => a == b
  | .sym a, .sym b => decide (a = b)
  | .sstr a, .sstr b => a == b
  | .nilPtr, .nilPtr => true
  | .ptr a i, .ptr b j => Nat.beq a b && Nat.beq i j
  | .nilSlice, .nilSlice => true
  | .slice a o l c, .slice b p m d => Nat.beq a b && Nat.beq o p && Nat.beq l m && decide (c = d)
  | .nilMap, .nilMap => true
  | .map a, .map b => Nat.beq a b
  | .nilFunc, .nilFunc => true
  | .nilIface, .nilIface => true
  | .func (.func f) a b, .func (.func g) c d => Nat.beq f g && V.eqAs a c && V.eqAs b d
  | .agg a, .agg b => V.eqAs a b
  | .tuple a, .tuple b => V.eqAs a b
  | .iface t a, .iface u b => decide (t = u) && V.eqA a b
  | .rslice a o l c, .rslice b p m d => V.eqAs a b && decide (o = p) && decide (l = m) && decide (c = d)
  | _, _ => false
def V.eqAs : List V → List V → Bool
  | [], [] => true
  | a :: as, b :: bs => V.eqA a b && V.eqAs as bs
  | _, _ => false
end

def sameAt (z : List (O × List Nat)) (U : List Nat) (e f : Env) : Bool := U.all fun u => match dstOf z u with
  | some d => V.eqA (e.at d) (f.at d)
  | none => true

def callOp (call : FuncId → List V → Heap → Nat → (End → Heap → Nat → Ω) → Ω) (n : Nat) (o : O) (st : FSt) (k : FSt → Ω) (K : Ex → FSt → Ω) : Ω :=
  if wanted st.env o.guard then
    match o.i with
    | .call f args => match resolve (f.val st.env) (args.map (X.val st.env)) with
      | some (f, args) => call f args st.h (st.nid + n) fun e h nid => match e with
        | .returned v => k { st with env := putDst st.env o.dst v, h, nid }
        | .panicked ch => K (.panic ch) { st with h, nid }
      | none => Ans.ff
    | _ => Ans.ff
  else k { st with env := putDst st.env o.dst V.undef }

/-- E: what else comes ahead of the call; G: what is left for behind it. -/
def aheadC (z : List (O × List Nat)) (c : Nat) (E : List Nat) (i : Nat) : Bool := (befOf z c).contains i || E.contains i
def leftC (z : List (O × List Nat)) (c : Nat) (E : List Nat) (i : Nat) : Bool := !Nat.beq i c && !aheadC z c E i
def freeC (z : List (O × List Nat)) (c : Nat) (E G : List Nat) (i : Nat) : Bool := leftC z c E i && !(befOf z i).contains c && !G.contains i && !(befOf z i).any fun x => G.contains x

/-- What is free of the call and may not be done twice comes ahead of it, or behind it: both are gone through. -/
def optsC (z : List (O × List Nat)) (c : Nat) (R : List Nat) : List (List Nat × List Nat) := match R.filter fun i => freeC z c [] [] i && !calmAt z i with
  | [] => [([], [])]
  | [u] => if callAt z u then [] else [([], [u]), (u :: befOf z u, [])]
  | _ => []

def walkOne (call : FuncId → List V → Heap → Nat → (End → Heap → Nat → Ω) → Ω) (z : List (O × List Nat)) (n : Nat) (K : Ex → FSt → Ω) (rc : List Nat → FSt → Ω) (R : List Nat) (st : FSt) (c : Nat) (o : List Nat × List Nat) : Ω :=
  if (R.filter (aheadC z c o.1)).all (fun i => !callAt z i) && (R.filter (freeC z c o.1 o.2)).all (calmAt z) && distinct ((R.filter (freeC z c o.1 o.2)).filterMap (dstOf z)) then
    match z[c]?, actIdx cx st.nid n z (R.filter (aheadC z c o.1)) (st.env, st.h) with
    | some p, some sA => match actIdx cx st.nid n z (R.filter (freeC z c o.1 o.2)) sA with
      | some sB => callOp call n p.1 { st with env := sA.1, h := sA.2 }
        (fun st1 => match actIdx cx st1.nid n z (R.filter (freeC z c o.1 o.2)) (st1.env, st1.h) with
          | some sF => if sameAt z (R.filter (freeC z c o.1 o.2)) sB.1 sF.1 then rc (R.filter (leftC z c o.1)) st1 else Ans.ff
          | none => Ans.ff)
        (fun x s => if (R.filter (freeC z c o.1 o.2)).isEmpty then K x s else Ans.ff)
      | none => Ans.ff
    | _, _ => Ans.ff
  else Ans.ff

def walk (call : FuncId → List V → Heap → Nat → (End → Heap → Nat → Ω) → Ω) (z : List (O × List Nat)) (n : Nat) (K : Ex → FSt → Ω) : Nat → List Nat → FSt → Ω
  | 0, _, _ => Ans.ff
  | fuel + 1, R, st => match R.find? (callAt z) with
    | none => match actIdx cx st.nid n z R (st.env, st.h) with
      | some s => K .normal { st with env := s.1, h := s.2, nid := st.nid + n }
      | none => Ans.ff
    | some c => if (optsC z c R).isEmpty then Ans.ff else Ans.all ((optsC z c R).map (walkOne cx call z n K (walk call z n K fuel) R st c))

/-- Passes from a label on. -/
def passes (l : Nat) (rest : FSt → (Ex → FSt → Ω) → Ω) : Nat → FSt → (Ex → FSt → Ω) → Ω
  | 0, _, _ => Ans.ff
  | m + 1, st, K => rest st fun x st => match x with | .goto l' => if l' = l then passes l rest m st K else Ans.ff | x => K x st

/-- Rounds of a loop. -/
def iter (body : FSt → (Ex → FSt → Ω) → Ω) : Nat → FSt → (Ex → FSt → Ω) → Ω
  | 0, _, _ => Ans.ff
  | m + 1, st, K => body st fun x st => match x with | .normal => iter body m st K | x => K x st

/-- Rounds of a loop over a function: the slots as they stood when the loop was entered; what is yielded, assigned; the text. -/
def rounds (ra rb : FSt → (Ex → FSt → Ω) → Ω) (b : Nat) (ps : List Nat) (env : Env) (yld : Yld Ω) : Yld Ω := fun l vs h nid K =>
  if l = b then
    if isLoop (h.get b) false && vs.length == ps.length then
      ra { env := putArgs ps vs env, h, nid, dfr := [] } fun x s => match x with
        | .normal => if isLoop (s.h.get b) false then
            rb { s with h := s.h.set b (.loop true) } fun x s => match x with
              | .normal => if isLoop (s.h.get b) true then K (.returned (.bool true)) (s.h.set b (.loop false)) s.nid else Ans.ff
              | _ => Ans.ff
          else Ans.ff
        | _ => Ans.ff
    else Ans.ff
  else yld l vs h nid K

def evC (call : Yld Ω → FuncId → List V → Heap → Nat → (End → Heap → Nat → Ω) → Ω) (yld : Yld Ω) (m : Nat) : C → FSt → (Ex → FSt → Ω) → Ω
  | .skip, st, K => K .normal st
  | .ops l, st, K => evOps (call yld) yld l st K
  | .drawn l t, st, K => match actAll cx st.nid l.length 0 l (st.env, st.h) with
    | some (env, h) => evOps (call yld) yld t { st with env, h, nid := st.nid + l.length } K
    | none => walk cx (call yld) l l.length (fun x s => match x with | .normal => evOps (call yld) yld t s K | x => K x s) (l.length + 1) (List.range l.length) st
  | .seq a b, st, K => evC call yld m a st fun x st => match x with | .normal => evC call yld m b st K | x => K x st
  | .cond c a b, st, K => match c.val st.env with
    | .bool true => evC call yld m a st K
    | .bool false => evC call yld m b st K
    | _ => Ans.ff
  | .block id c, st, K => evC call yld m c st fun x st => match x with | .exit j => if j = id then K .normal st else K (.exit j) st | x => K x st
  | .loop c, st, K => iter (fun st K => evC call yld m c st K) m st K
  | .exit id, st, K => K (.exit id) st
  | .ret, st, K => K .ret st
  | .label _, st, K => K .normal st
  | .goto l, st, K => K (.goto l) st
  | .scope c l rest, st, K => evC call yld m c st fun x st => match x with | .goto l' => if l' = l then passes l (fun st K => evC call yld m rest st K) m st K else Ans.ff | x => K x st
  | .rangeF x ps a b, st, K => match resolve (x.val st.env) [.func (.yield (st.nid + 1)) [] []] with
    | some (f, args) =>
      if (cx.fn f).isSome then
        call (rounds (fun st K => evC call yld m a st K) (fun st K => evC call yld m b st K) (st.nid + 1) ps st.env yld)
          f args ((st.h.set st.nid .shut).set (st.nid + 1) (.loop false)) (st.nid + 2) fun e h nid => match e with
            | .returned _ => if isLoop (h.get (st.nid + 1)) false then K .normal { st with h := h.put (st.nid + 1) none, nid, dfr := .mark st.nid :: st.dfr } else Ans.ff
            | .panicked _ => Ans.ff
      else Ans.ff
    | none => Ans.ff

def initEnv : Nat → List V → Env → Env
  | _, [], e => e
  | i, v :: vs, e => initEnv (i + 1) vs (e.set i v)

def readRes (e : Env) (h : Heap) : RV → Option V
  | .tmp t => some (e.at t)
  | .cell t agg n => (readAt h.get (e.at t) n).bind (ofCells agg)

def results (rs : List RV) (e : Env) (h : Heap) : Option V :=
  (rs.mapM (readRes e h)).map fun vs => match vs with | [v] => v | vs => .tuple vs

/-- Behind a call that was put off. -/
def afterDfr (fn : AFn) (k : Heap → Nat → Ω) : Ex → FSt → Ω := fun x st => match x with
  | .normal | .ret => match st.dfr with
    | [] => match results fn.results st.env st.h with
      | some _ => k st.h st.nid
      | none => Ans.ff
    | _ => Ans.ff
  | _ => Ans.ff

/-- An activation on its way out, in a panic or not: what it has put off. -/
def leave (run : C → FSt → (Ex → FSt → Ω) → Ω) : List Dfr → Option (List V) → Heap → Nat → (Option (List V) → Heap → Nat → Ω) → Ω
  | [], u, h, nid, K => K u h nid
  | .mark d :: l, u, h, nid, K => if isShut (h.get d) then leave run l u (h.put d none) nid K else Ans.ff
  | .call f args :: l, u, h, nid, K => match cx.fn f with
    | none => Ans.ff
    | some fn => match recHead fn.body with
      | some p => match recovered u with
        | some v => run p.2 { env := putDst (initEnv 0 args .leaf) p.1 v, h, nid, dfr := [] } (afterDfr fn fun h nid => leave run l none h nid K)
        | none => Ans.ff
      | none => run fn.body { env := initEnv 0 args .leaf, h, nid, dfr := [] } (afterDfr fn fun h nid => leave run l u h nid K)

/-- What an activation ends with. -/
def ends (fn : AFn) (e : Env) (K : End → Heap → Nat → Ω) : Option (List V) → Heap → Nat → Ω := fun u h nid => match u with
  | none => match results fn.results e h with
    | some v => K (.returned v) h nid
    | none => Ans.ff
  | some ch => K (.panicked ch) h nid

/-- The model's own entry that copies a map. -/
def cloneMap (args : List V) (h : Heap) (nid : Nat) (K : End → Heap → Nat → Ω) : Ω := match args with
  | [.iface t (.map b)] => match h.get b with
    | some (.map es clock _) => K (.returned (.iface t (.map nid))) (h.set nid (.map es clock false)) (nid + 1)
    | _ => Ans.ff
  | _ => Ans.ff

/-- A call: m rounds at most in each loop, n calls at most within each other. -/
def callF (m : Nat) : Nat → Yld Ω → FuncId → List V → Heap → Nat → (End → Heap → Nat → Ω) → Ω
  | 0, _, _, _, _, _, _ => Ans.ff
  | n + 1, yld, f, args, h, nid, K =>
    match cx.sum f with
    | some F => match callSumF h F args with
      | some (v, h) => K (.returned v) h nid
      | none => Ans.ff
    | none => if cx.clone f then cloneMap args h nid K else match cx.fn f with
      | some fn => evC cx (callF m n) yld m fn.body { env := initEnv 0 args .leaf, h, nid, dfr := [] } fun x st => match x with
        | .normal => leave cx (fun c st K => evC cx (callF m n) noYld m c st K) st.dfr none st.h st.nid (ends fn st.env K)
        | .ret => leave cx (fun c st K => evC cx (callF m n) noYld m c st K) st.dfr none st.h st.nid (ends fn st.env K)
        | .panic ch => leave cx (fun c st K => evC cx (callF m n) noYld m c st K) st.dfr (some ch) st.h st.nid (ends fn st.env K)
        | .exit _ | .goto _ => Ans.ff
      | none => Ans.ff

end

/-- A function's answer on values, told by a run on an empty heap: it is the value v, whatever comes next in a map. -/
def Tells (cx : Ctx) (f : FuncId) (args : List V) (v : V) : Prop :=
  ∃ m n, callF (Ω := Prop) cx m n noYld f args .leaf 0 fun e h _ => match e with
    | .returned r => reify h.get deep r = some v
    | _ => False

end Go.Abs
