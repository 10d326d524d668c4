/-
  Abs33, Abs34, Abs35, put together in one file.
-/
import Derived.Test.YtfmdgjnjfmgbmaaGreatDoorAbsGg
/-
  ABS, part 33: the evaluator once more, in a form that the kernel runs fast (plain recursors, closed arms); it answers as the first. Printed by fast.py.
-/
namespace Go.Abs
open Go
set_option linter.unusedVariables false
set_option linter.unusedSectionVars false
variable [Syms]
noncomputable section

def T.getR {α : Type} (t : T α) : Nat → Option α := T.rec (motive := fun _ => Nat → Option α) (fun _ => none) (fun v _ _ gl gr i => cond (Nat.beq i 0) v (cond (Nat.beq (Nat.mod i 2) 1) (gl (Nat.div i 2)) (gr (Nat.pred (Nat.div i 2))))) t

theorem T.getR_eq {α : Type} : ∀ (t : T α) (i : Nat), t.getR i = t.get i
  | .leaf, i => by rw [T.get_leaf]; rfl
  | .node v l r, i => by
    have e1 := T.getR_eq l (i / 2)
    have e2 := T.getR_eq r (i / 2 - 1)
    show cond (Nat.beq i 0) v (cond (Nat.beq (i % 2) 1) (l.getR (i / 2)) (r.getR (i / 2 - 1))) = _
    rw [e1, e2]
    simp only [T.get]
    cases h0 : Nat.beq i 0 with
    | true => rw [if_pos (Nat.eq_of_beq_eq_true h0)]; rfl
    | false =>
      rw [if_neg (Nat.ne_of_beq_eq_false h0)]
      cases h1 : Nat.beq (i % 2) 1 with
      | true => rw [if_pos (Nat.eq_of_beq_eq_true h1)]; rfl
      | false => rw [if_neg (Nat.ne_of_beq_eq_false h1)]; rfl

theorem getR_fun {α : Type} (t : T α) : t.getR = t.get := funext fun i => T.getR_eq t i

def T.growR {α : Type} (v : Option α) (n : Nat) : Nat → T α := Nat.rec (motive := fun _ => Nat → T α) (fun _ => .leaf)
  (fun _ ih i => cond (Nat.beq i 0) (.node v .leaf .leaf) (cond (Nat.beq (Nat.mod i 2) 1) (.node none (ih (Nat.div i 2)) .leaf) (.node none .leaf (ih (Nat.pred (Nat.div i 2)))))) n

theorem T.growR_eq {α : Type} (v : Option α) : ∀ (n i : Nat), T.growR v n i = T.setN v n .leaf i
  | 0, i => rfl
  | n + 1, i => by
    have e1 := T.growR_eq v n (i / 2)
    have e2 := T.growR_eq v n (i / 2 - 1)
    show cond (Nat.beq i 0) (T.node v T.leaf T.leaf) (cond (Nat.beq (i % 2) 1) (T.node none (T.growR v n (i / 2)) T.leaf) (T.node none T.leaf (T.growR v n (i / 2 - 1)))) = _
    rw [e1, e2]
    simp only [T.setN]
    cases h0 : Nat.beq i 0 with
    | true => rw [if_pos (Nat.eq_of_beq_eq_true h0)]; rfl
    | false =>
      rw [if_neg (Nat.ne_of_beq_eq_false h0)]
      cases h1 : Nat.beq (i % 2) 1 with
      | true => rw [if_pos (Nat.eq_of_beq_eq_true h1)]; rfl
      | false => rw [if_neg (Nat.ne_of_beq_eq_false h1)]; rfl

def T.putR {α : Type} (t : T α) (i : Nat) (v : Option α) : T α := T.rec (motive := fun _ => Nat → T α) (fun i => T.growR v (Nat.succ i) i)
  (fun u l r sl sr i => cond (Nat.beq i 0) (.node v l r) (cond (Nat.beq (Nat.mod i 2) 1) (.node u (sl (Nat.div i 2)) r) (.node u l (sr (Nat.pred (Nat.div i 2)))))) t i

theorem T.putR_set {α : Type} (v : Option α) : ∀ (t : T α) (n i : Nat), i < n → t.putR i v = T.setN v n t i
  | .leaf, n, i, h => by
    show T.growR v (i + 1) i = _
    rw [T.growR_eq]
    have key : ∀ (a b i : Nat), i < a → i < b → T.setN v a .leaf i = T.setN v b .leaf i := by
      intro a
      induction a with
      | zero => intro b i h; omega
      | succ a ih =>
        intro b i ha hb
        cases b with
        | zero => omega
        | succ b =>
          simp only [T.setN]
          by_cases h0 : i = 0
          · simp [h0]
          · simp only [if_neg h0]
            rw [ih b (i / 2) (by omega) (by omega), ih b (i / 2 - 1) (by omega) (by omega)]
    exact key _ _ _ (by omega) h
  | .node u l r, n, i, h => by
    cases n with
    | zero => omega
    | succ n =>
      show cond (Nat.beq i 0) (T.node v l r) (cond (Nat.beq (i % 2) 1) (T.node u (l.putR (i / 2) v) r) (T.node u l (r.putR (i / 2 - 1) v))) = _
      simp only [T.setN]
      cases h0 : Nat.beq i 0 with
      | true => rw [if_pos (Nat.eq_of_beq_eq_true h0)]; rfl
      | false =>
        have hi := Nat.ne_of_beq_eq_false h0
        rw [if_neg hi, T.putR_set v l n (i / 2) (by omega), T.putR_set v r n (i / 2 - 1) (by omega)]
        cases h1 : Nat.beq (i % 2) 1 with
        | true => rw [if_pos (Nat.eq_of_beq_eq_true h1)]; rfl
        | false => rw [if_neg (Nat.ne_of_beq_eq_false h1)]; rfl

theorem T.putR_eq {α : Type} (t : T α) (i : Nat) (v : Option α) : t.putR i v = t.put i v := T.putR_set v t _ i (by omega)

def X.valR (x : X) (e : Env) : V := X.rec (fun t => Option.rec V.undef (fun v => v) (T.getR e t)) (fun v => v) x
theorem valR_eq (x : X) (e : Env) : x.valR e = x.val e := by
  cases x with
  | const v => rfl
  | tmp t =>
    show Option.rec V.undef (fun v => v) (T.getR e t) = Env.at e t
    rw [T.getR_eq, Env.at]
    cases T.get e t <;> rfl
theorem valR_fun : X.valR = fun x e => x.val e := funext fun x => funext fun e => valR_eq x e

def Eff.heapR (e : Eff) (id : Nat) (h : Heap) : Heap :=
  Option.rec (Option.rec h (fun p => T.putR h p.1 p.2) e.upd) (fun o => T.putR (Option.rec h (fun p => T.putR h p.1 p.2) e.upd) id (some o)) e.new
theorem heapR_eq (e : Eff) (id : Nat) (h : Heap) : e.heapR id h = e.heap id h := by
  obtain ⟨u, n, v⟩ := e
  cases u <;> cases n <;> simp only [Eff.heapR, Eff.heap, T.putR_eq] <;> rfl

def putDstR (e : Env) (d : Option Nat) (v : V) : Env := Option.rec e (fun d => T.putR e d (some v)) d
theorem putDstR_eq (e : Env) (d : Option Nat) (v : V) : putDstR e d v = putDst e d v := by
  cases d with
  | none => rfl
  | some d => exact T.putR_eq e d _

def IntKind.num (k : IntKind) : Nat := IntKind.rec (motive := fun _ => Nat) 0 1 2 3 4 5 6 7 k
theorem num_inj : ∀ (k l : IntKind), Nat.beq (IntKind.num k) (IntKind.num l) = true → k = l := by
  intro k l h
  cases k <;> cases l <;> first | rfl | cases h
def IntKind.half (k : IntKind) : Nat := IntKind.rec (motive := fun _ => Nat) 128 32768 2147483648 9223372036854775808 256 65536 4294967296 18446744073709551616 k
def wrapR (k : IntKind) (n : Int) : Int := Int.rec (motive := fun _ => Int) (fun a => cond (Nat.blt a (IntKind.half k)) (.ofNat a) (k.wrap (.ofNat a))) (fun a => k.wrap (.negSucc a)) n
theorem wrapR_eq (k : IntKind) (n : Int) : wrapR k n = k.wrap n := by
  cases n with
  | negSucc a => rfl
  | ofNat a =>
    show cond (Nat.blt a (IntKind.half k)) (Int.ofNat a) (k.wrap (.ofNat a)) = _
    cases h : Nat.blt a (IntKind.half k) with
    | false => rfl
    | true =>
      have h' : a < IntKind.half k := by
        have := Nat.le_of_ble_eq_true h
        omega
      show (Int.ofNat a) = _
      unfold IntKind.wrap
      cases k <;> simp only [IntKind.half] at h' <;> simp [IntKind.bits, IntKind.signed] <;> omega
def ltR (a b : Int) : Bool := Int.rec (motive := fun _ => Int → Bool) (fun a b => Int.rec (motive := fun _ => Bool) (fun b => Nat.blt a b) (fun _ => false) b) (fun a b => Int.rec (motive := fun _ => Bool) (fun _ => true) (fun b => Nat.blt b a) b) a b
theorem blt_eq (a b : Nat) : Nat.blt a b = decide (a < b) := by
  unfold Nat.blt
  rw [Bool.eq_iff_iff]
  simp
  omega
theorem ltR_eq (a b : Int) : ltR a b = decide (a < b) := by
  cases a with
  | ofNat a => cases b with
    | ofNat b => show Nat.blt a b = _; rw [blt_eq]; simp
    | negSucc b => show false = _; symm; simp; omega
  | negSucc a => cases b with
    | ofNat b => show true = _; symm; simp; omega
    | negSucc b => show Nat.blt b a = _; rw [blt_eq]; rw [decide_eq_decide]; omega
def beqR (a b : Int) : Bool := Int.rec (motive := fun _ => Int → Bool) (fun a b => Int.rec (motive := fun _ => Bool) (fun b => Nat.beq a b) (fun _ => false) b) (fun a b => Int.rec (motive := fun _ => Bool) (fun _ => false) (fun b => Nat.beq a b) b) a b
theorem beqN (a b : Nat) : Nat.beq a b = decide (a = b) := by
  rw [Bool.eq_iff_iff]
  simp
theorem beqR_eq (a b : Int) : beqR a b = decide (a = b) := by
  cases a with
  | ofNat a => cases b with
    | ofNat b => show Nat.beq a b = _; rw [beqN, decide_eq_decide]; constructor <;> intro h <;> first | (subst h; rfl) | (cases h; rfl)
    | negSucc b => show false = _; symm; simp
  | negSucc a => cases b with
    | ofNat b => show false = _; symm; simp
    | negSucc b => show Nat.beq a b = _; rw [beqN, decide_eq_decide]; constructor <;> intro h <;> first | (subst h; rfl) | (cases h; rfl)
abbrev IntOpT := IntKind → Int → Int → Option V
def o_add : IntOpT := fun k a b => some (.int k (wrapR k (Int.add a b)))
def o_sub : IntOpT := fun k a b => some (.int k (wrapR k (Int.sub a b)))
def o_mul : IntOpT := fun k a b => some (.int k (wrapR k (Int.mul a b)))
def o_lss : IntOpT := fun _ a b => some (.bool (ltR a b))
def o_leq : IntOpT := fun _ a b => some (.bool (!ltR b a))
def o_gtr : IntOpT := fun _ a b => some (.bool (ltR b a))
def o_geq : IntOpT := fun _ a b => some (.bool (!ltR a b))
def o_eql : IntOpT := fun _ a b => some (.bool (beqR a b))
def o_neq : IntOpT := fun _ a b => some (.bool (!beqR a b))
def o_old (op : BinOp) : IntOpT := fun k a b => binOp op (.int k a) (.int k b)
def intR (op : BinOp) : IntOpT := BinOp.rec (motive := fun _ => IntOpT) o_add o_sub o_mul (o_old .quo) (o_old .rem) (o_old .and) (o_old .or) (o_old .xor) (o_old .shl) (o_old .shr) (o_old .andNot) o_eql o_neq o_lss o_leq o_gtr o_geq op
theorem intR_eq (op : BinOp) (k : IntKind) (a b : Int) : intR op k a b = binOp op (.int k a) (.int k b) := by
  cases op
  case add =>
    show some (V.int k (wrapR k (a + b))) = _
    rw [wrapR_eq]
    simp only [binOp, if_pos, intOp]
  case sub =>
    show some (V.int k (wrapR k (a - b))) = _
    rw [wrapR_eq]
    simp only [binOp, if_pos, intOp]
  case mul =>
    show some (V.int k (wrapR k (a * b))) = _
    rw [wrapR_eq]
    simp only [binOp, if_pos, intOp]
  case quo => rfl
  case rem => rfl
  case and => rfl
  case or => rfl
  case xor => rfl
  case shl => rfl
  case shr => rfl
  case andNot => rfl
  case eql =>
    show some (V.bool (beqR a b)) = _
    rw [beqR_eq]
    simp only [binOp, if_pos, intOp]
    try rfl
  case neq =>
    show some (V.bool (!beqR a b)) = _
    rw [beqR_eq]
    simp only [binOp, if_pos, intOp]
    try rfl
  case lss =>
    show some (V.bool (ltR a b)) = _
    rw [ltR_eq]
    simp only [binOp, if_pos, intOp]
  case leq =>
    show some (V.bool (!ltR b a)) = _
    rw [ltR_eq]
    simp only [binOp, if_pos, intOp]
    congr 2
    rw [Bool.eq_iff_iff]
    simp
  case gtr =>
    show some (V.bool (ltR b a)) = _
    rw [ltR_eq]
    simp only [binOp, if_pos, intOp]
    try rfl
  case geq =>
    show some (V.bool (!ltR a b)) = _
    rw [ltR_eq]
    simp only [binOp, if_pos, intOp]
    congr 2
    rw [Bool.eq_iff_iff]
    simp
def binOpR (op : BinOp) (x y : V) : Option V := match x, y with
  | .int k a, .int l b => cond (Nat.beq (IntKind.num k) (IntKind.num l)) (intR op k a b) (binOp op (.int k a) (.int l b))
  | x, y => binOp op x y
theorem binOpR_eq (op : BinOp) (x y : V) : binOpR op x y = binOp op x y := by
  unfold binOpR
  split
  · rename_i k a l b
    cases h : Nat.beq (IntKind.num k) (IntKind.num l) with
    | false => rfl
    | true => have := num_inj k l h; subst this; exact intR_eq op k a b
  · rfl

def wantedR (e : Env) (g : Option (Nat × Bool)) : Bool := Option.rec true (fun p => wanted e (some p)) g
theorem wantedR_eq (e : Env) (g : Option (Nat × Bool)) : wantedR e g = wanted e g := by cases g <;> rfl

def r_mov (x : X) (g : View) (id : Nat) (e : Env) : Option Eff :=
  some { val := x.valR e }
theorem r_mov_eq (x : X) (g : View) (id : Nat) (e : Env) : r_mov x g id e = evI g id e (.mov x) := by
  unfold r_mov
  simp only [valR_eq]
  rfl
def r_pick (c : X) (a : X) (b : X) (g : View) (id : Nat) (e : Env) : Option Eff :=
  match c.valR e with | .bool t => some { val := if t then a.valR e else b.valR e } | _ => none
theorem r_pick_eq (c : X) (a : X) (b : X) (g : View) (id : Nat) (e : Env) : r_pick c a b g id e = evI g id e (.pick c a b) := by
  unfold r_pick
  simp only [valR_eq]
  rfl
def r_new (cs : List V) (g : View) (id : Nat) (e : Env) : Option Eff :=
  some { new := some (.cells cs cs.length 0 false), val := .ptr id 0 }
theorem r_new_eq (cs : List V) (g : View) (id : Nat) (e : Env) : r_new cs g id e = evI g id e (.new cs) := rfl
def r_box (x : X) (g : View) (id : Nat) (e : Env) : Option Eff :=
  let v := x.valR e
  if v.cells.all V.one then some { new := some (.cells v.cells v.cells.length 0 false), val := .ptr id 0 } else none
theorem r_box_eq (x : X) (g : View) (id : Nat) (e : Env) : r_box x g id e = evI g id e (.box x) := by
  unfold r_box
  simp only [valR_eq]
  rfl
def r_build (zero : List V) (parts : List (Nat × Nat × X)) (g : View) (id : Nat) (e : Env) : Option Eff :=
  (fillIn zero (parts.map fun p => (p.1, p.2.1, p.2.2.valR e))).map fun cs => { val := .agg cs }
theorem r_build_eq (zero : List V) (parts : List (Nat × Nat × X)) (g : View) (id : Nat) (e : Env) : r_build zero parts g id e = evI g id e (.build zero parts) := by
  unfold r_build
  simp only [valR_eq]
  rfl
def r_buildSlice (cells : List V) (esz : Nat) (len : Nat) (parts : List (Nat × Nat × X)) (g : View) (id : Nat) (e : Env) : Option Eff :=
  (fillIn cells (parts.map fun p => (p.1, p.2.1, p.2.2.valR e))).map fun cs =>
    { new := some (.cells cs esz 0 false), val := .slice id 0 len (some len) }
theorem r_buildSlice_eq (cells : List V) (esz : Nat) (len : Nat) (parts : List (Nat × Nat × X)) (g : View) (id : Nat) (e : Env) : r_buildSlice cells esz len parts g id e = evI g id e (.buildSlice cells esz len parts) := by
  unfold r_buildSlice
  simp only [valR_eq]
  rfl
def r_load (agg : Bool) (n : Nat) (a : X) (g : View) (id : Nat) (e : Env) : Option Eff :=
  (readAt g (a.valR e) n).bind fun cs => (ofCells agg cs).map fun v => { val := v }
theorem r_load_eq (agg : Bool) (n : Nat) (a : X) (g : View) (id : Nat) (e : Env) : r_load agg n a g id e = evI g id e (.load agg n a) := by
  unfold r_load
  simp only [valR_eq]
  rfl
def r_store (n : Nat) (a : X) (x : X) (g : View) (id : Nat) (e : Env) : Option Eff :=
  match a.valR e with
  | .ptr b off => match g b with
    | some (.cells cs esz fz false) =>
      let vs := (x.valR e).cells
      if vs.length = n ∧ fz ≤ off ∧ off + n ≤ cs.length ∧ vs.all V.one then some { upd := some (b, some (.cells (putAt cs off vs) esz fz false)), val := V.undef } else none
    | _ => none
  | _ => none
theorem r_store_eq (n : Nat) (a : X) (x : X) (g : View) (id : Nat) (e : Env) : r_store n a x g id e = evI g id e (.store n a x) := by
  unfold r_store
  simp only [valR_eq]
  rfl
def r_nilCheck (x : X) (g : View) (id : Nat) (e : Env) : Option Eff :=
  match x.valR e with
  | .ptr b off => some { val := .ptr b off }
  | .rptr row off => some { val := .rptr row off }
  | .func (.func f) a b => some { val := .func (.func f) a b }
  | .iface t v => some { val := .iface t v }
  | _ => none
theorem r_nilCheck_eq (x : X) (g : View) (id : Nat) (e : Env) : r_nilCheck x g id e = evI g id e (.nilCheck x) := by
  unfold r_nilCheck
  simp only [valR_eq]
  rfl
def r_bin (op : BinOp) (x : X) (y : X) (g : View) (id : Nat) (e : Env) : Option Eff :=
  (binOpR op (x.valR e) (y.valR e)).map fun v => { val := v }
theorem r_bin_eq (op : BinOp) (x : X) (y : X) (g : View) (id : Nat) (e : Env) : r_bin op x y g id e = evI g id e (.bin op x y) := by
  unfold r_bin
  simp only [valR_eq, binOpR_eq]
  rfl
def r_eq (k : EqK) (neg : Bool) (x : X) (y : X) (g : View) (id : Nat) (e : Env) : Option Eff :=
  (eqOp k (x.valR e) (y.valR e)).map fun b => { val := .bool (if neg then !b else b) }
theorem r_eq_eq (k : EqK) (neg : Bool) (x : X) (y : X) (g : View) (id : Nat) (e : Env) : r_eq k neg x y g id e = evI g id e (.eq k neg x y) := by
  unfold r_eq
  simp only [valR_eq]
  rfl
def r_un (op : UnOp) (x : X) (g : View) (id : Nat) (e : Env) : Option Eff :=
  (unOp op (x.valR e)).map fun v => { val := v }
theorem r_un_eq (op : UnOp) (x : X) (g : View) (id : Nat) (e : Env) : r_un op x g id e = evI g id e (.un op x) := by
  unfold r_un
  simp only [valR_eq]
  rfl
def r_convI (k : IntKind) (x : X) (g : View) (id : Nat) (e : Env) : Option Eff :=
  match x.valR e with | .int _ n => some { val := .int k (wrapR k n) } | .sym x => (symConv k x).map fun v => { val := v } | _ => none
theorem r_convI_eq (k : IntKind) (x : X) (g : View) (id : Nat) (e : Env) : r_convI k x g id e = evI g id e (.convI k x) := by
  unfold r_convI
  simp only [valR_eq, wrapR_eq]
  rfl
def r_convId (x : X) (g : View) (id : Nat) (e : Env) : Option Eff :=
  match x.valR e with | .str s => some { val := .str s } | _ => none
theorem r_convId_eq (x : X) (g : View) (id : Nat) (e : Env) : r_convId x g id e = evI g id e (.convId x) := by
  unfold r_convId
  simp only [valR_eq]
  rfl
def r_bytesOf (x : X) (g : View) (id : Nat) (e : Env) : Option Eff :=
  match x.valR e with
  | .str s => if s.length ≤ roomy then some { new := some (.cells (s.map fun b : Nat => V.int .u8 b) 1 0 false), val := .slice id 0 s.length none } else none
  | _ => none
theorem r_bytesOf_eq (x : X) (g : View) (id : Nat) (e : Env) : r_bytesOf x g id e = evI g id e (.bytesOf x) := by
  unfold r_bytesOf
  simp only [valR_eq]
  rfl
def r_strOf (x : X) (g : View) (id : Nat) (e : Env) : Option Eff :=
  match vlen (x.valR e), x.valR e with
  | some _, .str _ => none
  | some n, v => (firstCells g 1 n v).bind fun cs => (bytesIn cs).map fun s => { val := .str s }
  | none, _ => none
theorem r_strOf_eq (x : X) (g : View) (id : Nat) (e : Env) : r_strOf x g id e = evI g id e (.strOf x) := by
  unfold r_strOf
  simp only [valR_eq]
  rfl
def r_iface (t : TypeId) (x : X) (g : View) (id : Nat) (e : Env) : Option Eff :=
  some { val := .iface t (x.valR e) }
theorem r_iface_eq (t : TypeId) (x : X) (g : View) (id : Nat) (e : Env) : r_iface t x g id e = evI g id e (.iface t x) := by
  unfold r_iface
  simp only [valR_eq]
  rfl
def r_func (fn : Fn) (first : List X) (captured : List X) (g : View) (id : Nat) (e : Env) : Option Eff :=
  some { val := .func fn (first.map (fun x : X => x.valR e)) (captured.map (fun x : X => x.valR e)) }
theorem r_func_eq (fn : Fn) (first : List X) (captured : List X) (g : View) (id : Nat) (e : Env) : r_func fn first captured g id e = evI g id e (.func fn first captured) := by
  unfold r_func
  simp only [valR_eq]
  rfl
def r_mkMap (hint : Option X) (g : View) (id : Nat) (e : Env) : Option Eff :=
  match hint with
  | none => some { new := some (.map [] 0 false), val := .map id }
  | some x => match x.valR e with | .int .. => some { new := some (.map [] 0 false), val := .map id } | _ => none
theorem r_mkMap_eq (hint : Option X) (g : View) (id : Nat) (e : Env) : r_mkMap hint g id e = evI g id e (.mkMap hint) := by
  unfold r_mkMap
  simp only [valR_eq]
  rfl
def r_mkSlice (zero : List V) (esz : Nat) (bytes : Nat) (len : X) (cap : X) (g : View) (id : Nat) (e : Env) : Option Eff :=
  match len.valR e, cap.valR e with
  | .int _ l, .int _ c => if 0 ≤ l ∧ l ≤ c ∧ c * (bytes + 1) ≤ (roomy : Int) ∧ zero.length = esz then
      some { new := some (.cells ((List.replicate c.toNat zero).flatten) esz 0 false), val := .slice id 0 l.toNat (some c.toNat) } else none
  | _, _ => none
theorem r_mkSlice_eq (zero : List V) (esz : Nat) (bytes : Nat) (len : X) (cap : X) (g : View) (id : Nat) (e : Env) : r_mkSlice zero esz bytes len cap g id e = evI g id e (.mkSlice zero esz bytes len cap) := by
  unfold r_mkSlice
  simp only [valR_eq]
  rfl
def r_sliceS (x : X) (lo : Option X) (hi : Option X) (g : View) (id : Nat) (e : Env) : Option Eff :=
  match x.valR e with
  | .str s => (bound e hi s.length s.length).bind fun h => (bound e lo 0 h).bind fun l => some { val := .str ((s.take h).drop l) }
  | _ => none
theorem r_sliceS_eq (x : X) (lo : Option X) (hi : Option X) (g : View) (id : Nat) (e : Env) : r_sliceS x lo hi g id e = evI g id e (.sliceS x lo hi) := by
  unfold r_sliceS
  simp only [valR_eq]
  rfl
def r_sliceL (esz : Nat) (x : X) (lo : Option X) (hi : Option X) (mx : Option X) (g : View) (id : Nat) (e : Env) : Option Eff :=
  (evSlice g e esz (x.valR e) lo hi mx).map fun v => { val := v }
theorem r_sliceL_eq (esz : Nat) (x : X) (lo : Option X) (hi : Option X) (mx : Option X) (g : View) (id : Nat) (e : Env) : r_sliceL esz x lo hi mx g id e = evI g id e (.sliceL esz x lo hi mx) := by
  unfold r_sliceL
  simp only [valR_eq]
  rfl
def r_fieldAddr (off : Nat) (x : X) (g : View) (id : Nat) (e : Env) : Option Eff :=
  match x.valR e with
  | .ptr b o => some { val := .ptr b (o + off) }
  | .rptr row o => some { val := .rptr row (o + off) }
  | _ => none
theorem r_fieldAddr_eq (off : Nat) (x : X) (g : View) (id : Nat) (e : Env) : r_fieldAddr off x g id e = evI g id e (.fieldAddr off x) := by
  unfold r_fieldAddr
  simp only [valR_eq]
  rfl
def r_field (agg : Bool) (n : Nat) (off : Nat) (x : X) (g : View) (id : Nat) (e : Env) : Option Eff :=
  match x.valR e with
  | .agg cs => (cellsAt cs off n).bind fun cs => (ofCells agg cs).map fun v => { val := v }
  | _ => none
theorem r_field_eq (agg : Bool) (n : Nat) (off : Nat) (x : X) (g : View) (id : Nat) (e : Env) : r_field agg n off x g id e = evI g id e (.field agg n off x) := by
  unfold r_field
  simp only [valR_eq]
  rfl
def r_indexAddrS (esz : Nat) (x : X) (i : X) (g : View) (id : Nat) (e : Env) : Option Eff :=
  match x.valR e, i.valR e with
  | .slice b off len _, .int _ n => if 0 ≤ n ∧ n < len then some { val := .ptr b (off + n.toNat * esz) } else none
  | .rslice row off len _, .int _ n => if 0 ≤ n ∧ n < len then some { val := .rptr row (off + n.toNat * esz) } else none
  | _, _ => none
theorem r_indexAddrS_eq (esz : Nat) (x : X) (i : X) (g : View) (id : Nat) (e : Env) : r_indexAddrS esz x i g id e = evI g id e (.indexAddrS esz x i) := by
  unfold r_indexAddrS
  simp only [valR_eq]
  rfl
def r_indexAddrA (esz : Nat) (len : Nat) (x : X) (i : X) (g : View) (id : Nat) (e : Env) : Option Eff :=
  match x.valR e, i.valR e with
  | .ptr b off, .int _ n => if 0 ≤ n ∧ n < len then some { val := .ptr b (off + n.toNat * esz) } else none
  | .rptr row off, .int _ n => if 0 ≤ n ∧ n < len then some { val := .rptr row (off + n.toNat * esz) } else none
  | _, _ => none
theorem r_indexAddrA_eq (esz : Nat) (len : Nat) (x : X) (i : X) (g : View) (id : Nat) (e : Env) : r_indexAddrA esz len x i g id e = evI g id e (.indexAddrA esz len x i) := by
  unfold r_indexAddrA
  simp only [valR_eq]
  rfl
def r_indexA (agg : Bool) (esz : Nat) (len : Nat) (x : X) (i : X) (g : View) (id : Nat) (e : Env) : Option Eff :=
  match x.valR e, i.valR e with
  | .agg cs, .int _ n => if 0 ≤ n ∧ n < len then (cellsAt cs (n.toNat * esz) esz).bind fun cs => (ofCells agg cs).map fun v => { val := v } else none
  | _, _ => none
theorem r_indexA_eq (agg : Bool) (esz : Nat) (len : Nat) (x : X) (i : X) (g : View) (id : Nat) (e : Env) : r_indexA agg esz len x i g id e = evI g id e (.indexA agg esz len x i) := by
  unfold r_indexA
  simp only [valR_eq]
  rfl
def r_indexStr (x : X) (i : X) (g : View) (id : Nat) (e : Env) : Option Eff :=
  match x.valR e, i.valR e with
  | .str s, .int _ n => if 0 ≤ n then (s[n.toNat]?).map fun b : Nat => ({ val := .int .u8 b } : Eff) else none
  | _, _ => none
theorem r_indexStr_eq (x : X) (i : X) (g : View) (id : Nat) (e : Env) : r_indexStr x i g id e = evI g id e (.indexStr x i) := by
  unfold r_indexStr
  simp only [valR_eq]
  rfl
def r_lookup (kt : KT) (zero : V) (ok : Bool) (x : X) (k : X) (g : View) (id : Nat) (e : Env) : Option Eff :=
  (lookupV g kt (x.valR e) (k.valR e)).map fun r =>
    { val := if ok then .tuple [r.getD zero, .bool r.isSome] else r.getD zero }
theorem r_lookup_eq (kt : KT) (zero : V) (ok : Bool) (x : X) (k : X) (g : View) (id : Nat) (e : Env) : r_lookup kt zero ok x k g id e = evI g id e (.lookup kt zero ok x k) := by
  unfold r_lookup
  simp only [valR_eq]
  rfl
def r_mapSet (kt : KT) (m : X) (k : X) (v : X) (g : View) (id : Nat) (e : Env) : Option Eff :=
  match m.valR e with
  | .map b => match g b with
    | some (.map es clock false) =>
      let k := k.valR e
      if kt.fits k && es.all (fun e => kt.fits e.1) then
        some { upd := some (b, some (match findE k.cells es 0 with
          | some (i, _) => .map (es.set i (k, v.valR e, ((es[i]?).map (·.2.2)).getD 0)) clock false
          | none => .map (es ++ [(k, v.valR e, clock)]) (clock + 1) false)), val := V.undef }
      else none
    | _ => none
  | _ => none
theorem r_mapSet_eq (kt : KT) (m : X) (k : X) (v : X) (g : View) (id : Nat) (e : Env) : r_mapSet kt m k v g id e = evI g id e (.mapSet kt m k v) := by
  unfold r_mapSet
  simp only [valR_eq]
  rfl
def r_rangeM (x : X) (g : View) (id : Nat) (e : Env) : Option Eff :=
  match x.valR e with
  | .nilMap => some { new := some (.mapIter none 0 [] 0), val := .ptr id 0 }
  | .map b => match g b with | some (.map _ clock _) => some { new := some (.mapIter (some b) clock [] clock), val := .ptr id 0 } | _ => none
  | .rmap ks vs => some { new := some (.rmapIter ks vs []), val := .ptr id 0 }
  | _ => none
theorem r_rangeM_eq (x : X) (g : View) (id : Nat) (e : Env) : r_rangeM x g id e = evI g id e (.rangeM x) := by
  unfold r_rangeM
  simp only [valR_eq]
  rfl
def r_rangeS (x : X) (g : View) (id : Nat) (e : Env) : Option Eff :=
  match x.valR e with
  | .str s => some { new := some (.strIter s 0), val := .ptr id 0 }
  | .sstr s => some { new := some (.strIter s 0), val := .ptr id 0 }
  | _ => none
theorem r_rangeS_eq (x : X) (g : View) (id : Nat) (e : Env) : r_rangeS x g id e = evI g id e (.rangeS x) := by
  unfold r_rangeS
  simp only [valR_eq]
  rfl
def r_nextS (it : X) (g : View) (id : Nat) (e : Env) : Option Eff :=
  match it.valR e with
  | .ptr b 0 => match g b with
    | some (.strIter [] _) => some { val := .tuple [.bool false] }
    | some (.strIter (c :: s) pos) =>
      if c < 128 then some { upd := some (b, some (.strIter s (pos + 1))), val := .tuple [.bool true, .int .i64 pos, .int .i32 c] }
      else if c = 256 then some { upd := some (b, some (.strIter s (pos + 1))), val := .tuple [.bool true, .int .i64 pos, .sym (.any .i32 48 57)] }
      else if (c :: s).all (fun c => c != 256) then some { upd := some (b, some (.strIter ((c :: s).drop (decodeAt (c :: s) 0).2) (pos + (decodeAt (c :: s) 0).2))), val := .tuple [.bool true, .int .i64 pos, .int .i32 (decodeAt (c :: s) 0).1] }
      else none
    | _ => none
  | _ => none
theorem r_nextS_eq (it : X) (g : View) (id : Nat) (e : Env) : r_nextS it g id e = evI g id e (.nextS it) := by
  unfold r_nextS
  simp only [valR_eq]
  rfl
def r_entry (it : X) (g : View) (id : Nat) (e : Env) : Option Eff :=
  match it.valR e with
  | .ptr b 0 => match g b with
    | some (.mapIter (some m) _ seen stepped) => match g m with
      | some (.map es clock _) => match seen.getLast? with
        | some stamp => if clock = stepped then (es.find? (fun x => Nat.beq x.2.2 stamp)).map fun x => { val := .tuple [x.1, x.2.1] } else none
        | none => none
      | _ => none
    | some (.rmapIter ks vs seen) => match seen.getLast? with
      | some i => match ks[i]?, vs[i]? with
        | some k, some v => some { val := .tuple [k, v] }
        | _, _ => none
      | none => none
    | _ => none
  | _ => none
theorem r_entry_eq (it : X) (g : View) (id : Nat) (e : Env) : r_entry it g id e = evI g id e (.entry it) := by
  unfold r_entry
  simp only [valR_eq]
  rfl
def r_assertC (t : TypeId) (zero : V) (ok : Bool) (x : X) (g : View) (id : Nat) (e : Env) : Option Eff :=
  match x.valR e with
  | .nilIface => if ok then some { val := .tuple [zero, .bool false] } else none
  | .iface u v => if u = t then some { val := if ok then .tuple [v, .bool true] else v } else if ok then some { val := .tuple [zero, .bool false] } else none
  | _ => none
theorem r_assertC_eq (t : TypeId) (zero : V) (ok : Bool) (x : X) (g : View) (id : Nat) (e : Env) : r_assertC t zero ok x g id e = evI g id e (.assertC t zero ok x) := by
  unfold r_assertC
  simp only [valR_eq]
  rfl
def r_extract (i : Nat) (x : X) (g : View) (id : Nat) (e : Env) : Option Eff :=
  match x.valR e with
  | .tuple vs => (vs[i]?).map fun v => { val := v }
  | _ => none
theorem r_extract_eq (i : Nat) (x : X) (g : View) (id : Nat) (e : Env) : r_extract i x g id e = evI g id e (.extract i x) := by
  unfold r_extract
  simp only [valR_eq]
  rfl
def r_lenStr (x : X) (g : View) (id : Nat) (e : Env) : Option Eff :=
  match x.valR e with | .str s => some { val := .int .i64 s.length } | .sstr s => some { val := .int .i64 s.length } | _ => none
theorem r_lenStr_eq (x : X) (g : View) (id : Nat) (e : Env) : r_lenStr x g id e = evI g id e (.lenStr x) := by
  unfold r_lenStr
  simp only [valR_eq]
  rfl
def r_lenSlice (x : X) (g : View) (id : Nat) (e : Env) : Option Eff :=
  match x.valR e with | .str _ => none | v => (vlen v).map fun n : Nat => ({ val := .int .i64 n } : Eff)
theorem r_lenSlice_eq (x : X) (g : View) (id : Nat) (e : Env) : r_lenSlice x g id e = evI g id e (.lenSlice x) := by
  unfold r_lenSlice
  simp only [valR_eq]
  rfl
def r_lenMap (x : X) (g : View) (id : Nat) (e : Env) : Option Eff :=
  match x.valR e with
  | .nilMap => some { val := .int .i64 0 }
  | .rmap ks vs => if ks.length = vs.length then some { val := .int .i64 ks.length } else none
  | .map b => match g b with | some (.map es _ _) => some { val := .int .i64 es.length } | _ => none
  | _ => none
theorem r_lenMap_eq (x : X) (g : View) (id : Nat) (e : Env) : r_lenMap x g id e = evI g id e (.lenMap x) := by
  unfold r_lenMap
  simp only [valR_eq]
  rfl
def r_append (esz : Nat) (bytes : Nat) (s : X) (x : X) (g : View) (id : Nat) (e : Env) : Option Eff :=
  evAppend g id esz bytes (s.valR e) (x.valR e)
theorem r_append_eq (esz : Nat) (bytes : Nat) (s : X) (x : X) (g : View) (id : Nat) (e : Env) : r_append esz bytes s x g id e = evI g id e (.append esz bytes s x) := by
  unfold r_append
  simp only [valR_eq]
  rfl
def r_copy (esz : Nat) (d : X) (s : X) (g : View) (id : Nat) (e : Env) : Option Eff :=
  evCopy g esz (d.valR e) (s.valR e)
theorem r_copy_eq (esz : Nat) (d : X) (s : X) (g : View) (id : Nat) (e : Env) : r_copy esz d s g id e = evI g id e (.copy esz d s) := by
  unfold r_copy
  simp only [valR_eq]
  rfl
def r_delete (kt : KT) (m : X) (k : X) (g : View) (id : Nat) (e : Env) : Option Eff :=
  match m.valR e with
  | .nilMap => if kt.fits (k.valR e) then some { val := .tuple [] } else none
  | .map b => match g b with
    | some (.map es clock false) =>
      if kt.fits (k.valR e) && es.all (fun e => kt.fits e.1) then
        some { upd := some (b, some (match findE (k.valR e).cells es 0 with
          | some (i, _) => .map (es.eraseIdx i) clock false
          | none => .map es clock false)), val := .tuple [] }
      else none
    | _ => none
  | _ => none
theorem r_delete_eq (kt : KT) (m : X) (k : X) (g : View) (id : Nat) (e : Env) : r_delete kt m k g id e = evI g id e (.delete kt m k) := by
  unfold r_delete
  simp only [valR_eq]
  rfl
def r_minmax (max : Bool) (x : X) (y : X) (g : View) (id : Nat) (e : Env) : Option Eff :=
  match x.valR e, y.valR e with
  | .int k a, .int k' b => if k = k' then some { val := .int k (if max then (if b > a then b else a) else (if b < a then b else a)) } else none
  | .str a, .str b => some { val := .str (if max then (if bytesLess a b then b else a) else (if bytesLess a b || a == b then a else b)) }
  | u, v => (symMax max u v).map fun r => { val := r }
theorem r_minmax_eq (max : Bool) (x : X) (y : X) (g : View) (id : Nat) (e : Env) : r_minmax max x y g id e = evI g id e (.minmax max x y) := by
  unfold r_minmax
  simp only [valR_eq]
  rfl
def r_runeS (x : X) (g : View) (id : Nat) (e : Env) : Option Eff :=
  match x.valR e with | .int _ n => if 0 ≤ n ∧ n < 128 then some { val := .str [n.toNat] } else none | .sym x => if 48 ≤ x.bnd.1 ∧ x.bnd.2 ≤ 57 then some { val := .sstr [256] } else none | _ => none
theorem r_runeS_eq (x : X) (g : View) (id : Nat) (e : Env) : r_runeS x g id e = evI g id e (.runeS x) := by
  unfold r_runeS
  simp only [valR_eq]
  rfl

section
variable (cx : Ctx)

def seenR (h : Heap) (nid n : Nat) (bef : List Nat) : View := fun b => cond (Nat.ble nid b && Nat.blt b (Nat.add nid n) && !bef.contains (Nat.sub b nid)) none (T.getR h b)
theorem seenR_eq (h : Heap) (nid n : Nat) (bef : List Nat) : seenR h nid n bef = seen h nid n bef := by
  funext b
  show cond (Nat.ble nid b && Nat.blt b (nid + n) && !bef.contains (b - nid)) none (T.getR h b) = _
  rw [T.getR_eq]
  unfold seen
  have e : (decide (nid ≤ b) && Nat.blt b (nid + n) && !bef.contains (b - nid)) = (Nat.ble nid b && Nat.blt b (nid + n) && !bef.contains (b - nid)) := by
    congr 2
    by_cases h : nid ≤ b
    · rw [decide_eq_true h, Nat.ble_eq_true_of_le h]
    · rw [decide_eq_false h]; cases hb : Nat.ble nid b with
      | false => rfl
      | true => exact absurd (Nat.le_of_ble_eq_true hb) h
  by_cases c : (Nat.ble nid b && Nat.blt b (nid + n) && !bef.contains (b - nid)) = true
  · rw [c, if_pos (by rw [e]; exact c)]; rfl
  · rw [if_neg (by rw [e]; exact c)]; rw [Bool.not_eq_true] at c; rw [c]; rfl

/-! Values inline. -/
def reifyStep (g : View) (r : V → Option V) (rl : List V → Option (List V)) : V → Option V
  | .ptr b off => match g b with | some (.cells cs _ _ _) => (rl cs).map (.rptr · off) | _ => none
  | .slice b off len _ => match g b with | some (.cells cs _ _ _) => (rl cs).map (.rslice · off len none) | _ => none
  | .map b => match g b with
    | some (.map es _ _) => (rl (es.map (·.1))).bind fun ks => (rl (es.map (·.2.1))).map fun vs => .rmap ks vs
    | _ => none
  | .func fn first captured => if plainFn fn then (rl first).bind fun a => (rl captured).map fun b => .func fn a b else none
  | .iface t v => (r v).map (.iface t ·)
  | .agg cs => (rl cs).map .agg
  | .tuple cs => (rl cs).map .tuple
  | v => some v
def reifyLStep (r : V → Option V) (rl : List V → Option (List V)) (l : List V) : Option (List V) := List.rec (some []) (fun v vs _ => (r v).bind fun v => (rl vs).map (v :: ·)) l
def reifyP (g : View) (d : Nat) : (V → Option V) × (List V → Option (List V)) := Nat.rec (fun _ => none, fun _ => none) (fun _ p => (reifyStep g p.1 p.2, reifyLStep p.1 p.2)) d
def reifyR (g : View) (d : Nat) : V → Option V := (reifyP g d).1
def reifyLR (g : View) (d : Nat) : List V → Option (List V) := (reifyP g d).2
theorem reifyP_eq (g : View) : ∀ (d : Nat), (∀ v, reifyR g d v = reify g d v) ∧ ∀ l, reifyLR g d l = reifyL g d l
  | 0 => ⟨fun v => by simp only [reify]; rfl, fun l => by simp only [reifyL]; rfl⟩
  | d + 1 => by
    obtain ⟨h1, h2⟩ := reifyP_eq g d
    have e1 : (reifyP g d).1 = reify g d := funext h1
    have e2 : (reifyP g d).2 = reifyL g d := funext h2
    constructor
    · intro v
      show reifyStep g (reifyP g d).1 (reifyP g d).2 v = _
      rw [e1, e2]
      cases v <;> simp only [reifyStep, reify] <;> rfl
    · intro l
      show reifyLStep (reifyP g d).1 (reifyP g d).2 l = _
      rw [e1, e2]
      cases l <;> simp only [reifyLStep, reifyL]
theorem reifyR_eq (g : View) (d : Nat) (v : V) : reifyR g d v = reify g d v := (reifyP_eq g d).1 v
theorem reifyLR_eq (g : View) (d : Nat) (l : List V) : reifyLR g d l = reifyL g d l := (reifyP_eq g d).2 l
def callSumR (g : View) (F : List V → Option V) (args : List V) : Option V :=
  (reifyLR g deep args).bind fun as => (F as).bind fun r => if r.flat || immL args then some r else none
theorem callSumR_eq (g : View) (F : List V → Option V) (args : List V) : callSumR g F args = callSum g F args := by
  unfold callSumR callSum
  rw [reifyLR_eq]
def callSumFR (h : Heap) (F : List V → Option V) (args : List V) : Option (V × Heap) :=
  (reifyLR (T.getR h) deep args).bind fun as => (F as).map fun r => if r.flat || immL args then (r, h) else (r, freezeAll h (touchedL h.get deep args))
theorem callSumFR_eq (h : Heap) (F : List V → Option V) (args : List V) : callSumFR h F args = callSumF h F args := by
  unfold callSumFR callSumF
  rw [getR_fun, reifyLR_eq]

abbrev ActT := Nat → Nat → Nat → List Nat → Option Nat → Env → Heap → Option (Env × Heap)
def actPlain (f : View → Nat → Env → Option Eff) : ActT := fun nid n i bef dst e h => Option.rec none (fun eff => some (putDstR e dst eff.val, eff.heapR (Nat.add nid i) h)) (f (seenR h nid n bef) (Nat.add nid i) e)
def actNone : ActT := fun _ _ _ _ _ _ _ => none
def actCall (f : X) (args : List X) : ActT := fun nid n i bef dst e h => match resolve (f.valR e) (args.map fun x => x.valR e) with
  | some (f, args) => match cx.sum f with
    | some F => (callSumR (seenR h nid n bef) F args).map fun v => (putDstR e dst v, h)
    | none => none
  | none => none
def actI (i : I) : ActT := I.rec (motive := fun _ => ActT)
  (fun a0 => actPlain (r_mov a0))
  (fun a0 a1 a2 => actPlain (r_pick a0 a1 a2))
  (fun a0 => actPlain (r_new a0))
  (fun a0 => actPlain (r_box a0))
  (fun a0 a1 => actPlain (r_build a0 a1))
  (fun a0 a1 a2 a3 => actPlain (r_buildSlice a0 a1 a2 a3))
  (fun a0 a1 a2 => actPlain (r_load a0 a1 a2))
  (fun a0 a1 a2 => actPlain (r_store a0 a1 a2))
  (fun a0 => actPlain (r_nilCheck a0))
  (fun a0 a1 a2 => actPlain (r_bin a0 a1 a2))
  (fun a0 a1 a2 a3 => actPlain (r_eq a0 a1 a2 a3))
  (fun a0 a1 => actPlain (r_un a0 a1))
  (fun a0 a1 => actPlain (r_convI a0 a1))
  (fun a0 => actPlain (r_convId a0))
  (fun a0 => actPlain (r_bytesOf a0))
  (fun a0 => actPlain (r_strOf a0))
  (fun a0 a1 => actPlain (r_iface a0 a1))
  (fun a0 a1 a2 => actPlain (r_func a0 a1 a2))
  (fun a0 => actPlain (r_mkMap a0))
  (fun a0 a1 a2 a3 a4 => actPlain (r_mkSlice a0 a1 a2 a3 a4))
  (fun a0 a1 a2 => actPlain (r_sliceS a0 a1 a2))
  (fun a0 a1 a2 a3 a4 => actPlain (r_sliceL a0 a1 a2 a3 a4))
  (fun a0 a1 => actPlain (r_fieldAddr a0 a1))
  (fun a0 a1 a2 a3 => actPlain (r_field a0 a1 a2 a3))
  (fun a0 a1 a2 => actPlain (r_indexAddrS a0 a1 a2))
  (fun a0 a1 a2 a3 => actPlain (r_indexAddrA a0 a1 a2 a3))
  (fun a0 a1 a2 a3 a4 => actPlain (r_indexA a0 a1 a2 a3 a4))
  (fun a0 a1 => actPlain (r_indexStr a0 a1))
  (fun a0 a1 a2 a3 a4 => actPlain (r_lookup a0 a1 a2 a3 a4))
  (fun a0 a1 a2 a3 => actPlain (r_mapSet a0 a1 a2 a3))
  (fun a0 => actPlain (r_rangeM a0))
  (fun a0 => actPlain (r_rangeS a0))
  (fun a0 => actPlain (r_nextS a0))
  (fun _ => actNone)
  (fun a0 => actPlain (r_entry a0))
  (fun a0 a1 a2 a3 => actPlain (r_assertC a0 a1 a2 a3))
  (fun a0 a1 => actPlain (r_extract a0 a1))
  (fun a0 => actPlain (r_lenStr a0))
  (fun a0 => actPlain (r_lenSlice a0))
  (fun a0 => actPlain (r_lenMap a0))
  (fun a0 a1 a2 a3 => actPlain (r_append a0 a1 a2 a3))
  (fun a0 a1 a2 => actPlain (r_copy a0 a1 a2))
  (fun a0 a1 a2 => actPlain (r_delete a0 a1 a2))
  (fun a0 a1 a2 => actPlain (r_minmax a0 a1 a2))
  (fun f args => actCall cx f args)
  (actNone)
  (fun _ _ => actNone)
  (fun _ => actNone)
  (fun a0 => actPlain (r_runeS a0))
  (actNone)
  i
def actOpR (nid n i : Nat) (o : O) (bef : List Nat) (s : Env × Heap) : Option (Env × Heap) :=
  cond (wantedR s.1 o.guard) (actI cx o.i nid n i bef o.dst s.1 s.2) (some (putDstR s.1 o.dst V.undef, s.2))
theorem actI_plain {f : View → Nat → Env → Option Eff} {op : I} (h : ∀ g id e, f g id e = evI g id e op) (nid n i : Nat) (bef : List Nat) (dst : Option Nat) (e : Env) (hp : Heap) :
    actPlain f nid n i bef dst e hp = (evI (seen hp nid n bef) (nid + i) e op).map fun eff => (putDst e dst eff.val, eff.heap (nid + i) hp) := by
  unfold actPlain
  rw [h, seenR_eq]
  show Option.rec (motive := fun _ => Option (Env × Heap)) none _ (evI (seen hp nid n bef) (nid + i) e op) = _
  cases evI (seen hp nid n bef) (nid + i) e op with
  | none => rfl
  | some eff =>
    show some (putDstR e dst eff.val, eff.heapR (nid + i) hp) = _
    rw [putDstR_eq, heapR_eq]; rfl
theorem actOpR_eq (nid n i : Nat) (o : O) (bef : List Nat) (s : Env × Heap) : actOpR cx nid n i o bef s = actOp cx nid n i o bef s := by
  obtain ⟨dst, op, guard⟩ := o
  obtain ⟨e, h⟩ := s
  unfold actOpR actOp
  simp only [wantedR_eq]
  cases hw : wanted e guard with
  | false => rw [if_neg (by simp), putDstR_eq]; rfl
  | true =>
    rw [if_pos rfl]
    show actI cx op nid n i bef dst e h = _
    cases op
    case mov a0 => exact actI_plain (fun g id e => r_mov_eq a0 g id e) nid n i bef dst e h
    case pick a0 a1 a2 => exact actI_plain (fun g id e => r_pick_eq a0 a1 a2 g id e) nid n i bef dst e h
    case new a0 => exact actI_plain (fun g id e => r_new_eq a0 g id e) nid n i bef dst e h
    case box a0 => exact actI_plain (fun g id e => r_box_eq a0 g id e) nid n i bef dst e h
    case build a0 a1 => exact actI_plain (fun g id e => r_build_eq a0 a1 g id e) nid n i bef dst e h
    case buildSlice a0 a1 a2 a3 => exact actI_plain (fun g id e => r_buildSlice_eq a0 a1 a2 a3 g id e) nid n i bef dst e h
    case load a0 a1 a2 => exact actI_plain (fun g id e => r_load_eq a0 a1 a2 g id e) nid n i bef dst e h
    case store a0 a1 a2 => exact actI_plain (fun g id e => r_store_eq a0 a1 a2 g id e) nid n i bef dst e h
    case nilCheck a0 => exact actI_plain (fun g id e => r_nilCheck_eq a0 g id e) nid n i bef dst e h
    case bin a0 a1 a2 => exact actI_plain (fun g id e => r_bin_eq a0 a1 a2 g id e) nid n i bef dst e h
    case eq a0 a1 a2 a3 => exact actI_plain (fun g id e => r_eq_eq a0 a1 a2 a3 g id e) nid n i bef dst e h
    case un a0 a1 => exact actI_plain (fun g id e => r_un_eq a0 a1 g id e) nid n i bef dst e h
    case convI a0 a1 => exact actI_plain (fun g id e => r_convI_eq a0 a1 g id e) nid n i bef dst e h
    case convId a0 => exact actI_plain (fun g id e => r_convId_eq a0 g id e) nid n i bef dst e h
    case bytesOf a0 => exact actI_plain (fun g id e => r_bytesOf_eq a0 g id e) nid n i bef dst e h
    case strOf a0 => exact actI_plain (fun g id e => r_strOf_eq a0 g id e) nid n i bef dst e h
    case iface a0 a1 => exact actI_plain (fun g id e => r_iface_eq a0 a1 g id e) nid n i bef dst e h
    case func a0 a1 a2 => exact actI_plain (fun g id e => r_func_eq a0 a1 a2 g id e) nid n i bef dst e h
    case mkMap a0 => exact actI_plain (fun g id e => r_mkMap_eq a0 g id e) nid n i bef dst e h
    case mkSlice a0 a1 a2 a3 a4 => exact actI_plain (fun g id e => r_mkSlice_eq a0 a1 a2 a3 a4 g id e) nid n i bef dst e h
    case sliceS a0 a1 a2 => exact actI_plain (fun g id e => r_sliceS_eq a0 a1 a2 g id e) nid n i bef dst e h
    case sliceL a0 a1 a2 a3 a4 => exact actI_plain (fun g id e => r_sliceL_eq a0 a1 a2 a3 a4 g id e) nid n i bef dst e h
    case fieldAddr a0 a1 => exact actI_plain (fun g id e => r_fieldAddr_eq a0 a1 g id e) nid n i bef dst e h
    case field a0 a1 a2 a3 => exact actI_plain (fun g id e => r_field_eq a0 a1 a2 a3 g id e) nid n i bef dst e h
    case indexAddrS a0 a1 a2 => exact actI_plain (fun g id e => r_indexAddrS_eq a0 a1 a2 g id e) nid n i bef dst e h
    case indexAddrA a0 a1 a2 a3 => exact actI_plain (fun g id e => r_indexAddrA_eq a0 a1 a2 a3 g id e) nid n i bef dst e h
    case indexA a0 a1 a2 a3 a4 => exact actI_plain (fun g id e => r_indexA_eq a0 a1 a2 a3 a4 g id e) nid n i bef dst e h
    case indexStr a0 a1 => exact actI_plain (fun g id e => r_indexStr_eq a0 a1 g id e) nid n i bef dst e h
    case lookup a0 a1 a2 a3 a4 => exact actI_plain (fun g id e => r_lookup_eq a0 a1 a2 a3 a4 g id e) nid n i bef dst e h
    case mapSet a0 a1 a2 a3 => exact actI_plain (fun g id e => r_mapSet_eq a0 a1 a2 a3 g id e) nid n i bef dst e h
    case rangeM a0 => exact actI_plain (fun g id e => r_rangeM_eq a0 g id e) nid n i bef dst e h
    case rangeS a0 => exact actI_plain (fun g id e => r_rangeS_eq a0 g id e) nid n i bef dst e h
    case nextS a0 => exact actI_plain (fun g id e => r_nextS_eq a0 g id e) nid n i bef dst e h
    case nextM => rfl
    case entry a0 => exact actI_plain (fun g id e => r_entry_eq a0 g id e) nid n i bef dst e h
    case assertC a0 a1 a2 a3 => exact actI_plain (fun g id e => r_assertC_eq a0 a1 a2 a3 g id e) nid n i bef dst e h
    case extract a0 a1 => exact actI_plain (fun g id e => r_extract_eq a0 a1 g id e) nid n i bef dst e h
    case lenStr a0 => exact actI_plain (fun g id e => r_lenStr_eq a0 g id e) nid n i bef dst e h
    case lenSlice a0 => exact actI_plain (fun g id e => r_lenSlice_eq a0 g id e) nid n i bef dst e h
    case lenMap a0 => exact actI_plain (fun g id e => r_lenMap_eq a0 g id e) nid n i bef dst e h
    case append a0 a1 a2 a3 => exact actI_plain (fun g id e => r_append_eq a0 a1 a2 a3 g id e) nid n i bef dst e h
    case copy a0 a1 a2 => exact actI_plain (fun g id e => r_copy_eq a0 a1 a2 g id e) nid n i bef dst e h
    case delete a0 a1 a2 => exact actI_plain (fun g id e => r_delete_eq a0 a1 a2 g id e) nid n i bef dst e h
    case minmax a0 a1 a2 => exact actI_plain (fun g id e => r_minmax_eq a0 a1 a2 g id e) nid n i bef dst e h
    case call f args =>
      show actCall cx f args nid n i bef dst e h = _
      unfold actCall
      simp only [valR_eq, seenR_eq, putDstR_eq, callSumR_eq]
      rfl
    case recover => rfl
    case defer => rfl
    case panic => rfl
    case runeS a0 => exact actI_plain (fun g id e => r_runeS_eq a0 g id e) nid n i bef dst e h
    case bad => rfl

def actAllR (nid n : Nat) (l : List (O × List Nat)) : Nat → Env × Heap → Option (Env × Heap) := List.rec (motive := fun _ => Nat → Env × Heap → Option (Env × Heap)) (fun _ s => some s)
  (fun p _ r i s => Option.rec none (fun s => r (Nat.succ i) s) (actOpR cx nid n i p.1 p.2 s)) l
theorem actAllR_eq (nid n : Nat) : ∀ (l : List (O × List Nat)) (i : Nat) (s : Env × Heap), actAllR cx nid n l i s = actAll cx nid n i l s
  | [], i, s => rfl
  | (o, bef) :: l, i, s => by
    show Option.rec (motive := fun _ => Option (Env × Heap)) none (fun s => actAllR cx nid n l (i + 1) s) (actOpR cx nid n i o bef s) = _
    rw [actOpR_eq]
    simp only [actAll]
    cases actOp cx nid n i o bef s with
    | none => rfl
    | some s => exact actAllR_eq nid n l (i + 1) s
end

section
variable {Ω : Type} [Ans Ω] (cx : Ctx)

abbrev CallR (Ω : Type) := FuncId → List V → Heap → Nat → (End → Heap → Nat → Ω) → Ω
abbrev KR (Ω : Type) := Ex → FSt → Ω
abbrev StepT (Ω : Type) := CallR Ω → Yld Ω → (FSt → KR Ω → Ω) → Option Nat → FSt → KR Ω → Ω
/-- How a value is taken: as it stands, or its number first. -/
abbrev Taker (Ω : Type) := V → (V → Ω) → Ω
def asIs : Taker Ω := fun v k => k v
def forced : Taker Ω := fun v k => match v with
  | .int kd n => Int.rec (motive := fun _ => Ω) (fun a => Nat.rec (motive := fun _ => Ω) (k (.int kd (.ofNat 0))) (fun b _ => k (.int kd (.ofNat (Nat.succ b)))) a) (fun a => k (.int kd (.negSucc a))) n
  | .bool b => Bool.rec (k (.bool false)) (k (.bool true)) b
  | v => k v
omit [Ans Ω] in
theorem asIs_eq (v : V) (k : V → Ω) : asIs v k = k v := rfl
omit [Ans Ω] in
theorem forced_eq (v : V) (k : V → Ω) : forced v k = k v := by
  cases v
  case int kd n =>
    cases n with
    | ofNat a => cases a <;> rfl
    | negSucc a => rfl
  case bool b => cases b <;> rfl
  all_goals rfl
variable (tk : Taker Ω)

def stPlain (f : View → Nat → Env → Option Eff) : StepT Ω := fun _ _ r dst st K =>
  Option.rec Ans.ff (fun eff => tk eff.val fun v => r { env := putDstR st.env dst v, h := eff.heapR st.nid st.h, nid := Nat.succ st.nid, dfr := st.dfr } K) (f (T.getR st.h) st.nid st.env)
def stNone : StepT Ω := fun _ _ _ _ _ _ => Ans.ff
def afterCall (r : FSt → KR Ω → Ω) (dst : Option Nat) (st : FSt) (K : KR Ω) : End → Heap → Nat → Ω := fun e h nid => match e with
  | .returned v => r { st with env := putDstR st.env dst v, h, nid } K
  | .panicked ch => K (.panic ch) { st with h, nid }
def stCall (f : X) (args : List X) : StepT Ω := fun call yld r dst st K => match resolve (f.valR st.env) (args.map fun x => x.valR st.env) with
  | some (f, args) => call f args st.h (Nat.succ st.nid) (afterCall r dst st K)
  | none => match yielder (f.valR st.env) with
    | some b => yld b (args.map fun x => x.valR st.env) st.h (Nat.succ st.nid) (afterCall r dst st K)
    | none => Ans.ff
def stDefer (f : X) (args : List X) : StepT Ω := fun _ _ r dst st K => match resolve (f.valR st.env) (args.map fun x => x.valR st.env) with
  | some (f, args) => r { st with env := putDstR st.env dst V.undef, nid := Nat.succ st.nid, dfr := .call f args :: st.dfr } K
  | none => Ans.ff
def stPanic (x : X) : StepT Ω := fun _ _ r dst st K => match x.valR st.env with
  | .iface t v => K (.panic [.iface t v]) { st with nid := Nat.succ st.nid }
  | _ => Ans.ff
def stNext (it : X) : StepT Ω := fun _ _ r dst st K => match nextM st.h (it.valR st.env) with
  | some cs => Ans.all (cs.map fun c => r { st with env := putDstR st.env dst c.1, nid := Nat.succ st.nid, h := match c.2 with | some (b, obj) => st.h.set b obj | none => st.h } K)
  | none => Ans.ff
def stI (i : I) : StepT Ω := I.rec (motive := fun _ => StepT Ω)
  (fun a0 => stPlain asIs (r_mov a0))
  (fun a0 a1 a2 => stPlain asIs (r_pick a0 a1 a2))
  (fun a0 => stPlain asIs (r_new a0))
  (fun a0 => stPlain asIs (r_box a0))
  (fun a0 a1 => stPlain asIs (r_build a0 a1))
  (fun a0 a1 a2 a3 => stPlain asIs (r_buildSlice a0 a1 a2 a3))
  (fun a0 a1 a2 => stPlain asIs (r_load a0 a1 a2))
  (fun a0 a1 a2 => stPlain asIs (r_store a0 a1 a2))
  (fun a0 => stPlain asIs (r_nilCheck a0))
  (fun a0 a1 a2 => stPlain tk (r_bin a0 a1 a2))
  (fun a0 a1 a2 a3 => stPlain tk (r_eq a0 a1 a2 a3))
  (fun a0 a1 => stPlain tk (r_un a0 a1))
  (fun a0 a1 => stPlain tk (r_convI a0 a1))
  (fun a0 => stPlain asIs (r_convId a0))
  (fun a0 => stPlain asIs (r_bytesOf a0))
  (fun a0 => stPlain asIs (r_strOf a0))
  (fun a0 a1 => stPlain asIs (r_iface a0 a1))
  (fun a0 a1 a2 => stPlain asIs (r_func a0 a1 a2))
  (fun a0 => stPlain asIs (r_mkMap a0))
  (fun a0 a1 a2 a3 a4 => stPlain asIs (r_mkSlice a0 a1 a2 a3 a4))
  (fun a0 a1 a2 => stPlain asIs (r_sliceS a0 a1 a2))
  (fun a0 a1 a2 a3 a4 => stPlain asIs (r_sliceL a0 a1 a2 a3 a4))
  (fun a0 a1 => stPlain asIs (r_fieldAddr a0 a1))
  (fun a0 a1 a2 a3 => stPlain asIs (r_field a0 a1 a2 a3))
  (fun a0 a1 a2 => stPlain asIs (r_indexAddrS a0 a1 a2))
  (fun a0 a1 a2 a3 => stPlain asIs (r_indexAddrA a0 a1 a2 a3))
  (fun a0 a1 a2 a3 a4 => stPlain asIs (r_indexA a0 a1 a2 a3 a4))
  (fun a0 a1 => stPlain tk (r_indexStr a0 a1))
  (fun a0 a1 a2 a3 a4 => stPlain asIs (r_lookup a0 a1 a2 a3 a4))
  (fun a0 a1 a2 a3 => stPlain asIs (r_mapSet a0 a1 a2 a3))
  (fun a0 => stPlain asIs (r_rangeM a0))
  (fun a0 => stPlain asIs (r_rangeS a0))
  (fun a0 => stPlain asIs (r_nextS a0))
  (fun x => stNext x)
  (fun a0 => stPlain asIs (r_entry a0))
  (fun a0 a1 a2 a3 => stPlain asIs (r_assertC a0 a1 a2 a3))
  (fun a0 a1 => stPlain asIs (r_extract a0 a1))
  (fun a0 => stPlain tk (r_lenStr a0))
  (fun a0 => stPlain tk (r_lenSlice a0))
  (fun a0 => stPlain tk (r_lenMap a0))
  (fun a0 a1 a2 a3 => stPlain asIs (r_append a0 a1 a2 a3))
  (fun a0 a1 a2 => stPlain asIs (r_copy a0 a1 a2))
  (fun a0 a1 a2 => stPlain asIs (r_delete a0 a1 a2))
  (fun a0 a1 a2 => stPlain tk (r_minmax a0 a1 a2))
  (fun f args => stCall f args)
  (stNone)
  (fun f args => stDefer f args)
  (fun x => stPanic x)
  (fun a0 => stPlain asIs (r_runeS a0))
  (stNone)
  i
def evOpsR (call : CallR Ω) (yld : Yld Ω) (l : List O) : FSt → KR Ω → Ω := List.rec (motive := fun _ => FSt → KR Ω → Ω) (fun st K => K .normal st)
  (fun o _ r st K => cond (wantedR st.env o.guard) (stI tk o.i call yld r o.dst st K) (r { env := putDstR st.env o.dst V.undef, h := st.h, nid := Nat.succ st.nid, dfr := st.dfr } K)) l

variable {tk} (htk : ∀ v k, tk v k = k v)
include htk
theorem stPlain_eq {f : View → Nat → Env → Option Eff} {op : I} (h : ∀ g id e, f g id e = evI g id e op) (call : CallR Ω) (yld : Yld Ω) (r : FSt → KR Ω → Ω) (dst : Option Nat) (st : FSt) (K : KR Ω) :
    stPlain tk f call yld r dst st K = match evI st.h.get st.nid st.env op with
      | some eff => r { st with env := putDst st.env dst eff.val, h := eff.heap st.nid st.h, nid := st.nid + 1 } K
      | none => Ans.ff := by
  unfold stPlain
  rw [h, getR_fun]
  cases evI st.h.get st.nid st.env op with
  | none => rfl
  | some eff => simp only [htk, putDstR_eq, heapR_eq]

omit [Ans Ω] htk in
theorem afterCall_eq (r : FSt → KR Ω → Ω) (dst : Option Nat) (st : FSt) (K : KR Ω) : afterCall r dst st K = fun e h nid => match e with
    | .returned v => r { st with env := putDst st.env dst v, h, nid } K
    | .panicked ch => K (.panic ch) { st with h, nid } := by
  funext e h nid
  cases e <;> simp only [afterCall, putDstR_eq]

theorem evOpsR_eq (call : CallR Ω) (yld : Yld Ω) : ∀ (l : List O) (st : FSt) (K : KR Ω), evOpsR tk call yld l st K = evOps call yld l st K
  | [], st, K => rfl
  | o :: l, st, K => by
    have ih := evOpsR_eq call yld l
    have ihf : evOpsR tk call yld l = evOps call yld l := funext fun st => funext fun K => ih st K
    obtain ⟨dst, op, guard⟩ := o
    show cond (wantedR st.env guard) (stI tk op call yld (evOpsR tk call yld l) dst st K) (evOpsR tk call yld l { env := putDstR st.env dst V.undef, h := st.h, nid := st.nid + 1, dfr := st.dfr } K) = _
    rw [ihf]
    conv => rhs; unfold evOps
    simp only [wantedR_eq]
    cases hw : wanted st.env guard with
    | false => rw [if_neg (by simp), putDstR_eq]; rfl
    | true =>
      rw [if_pos rfl]
      show stI tk op call yld (evOps call yld l) dst st K = _
      cases op
      case mov a0 => exact stPlain_eq asIs_eq (fun g id e => r_mov_eq a0 g id e) call yld _ dst st K
      case pick a0 a1 a2 => exact stPlain_eq asIs_eq (fun g id e => r_pick_eq a0 a1 a2 g id e) call yld _ dst st K
      case new a0 => exact stPlain_eq asIs_eq (fun g id e => r_new_eq a0 g id e) call yld _ dst st K
      case box a0 => exact stPlain_eq asIs_eq (fun g id e => r_box_eq a0 g id e) call yld _ dst st K
      case build a0 a1 => exact stPlain_eq asIs_eq (fun g id e => r_build_eq a0 a1 g id e) call yld _ dst st K
      case buildSlice a0 a1 a2 a3 => exact stPlain_eq asIs_eq (fun g id e => r_buildSlice_eq a0 a1 a2 a3 g id e) call yld _ dst st K
      case load a0 a1 a2 => exact stPlain_eq asIs_eq (fun g id e => r_load_eq a0 a1 a2 g id e) call yld _ dst st K
      case store a0 a1 a2 => exact stPlain_eq asIs_eq (fun g id e => r_store_eq a0 a1 a2 g id e) call yld _ dst st K
      case nilCheck a0 => exact stPlain_eq asIs_eq (fun g id e => r_nilCheck_eq a0 g id e) call yld _ dst st K
      case bin a0 a1 a2 => exact stPlain_eq htk (fun g id e => r_bin_eq a0 a1 a2 g id e) call yld _ dst st K
      case eq a0 a1 a2 a3 => exact stPlain_eq htk (fun g id e => r_eq_eq a0 a1 a2 a3 g id e) call yld _ dst st K
      case un a0 a1 => exact stPlain_eq htk (fun g id e => r_un_eq a0 a1 g id e) call yld _ dst st K
      case convI a0 a1 => exact stPlain_eq htk (fun g id e => r_convI_eq a0 a1 g id e) call yld _ dst st K
      case convId a0 => exact stPlain_eq asIs_eq (fun g id e => r_convId_eq a0 g id e) call yld _ dst st K
      case bytesOf a0 => exact stPlain_eq asIs_eq (fun g id e => r_bytesOf_eq a0 g id e) call yld _ dst st K
      case strOf a0 => exact stPlain_eq asIs_eq (fun g id e => r_strOf_eq a0 g id e) call yld _ dst st K
      case iface a0 a1 => exact stPlain_eq asIs_eq (fun g id e => r_iface_eq a0 a1 g id e) call yld _ dst st K
      case func a0 a1 a2 => exact stPlain_eq asIs_eq (fun g id e => r_func_eq a0 a1 a2 g id e) call yld _ dst st K
      case mkMap a0 => exact stPlain_eq asIs_eq (fun g id e => r_mkMap_eq a0 g id e) call yld _ dst st K
      case mkSlice a0 a1 a2 a3 a4 => exact stPlain_eq asIs_eq (fun g id e => r_mkSlice_eq a0 a1 a2 a3 a4 g id e) call yld _ dst st K
      case sliceS a0 a1 a2 => exact stPlain_eq asIs_eq (fun g id e => r_sliceS_eq a0 a1 a2 g id e) call yld _ dst st K
      case sliceL a0 a1 a2 a3 a4 => exact stPlain_eq asIs_eq (fun g id e => r_sliceL_eq a0 a1 a2 a3 a4 g id e) call yld _ dst st K
      case fieldAddr a0 a1 => exact stPlain_eq asIs_eq (fun g id e => r_fieldAddr_eq a0 a1 g id e) call yld _ dst st K
      case field a0 a1 a2 a3 => exact stPlain_eq asIs_eq (fun g id e => r_field_eq a0 a1 a2 a3 g id e) call yld _ dst st K
      case indexAddrS a0 a1 a2 => exact stPlain_eq asIs_eq (fun g id e => r_indexAddrS_eq a0 a1 a2 g id e) call yld _ dst st K
      case indexAddrA a0 a1 a2 a3 => exact stPlain_eq asIs_eq (fun g id e => r_indexAddrA_eq a0 a1 a2 a3 g id e) call yld _ dst st K
      case indexA a0 a1 a2 a3 a4 => exact stPlain_eq asIs_eq (fun g id e => r_indexA_eq a0 a1 a2 a3 a4 g id e) call yld _ dst st K
      case indexStr a0 a1 => exact stPlain_eq htk (fun g id e => r_indexStr_eq a0 a1 g id e) call yld _ dst st K
      case lookup a0 a1 a2 a3 a4 => exact stPlain_eq asIs_eq (fun g id e => r_lookup_eq a0 a1 a2 a3 a4 g id e) call yld _ dst st K
      case mapSet a0 a1 a2 a3 => exact stPlain_eq asIs_eq (fun g id e => r_mapSet_eq a0 a1 a2 a3 g id e) call yld _ dst st K
      case rangeM a0 => exact stPlain_eq asIs_eq (fun g id e => r_rangeM_eq a0 g id e) call yld _ dst st K
      case rangeS a0 => exact stPlain_eq asIs_eq (fun g id e => r_rangeS_eq a0 g id e) call yld _ dst st K
      case nextS a0 => exact stPlain_eq asIs_eq (fun g id e => r_nextS_eq a0 g id e) call yld _ dst st K
      case nextM x =>
        show stNext x call yld (evOps call yld l) dst st K = _
        unfold stNext
        simp only [valR_eq, putDstR_eq]
        rfl
      case entry a0 => exact stPlain_eq asIs_eq (fun g id e => r_entry_eq a0 g id e) call yld _ dst st K
      case assertC a0 a1 a2 a3 => exact stPlain_eq asIs_eq (fun g id e => r_assertC_eq a0 a1 a2 a3 g id e) call yld _ dst st K
      case extract a0 a1 => exact stPlain_eq asIs_eq (fun g id e => r_extract_eq a0 a1 g id e) call yld _ dst st K
      case lenStr a0 => exact stPlain_eq htk (fun g id e => r_lenStr_eq a0 g id e) call yld _ dst st K
      case lenSlice a0 => exact stPlain_eq htk (fun g id e => r_lenSlice_eq a0 g id e) call yld _ dst st K
      case lenMap a0 => exact stPlain_eq htk (fun g id e => r_lenMap_eq a0 g id e) call yld _ dst st K
      case append a0 a1 a2 a3 => exact stPlain_eq asIs_eq (fun g id e => r_append_eq a0 a1 a2 a3 g id e) call yld _ dst st K
      case copy a0 a1 a2 => exact stPlain_eq asIs_eq (fun g id e => r_copy_eq a0 a1 a2 g id e) call yld _ dst st K
      case delete a0 a1 a2 => exact stPlain_eq asIs_eq (fun g id e => r_delete_eq a0 a1 a2 g id e) call yld _ dst st K
      case minmax a0 a1 a2 => exact stPlain_eq htk (fun g id e => r_minmax_eq a0 a1 a2 g id e) call yld _ dst st K
      case call f args =>
        show stCall f args call yld (evOps call yld l) dst st K = _
        unfold stCall
        simp only [valR_eq, afterCall_eq]
        rfl
      case recover => rfl
      case defer f args =>
        show stDefer f args call yld (evOps call yld l) dst st K = _
        unfold stDefer
        simp only [valR_eq, putDstR_eq]
        rfl
      case panic x =>
        show stPanic x call yld (evOps call yld l) dst st K = _
        unfold stPanic
        simp only [valR_eq]
        rfl
      case runeS a0 => exact stPlain_eq asIs_eq (fun g id e => r_runeS_eq a0 g id e) call yld _ dst st K
      case bad => rfl

omit htk
variable (tk)
/-! Code. -/
abbrev RunT (Ω : Type) := FSt → KR Ω → Ω
def s_skip : RunT Ω := fun st K => K .normal st
def k_tail (call : CallR Ω) (yld : Yld Ω) (t : List O) (K : KR Ω) : KR Ω := fun x s => match x with | .normal => evOpsR tk call yld t s K | x => K x s
def s_drawn (call : CallR Ω) (yld : Yld Ω) (l : List (O × List Nat)) (t : List O) : RunT Ω := fun st K => Option.rec (walk cx call l l.length (k_tail tk call yld t K) (l.length + 1) (List.range l.length) st) (fun s => evOpsR tk call yld t { env := s.1, h := s.2, nid := Nat.add st.nid l.length, dfr := st.dfr } K) (actAllR cx st.nid l.length l 0 (st.env, st.h))
def k_seq (rb : RunT Ω) (K : KR Ω) : KR Ω := fun x st => match x with | .normal => rb st K | x => K x st
def s_seq (ra rb : RunT Ω) : RunT Ω := fun st K => ra st (k_seq rb K)
def s_cond (c : X) (ra rb : RunT Ω) : RunT Ω := fun st K => match c.valR st.env with
  | .bool true => ra st K
  | .bool false => rb st K
  | _ => Ans.ff
def k_block (id : Nat) (K : KR Ω) : KR Ω := fun x st => match x with | .exit j => cond (Nat.beq j id) (K .normal st) (K (.exit j) st) | x => K x st
def s_block (id : Nat) (ra : RunT Ω) : RunT Ω := fun st K => ra st (k_block id K)
def k_iter (ih : RunT Ω) (K : KR Ω) : KR Ω := fun x st => match x with | .normal => ih st K | x => K x st
def iterR (body : RunT Ω) (m : Nat) : RunT Ω := Nat.rec (motive := fun _ => RunT Ω) (fun _ _ => Ans.ff) (fun _ ih st K => body st (k_iter ih K)) m
def k_scope (l : Nat) (rr : RunT Ω) (m : Nat) (K : KR Ω) : KR Ω := fun x st => match x with | .goto l' => if l' = l then passes l rr m st K else Ans.ff | x => K x st
def s_scope (m l : Nat) (ra rr : RunT Ω) : RunT Ω := fun st K => ra st (k_scope l rr m K)
def s_range (call : Yld Ω → CallR Ω) (yld : Yld Ω) (x : X) (ps : List Nat) (ra rb : RunT Ω) : RunT Ω := fun st K => match resolve (x.valR st.env) [.func (.yield (st.nid + 1)) [] []] with
    | some (f, args) =>
      if (cx.fn f).isSome then
        call (rounds ra rb (st.nid + 1) ps st.env yld)
          f args ((st.h.set st.nid .shut).set (st.nid + 1) (.loop false)) (st.nid + 2) fun e h nid => match e with
            | .returned _ => if isLoop (h.get (st.nid + 1)) false then K .normal { st with h := h.put (st.nid + 1) none, nid, dfr := .mark st.nid :: st.dfr } else Ans.ff
            | .panicked _ => Ans.ff
      else Ans.ff
    | none => Ans.ff

def evCR (call : Yld Ω → CallR Ω) (yld : Yld Ω) (m : Nat) (c : C) : RunT Ω := C.rec (motive := fun _ => RunT Ω)
  s_skip (fun l => evOpsR tk (call yld) yld l) (fun l t => s_drawn cx tk (call yld) yld l t) (fun _ _ ra rb => s_seq ra rb) (fun c _ _ ra rb => s_cond c ra rb) (fun id _ ra => s_block id ra) (fun _ ra => iterR ra m)
  (fun id st K => K (.exit id) st) (fun st K => K .ret st) (fun _ st K => K .normal st) (fun l st K => K (.goto l) st) (fun _ l _ ra rr => s_scope m l ra rr) (fun x ps _ _ ra rb => s_range cx call yld x ps ra rb) c

variable {tk}
theorem iterR_eq (body : RunT Ω) : ∀ (m : Nat) (st : FSt) (K : KR Ω), iterR body m st K = iter body m st K
  | 0, st, K => rfl
  | m + 1, st, K => by
    show body st (k_iter (iterR body m) K) = _
    unfold iter
    congr 1
    funext x st
    cases x <;> simp only [k_iter]
    exact iterR_eq body m st K

include htk
theorem evCR_eq (call : Yld Ω → CallR Ω) (yld : Yld Ω) (m : Nat) : ∀ (c : C) (st : FSt) (K : KR Ω), evCR cx tk call yld m c st K = evC cx call yld m c st K
  | .skip, st, K => rfl
  | .ops l, st, K => evOpsR_eq htk _ _ l st K
  | .drawn l t, st, K => by
    show s_drawn cx tk (call yld) yld l t st K = _
    unfold s_drawn
    rw [actAllR_eq]
    simp only [evC]
    cases actAll cx st.nid l.length 0 l (st.env, st.h) with
    | none =>
      have ek : k_tail tk (call yld) yld t K = fun x s => match x with | .normal => evOps (call yld) yld t s K | x => K x s := by
        funext x s
        cases x <;> simp only [k_tail]
        exact evOpsR_eq htk _ _ t s K
      simp only [ek]
      rfl
    | some s => exact evOpsR_eq htk _ _ t _ K
  | .seq a b, st, K => by
    show evCR cx tk call yld m a st (k_seq (evCR cx tk call yld m b) K) = _
    rw [evCR_eq call yld m a]
    simp only [evC]
    congr 1
    funext x st
    cases x <;> simp only [k_seq]
    exact evCR_eq call yld m b st K
  | .cond c a b, st, K => by
    show s_cond c (evCR cx tk call yld m a) (evCR cx tk call yld m b) st K = _
    unfold s_cond
    simp only [valR_eq, evCR_eq call yld m a, evCR_eq call yld m b]
    rfl
  | .block id a, st, K => by
    show evCR cx tk call yld m a st (k_block id K) = _
    rw [evCR_eq call yld m a]
    simp only [evC]
    congr 1
    funext x st
    cases x <;> simp only [k_block]
    rename_i j
    cases h : Nat.beq j id with
    | true => rw [if_pos (Nat.eq_of_beq_eq_true h)]; rfl
    | false => rw [if_neg (Nat.ne_of_beq_eq_false h)]; rfl
  | .loop a, st, K => by
    show iterR (evCR cx tk call yld m a) m st K = _
    rw [iterR_eq]
    simp only [evC]
    congr 1
    funext st K
    exact evCR_eq call yld m a st K
  | .exit id, st, K => rfl
  | .ret, st, K => rfl
  | .label l, st, K => rfl
  | .goto l, st, K => rfl
  | .scope a l rest, st, K => by
    have e : evCR cx tk call yld m rest = fun st K => evC cx call yld m rest st K := funext fun st => funext fun K => evCR_eq call yld m rest st K
    show evCR cx tk call yld m a st (k_scope l (evCR cx tk call yld m rest) m K) = _
    rw [evCR_eq call yld m a, e]
    simp only [evC]
    congr 1
  | .rangeF x ps a b, st, K => by
    have ea : evCR cx tk call yld m a = fun st K => evC cx call yld m a st K := funext fun st => funext fun K => evCR_eq call yld m a st K
    have eb : evCR cx tk call yld m b = fun st K => evC cx call yld m b st K := funext fun st => funext fun K => evCR_eq call yld m b st K
    show s_range cx call yld x ps (evCR cx tk call yld m a) (evCR cx tk call yld m b) st K = _
    unfold s_range
    rw [ea, eb]
    simp only [valR_eq]
    rfl

omit htk
variable (tk)
def initEnvR (l : List V) : Nat → Env → Env := List.rec (motive := fun _ => Nat → Env → Env) (fun _ e => e) (fun v _ r i e => r (Nat.succ i) (T.putR e i (some v))) l
theorem initEnvR_eq : ∀ (l : List V) (i : Nat) (e : Env), initEnvR l i e = initEnv i l e
  | [], i, e => rfl
  | v :: l, i, e => by
    show initEnvR l (i + 1) (T.putR e i (some v)) = _
    rw [T.putR_eq]
    exact initEnvR_eq l (i + 1) _

def k_call (run : C → RunT Ω) (fn : AFn) (K : End → Heap → Nat → Ω) : KR Ω := fun x st => match x with
  | .normal => leave cx run st.dfr none st.h st.nid (ends fn st.env K)
  | .ret => leave cx run st.dfr none st.h st.nid (ends fn st.env K)
  | .panic ch => leave cx run st.dfr (some ch) st.h st.nid (ends fn st.env K)
  | .exit _ => Ans.ff
  | .goto _ => Ans.ff

def callOne (m : Nat) (ih : Yld Ω → CallR Ω) (yld : Yld Ω) (f : FuncId) (args : List V) (h : Heap) (nid : Nat) (K : End → Heap → Nat → Ω) : Ω :=
  match cx.sum f with
  | some F => (match callSumFR h F args with
    | some (v, h) => K (.returned v) h nid
    | none => Ans.ff)
  | none => cond (cx.clone f) (cloneMap args h nid K) (match cx.fn f with
    | some fn => evCR cx tk ih yld m fn.body { env := initEnvR args 0 .leaf, h := h, nid := nid, dfr := [] } (k_call cx (fun c => evCR cx tk ih noYld m c) fn K)
    | none => Ans.ff)

def callR (m n : Nat) : Yld Ω → CallR Ω := Nat.rec (motive := fun _ => Yld Ω → CallR Ω) (fun _ _ _ _ _ _ => Ans.ff) (fun _ ih yld f args h nid K => callOne cx tk m ih yld f args h nid K) n

variable {tk}
include htk
theorem callR_eq (m : Nat) : ∀ (n : Nat) (yld : Yld Ω) (f : FuncId) (args : List V) (h : Heap) (nid : Nat) (K : End → Heap → Nat → Ω), callR cx tk m n yld f args h nid K = callF cx m n yld f args h nid K
  | 0, yld, f, args, h, nid, K => rfl
  | n + 1, yld, f, args, h, nid, K => by
    have e : callR (Ω := Ω) cx tk m n = callF cx m n := by
      funext yld f args h nid K
      exact callR_eq m n yld f args h nid K
    show callOne cx tk m (callR cx tk m n) yld f args h nid K = _
    unfold callOne callF
    rw [e]
    cases cx.sum f with
    | some F =>
      simp only [callSumFR_eq]
      cases callSumF h F args <;> rfl
    | none =>
      cases hc : cx.clone f with
      | true => simp only [if_true]; rfl
      | false =>
        cases cx.fn f with
        | none => rfl
        | some fn =>
          have er : (fun c => evCR cx tk (callF cx m n) noYld m c) = fun c st K => evC cx (callF cx m n) noYld m c st K := by
            funext c st K
            exact evCR_eq cx htk _ _ _ c st K
          simp only [evCR_eq cx htk, initEnvR_eq, er, Bool.false_eq_true, if_false, cond_false]
          congr 1
end

def testRunR (cx : Ctx) (m n : Nat) (f : FuncId) (args : List V) (chk : V → Bool) : Bool :=
  callR (Ω := Bool) cx forced m n noYld f args .leaf 0 fun e h _ => match e with
    | .returned r => match reifyR (T.getR h) deep r with
      | some v => chk v
      | none => false
    | _ => false
theorem testRunR_eq (cx : Ctx) (m n : Nat) (f : FuncId) (args : List V) (chk : V → Bool) : testRunR cx m n f args chk = testRun cx m n f args chk := by
  unfold testRunR testRun
  rw [callR_eq cx forced_eq]
  simp only [getR_fun, reifyR_eq]
  try rfl

theorem Tells.of_testR {cx : Ctx} {m n : Nat} {f : FuncId} {args : List V} {v : V} {chk : V → Bool} (hchk : ∀ u, chk u = true → u = v) (h : testRunR cx m n f args chk = true) : Tells cx f args v :=
  Tells.of_test hchk ((testRunR_eq ..).symm.trans h)

def autoR (cx : Ctx) (m n : Nat) (f : FuncId) (args : List V) : Option V :=
  (callR (Ω := OptV) cx forced m n noYld f args .leaf 0 fun e h _ => match e with
    | .returned r => ⟨reifyR (T.getR h) deep r⟩
    | _ => ⟨none⟩).v
theorem autoR_eq (cx : Ctx) (m n : Nat) (f : FuncId) (args : List V) : autoR cx m n f args = auto cx m n f args := by
  unfold autoR auto
  rw [callR_eq cx forced_eq]
  simp only [getR_fun, reifyR_eq]
  rfl
theorem PureSpec.of_autoR {P : Program} {gl : Nat → Option (List V)} {cx : Ctx} (hm : P.follows .mixedOrders = true) (H : CtxOk P gl cx) (m n : Nat) (f : FuncId) : PureSpec P gl f (autoR cx m n f) := by
  have e : autoR cx m n f = auto cx m n f := funext fun args => autoR_eq cx m n f args
  rw [e]
  exact PureSpec.of_auto hm H m n f

def pieceR (cx : Ctx) (m n : Nat) (c : C) (st : FSt) : OptS := evCR (Ω := OptS) cx asIs (callR cx forced m n) noYld m c st fun x s => ⟨some (x, s)⟩
def pieceG (cx : Ctx) (m n : Nat) (c : C) (st : FSt) : OptS := evCR (Ω := OptS) cx forced (callR cx forced m n) noYld m c st fun x s => ⟨some (x, s)⟩
def restR (cx : Ctx) (m n : Nat) (c : C) (tb : Ex → FSt → Bool) (st : FSt) : Bool := evCR (Ω := Bool) cx forced (callR cx forced m n) noYld m c st tb
theorem callR_fun {Ω : Type} [Ans Ω] (cx : Ctx) (m n : Nat) : callR (Ω := Ω) cx forced m n = callF cx m n := by
  funext yld f args h nid K
  exact callR_eq cx forced_eq m n yld f args h nid K
theorem pieceR_eq (cx : Ctx) (m n : Nat) (c : C) : pieceR cx m n c = piece cx m n c := by
  funext st
  unfold pieceR piece
  rw [evCR_eq cx asIs_eq, callR_fun]
theorem pieceG_eq (cx : Ctx) (m n : Nat) (c : C) : pieceG cx m n c = piece cx m n c := by
  funext st
  unfold pieceG piece
  rw [evCR_eq cx forced_eq, callR_fun]
theorem restR_eq (cx : Ctx) (m n : Nat) (c : C) (tb : Ex → FSt → Bool) : restR cx m n c tb = rest cx m n c tb := by
  funext st
  unfold restR rest
  rw [evCR_eq cx forced_eq, callR_fun]

/-! Tables of functions. -/
def T.ofList {α : Type} (l : List (Nat × α)) : T α := List.rec (motive := fun _ => T α) .leaf (fun p _ t => T.putR t p.1 (some p.2)) l
theorem T.ofList_mem {α : Type} : ∀ (l : List (Nat × α)) {f : Nat} {a : α}, (T.ofList l).getR f = some a → (f, a) ∈ l
  | [], f, a, h => by cases h
  | p :: l, f, a, h => by
    have e : T.ofList (p :: l) = T.putR (T.ofList l) p.1 (some p.2) := rfl
    rw [e, T.putR_eq, T.getR_eq, T.get_put] at h
    split at h
    · rename_i e; subst e; cases h; exact List.mem_cons_self
    · rw [← T.getR_eq] at h; exact List.mem_cons_of_mem _ (T.ofList_mem l h)
end
end Go.Abs

/-
  ABS, part 34: a function told by a table of its answers.
-/
namespace Go.Abs
open Go
set_option linter.unusedSectionVars false
variable [Syms]

def tabF (l : List (List V × V)) (args : List V) : Option V := (l.find? fun p => V.eqFs p.1 args).map (·.2)

noncomputable def tabRuns (cx : Ctx) (m n : Nat) (f : FuncId) (l : List (List V × V)) : Bool := l.all fun p => testRunR cx m n f p.1 (fun u => V.eqF u p.2)

theorem tab_of {P : Program} {gl : Nat → Option (List V)} {cx : Ctx} (hm : P.follows .mixedOrders = true) (H : CtxOk P gl cx) {m n : Nat} {f : FuncId} {l : List (List V × V)} (h : ∀ p ∈ l, testRunR cx m n f p.1 (fun u => V.eqF u p.2) = true) : PureSpec P gl f (tabF l) := by
  refine PureSpec.of_tells H (drawn_ok hm H) fun args r _ hr => ?_
  unfold tabF at hr
  simp only [Option.map_eq_some_iff] at hr
  obtain ⟨p, hp, rfl⟩ := hr
  have h1 := List.find?_some hp
  have h2 := List.mem_of_find?_eq_some hp
  have e := V.eqFs_eq _ _ h1
  subst e
  exact Tells.of_testR (V.eqF_eq · _) (h p h2)

theorem tab_ok {P : Program} {gl : Nat → Option (List V)} {cx : Ctx} (hm : P.follows .mixedOrders = true) (H : CtxOk P gl cx) {m n : Nat} {f : FuncId} {l : List (List V × V)} (h : tabRuns cx m n f l = true) : PureSpec P gl f (tabF l) :=
  tab_of hm H fun p hp => List.all_eq_true.1 h p hp

theorem tabRuns_append {cx : Ctx} {m n : Nat} {f : FuncId} {l l' : List (List V × V)} (h : tabRuns cx m n f l = true) (h' : tabRuns cx m n f l' = true) : tabRuns cx m n f (l ++ l') = true := by
  unfold tabRuns at *
  rw [List.all_append, h, h']
  rfl

/-! Contexts by tables. -/
theorem ctx_of {P : Program} {g : Nat → Option (List V)} {l : List (Nat × AFn)} {s : List (Nat × (List V → Option V))} (h1 : ∀ f afn, (T.ofList l).getR f = some afn → ∃ fn, P.funcs[f]? = some fn ∧ cFunc P g fn = some afn ∧ (fn.name == "runtime.NumGoroutine") = false)
    (h2 : ∀ p ∈ s, PureSpec P g p.1 p.2) : CtxOk P g { fn := (T.ofList l).getR, sum := (T.ofList s).getR } := { fn := h1, sum := fun _ _ h => h2 _ (T.ofList_mem s h) }
theorem none_of {α : Type} {p : α → Prop} : ∀ x ∈ ([] : List α), p x := fun _ h => nomatch h

/-! A law's text in four pieces: two of them hold an operation whose value is known beforehand. -/
theorem andThen_some {o : OptS} {f : FSt → OptS} {y : Ex × FSt} (h : o.andThen f = ⟨some y⟩) : ∃ s, o = ⟨some (.normal, s)⟩ ∧ f s = ⟨some y⟩ := by
  obtain ⟨v⟩ := o
  unfold OptS.andThen at h
  split at h
  · rename_i s hs
    simp only at hs
    subst hs
    exact ⟨s, rfl, h⟩
  · cases h

theorem law_two {cx : Ctx} {m n : Nat} {c p' q' : C} (i j k : Nat) {st : FSt} {tb : Ex → FSt → Bool}
    (h1 : pieceR cx m n (c.front i) st = pieceR cx m n p' st)
    (h2 : ((pieceR cx m n p' st).andThen (pieceG cx m n ((c.back i).front j))).andThen (pieceR cx m n (((c.back i).back j).front k)) = ((pieceR cx m n p' st).andThen (pieceG cx m n ((c.back i).front j))).andThen (pieceR cx m n q'))
    (h3 : (((pieceR cx m n p' st).andThen (pieceG cx m n ((c.back i).front j))).andThen (pieceR cx m n q')).test (restR cx m n (((c.back i).back j).back k) tb) = true) :
    evC (Ω := Prop) cx (callF cx m n) noYld m c st fun x s => tb x s = true := by
  obtain ⟨s3, e3, hr⟩ := test_some h3
  rw [e3] at h2
  obtain ⟨s2, e2, e3'⟩ := andThen_some h2
  obtain ⟨s1, e1, e2'⟩ := andThen_some e2
  rw [pieceR_eq] at h1 e1 e3'
  rw [pieceR_eq] at h1
  rw [pieceG_eq] at e2'
  rw [restR_eq] at hr
  rw [evC_cut i]
  refine seq_piece (h1.trans e1) ?_
  rw [evC_cut j]
  refine seq_piece e2' ?_
  rw [evC_cut k]
  exact seq_piece e3' (rest_ok hr)

/-- Where a slot's value is known beforehand, in an open region too. -/
def C.knownD (d : Nat) (v : V) : C → C
  | .ops l => .ops (l.map fun o => if o.dst == some d then ⟨o.dst, .mov (.const v), o.guard⟩ else o)
  | .drawn l t => .drawn (l.map fun p => if p.1.dst == some d then (⟨p.1.dst, .mov (.const v), p.1.guard⟩, p.2) else p) (t.map fun o => if o.dst == some d then ⟨o.dst, .mov (.const v), o.guard⟩ else o)
  | .seq a b => .seq (a.knownD d v) (b.knownD d v)
  | c => c

def init2 (k l : IntKind) (a b : Int) : FSt := { env := initEnv 0 [.int k a, .int l b] .leaf, h := .leaf, nid := 0, dfr := [] }
end Go.Abs

/-
  ABS, part 35: a law of two numbers, told in pieces.
-/
namespace Go.Abs
open Go
set_option linter.unusedSectionVars false
variable [Syms]

def OptS.st (o : OptS) : FSt := match o.v with
  | some (_, s) => s
  | none => { env := .leaf, h := .leaf, nid := 0, dfr := [] }

theorem Tells.of_law2 {cx : Ctx} {m n : Nat} {f : FuncId} {fn : AFn} {k l : IntKind} {a b : Int} {p' q' : C} (i j z : Nat) (hs : cx.sum f = none) (hcl : cx.clone f = false) (hf : cx.fn f = some fn)
    (h1 : pieceR cx m n (fn.body.front i) (init2 k l a b) = pieceR cx m n p' (init2 k l a b))
    (h2 : ((pieceR cx m n p' (init2 k l a b)).andThen (pieceG cx m n ((fn.body.back i).front j))).andThen (pieceR cx m n (((fn.body.back i).back j).front z)) = ((pieceR cx m n p' (init2 k l a b)).andThen (pieceG cx m n ((fn.body.back i).front j))).andThen (pieceR cx m n q'))
    (h3 : (((pieceR cx m n p' (init2 k l a b)).andThen (pieceG cx m n ((fn.body.back i).front j))).andThen (pieceR cx m n q')).test (restR cx m n (((fn.body.back i).back j).back z) (yes fn.results)) = true) :
    Tells cx f [.int k a, .int l b] (.bool true) :=
  Tells.of_body hs hcl hf (law_two i j z h1 h2 h3)

theorem wrapR_small {a : Int} (h0 : 0 ≤ a) (h1 : a < 9223372036854775808) : wrapR .i64 a = a := by
  rw [wrapR_eq]
  unfold IntKind.wrap
  simp [IntKind.bits, IntKind.signed]
  omega
end Go.Abs
