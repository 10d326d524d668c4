/-
  ABS, part 22: a run's state, told; operations one by one.
-/
import Derived.Test.YtfmdgjnjfmgbmaaGreatDoorAbs21
import Derived.CallsIn
import Derived.RangeFuncRecord
import Derived.RecoverIn
namespace Go.Abs
open Go Go.RowKit
set_option linter.unusedSectionVars false
variable [Syms]

/-- The fence that asks nothing, in a frame or in a round of a loop. -/
abbrev fence (r : Option Nat) : Fence := { Fence.wide with round := r }

theorem callsIn_free {P : Program} {r : Option Nat} {n : Nat} {f : FuncId} {args : Array Value} {w : World} {R : Ending → World → Prop} (h : Calls P f args w R) : CallsIn (fence r) n P f args w R :=
  (callsIn_wide (n := n)).2 h

theorem calls_free {P : Program} {r : Option Nat} {n : Nat} {f : FuncId} {args : Array Value} {w : World} {R : Ending → World → Prop} (h : CallsIn (fence r) n P f args w R) : Calls P f args w R :=
  (callsIn_wide (n := n)).1 h

/-- What an activation has put off: loops' marks, and calls. -/
def DfrRel (M : Mem) (β : Places) : List Dfr → List Deferred → Prop
  | [], l => l = []
  | .mark d :: ds, l => ∃ i rest, β d = some i ∧ l = { target := .collected i.blk, args := #[] } :: rest ∧ DfrRel M β ds rest
  | .call f args :: ds, l => ∃ (dargs captured : Array Value) (rest : List Deferred), l = { target := .fn (.func f) captured, args := dargs } :: rest ∧ RelL M β args (dargs ++ captured).toList ∧ DfrRel M β ds rest

theorem DfrRel.mono {M M' : Mem} {β β' : Places} (hM : M.le M') (hβ : β.le β') : ∀ {ds : List Dfr} {l : List Deferred}, DfrRel M β ds l → DfrRel M' β' ds l
  | [], _, h => h
  | .mark _ :: _, _, ⟨i, rest, h1, h2, h3⟩ => ⟨i, rest, hβ _ _ h1, h2, h3.mono hM hβ⟩
  | .call _ _ :: _, _, ⟨d, c, rest, h1, h2, h3⟩ => ⟨d, c, rest, h1, h2.mono hM hβ, h3.mono hM hβ⟩

structure Cfg (gl : Nat → Option (List V)) (M : Mem) (β : Places) (N : Nat) (w0 : World) (st : FSt) (a : Act) (w : World) : Prop where
  globs : Globs gl M
  env : EnvRel M β N st.env a
  sim : Sim M β st.h.get w0 w
  fresh : ∀ b, st.nid ≤ b → β b = none
  dfr : DfrRel M β st.dfr a.defers

def ChainRel (M : Mem) (β : Places) : List V → List PanicEntry → Prop
  | [], c => c = []
  | v :: l, c => ∃ p c', c = p :: c' ∧ Rel M β v p.v ∧ p.recovered = false ∧ p.goexit = false ∧ ChainRel M β l c'

def ExRel (M : Mem) (β : Places) : Ex → Exit → Prop
  | .normal, .normal => True
  | .exit i, .exit j => i = j
  | .goto i, .goto j => i = j
  | .ret, .ret => True
  | .panic ch, .panic c => ChainRel M β ch c
  | _, _ => False

/-- What has come to be held lies above a bound. -/
def Mem.above (B : Nat) (M M' : Mem) : Prop := (∀ a c, M'.c a = some c → M.c a = some c ∨ B ≤ a.block) ∧ ∀ r o, M'.o r = some o → M.o r = some o ∨ B ≤ r

theorem Mem.above.refl (B : Nat) (M : Mem) : M.above B M := ⟨fun _ _ h => .inl h, fun _ _ h => .inl h⟩
theorem Mem.above.trans {B : Nat} {M1 M2 M3 : Mem} (h : M1.above B M2) (k : M2.above B M3) : M1.above B M3 :=
  ⟨fun a c e => (k.1 a c e).elim (h.1 a c) .inr, fun a c e => (k.2 a c e).elim (h.2 a c) .inr⟩

/-- More is held, and that above a bound. -/
def Mem.on (B : Nat) (M M' : Mem) : Prop := M.le M' ∧ M.above B M'
theorem Mem.on.refl (B : Nat) (M : Mem) : M.on B M := ⟨.refl M, .refl B M⟩
theorem Mem.on.trans {B : Nat} {M1 M2 M3 : Mem} (h : M1.on B M2) (k : M2.on B M3) : M1.on B M3 := ⟨h.1.trans k.1, h.2.trans k.2⟩

/-- What holds at a way out. -/
def Post (gl : Nat → Option (List V)) (N : Nat) (w0 : World) (M0 : Mem) (β0 : Places) (K : Ex → FSt → Prop) : Exit → Act → World → Prop :=
  fun x a w => ∃ M β ex st, M0.on w0.heap.size M ∧ β0.le β ∧ Cfg gl M β N w0 st a w ∧ ExRel M β ex x ∧ K ex st

def EndRel (M : Mem) (β : Places) : End → Ending → Prop
  | .returned v, .returned c => Rel M β v c
  | .panicked ch, .panicked c => ChainRel M β ch c
  | _, _ => False

def FnOk (P : Program) (f : FuncId) : Prop := ∃ fn, P.funcs[f]? = some fn ∧ fn.body.isNone = false ∧ (fn.name == "runtime.NumGoroutine") = false

abbrev CallF := FuncId → List V → Heap → Nat → (End → Heap → Nat → Prop) → Prop

def CallPost (M : Mem) (β : Places) (w0 : World) (K : End → Heap → Nat → Prop) : Ending → World → Prop :=
  fun e w' => ∃ M' β' en h' nid', M.on w0.heap.size M' ∧ β.le β' ∧ Sim M' β' h'.get w0 w' ∧ (∀ b, nid' ≤ b → β' b = none) ∧ EndRel M' β' en e ∧ K en h' nid'

/-- A call, as an operation finds it: of a function with a body, or of one that the model has at hand. -/
def OpCall (P : Program) (f : FuncId) (args : Array Value) (w : World) (R : Ending → World → Prop) : Prop :=
  (FnOk P f ∧ Calls P f args w R) ∨ ∃ c w', (callFunc f args).run P w = .ok (.value c) w' ∧ R (.returned c) w'

theorem OpCall.mono {P : Program} {f : FuncId} {args : Array Value} {w : World} {R R' : Ending → World → Prop} (h : OpCall P f args w R) (hr : ∀ e w', R e w' → R' e w') : OpCall P f args w R' :=
  h.imp (fun ⟨a, b⟩ => ⟨a, b.mono hr⟩) fun ⟨c, w', a, b⟩ => ⟨c, w', a, hr _ _ b⟩

/-- Calls are told by the evaluator's call, from some memory and places on. -/
def CallOk (P : Program) (gl : Nat → Option (List V)) (M1 : Mem) (β1 : Places) (call : CallF) : Prop :=
  ∀ f args h nid K, call f args h nid K → ∀ M β w0 w (cargs : List Value), M1.le M → β1.le β → Globs gl M → Sim M β h.get w0 w → (∀ b, nid ≤ b → β b = none) → RelL M β args cargs →
    OpCall P f cargs.toArray w (CallPost M β w0 K)

/-- Rounds of loops over functions are told by the evaluator's yields, from some memory and places on. -/
def YldOk (P : Program) (gl : Nat → Option (List V)) (M1 : Mem) (β1 : Places) (yld : Yld Prop) : Prop :=
  ∀ b args h nid K, yld b args h nid K → ∀ M β w0 w (cargs : List Value) i, M1.le M → β1.le β → Globs gl M → Sim M β h.get w0 w → (∀ b, nid ≤ b → β b = none) → RelL M β args cargs → β b = some i →
    ∃ fn tmps assign body, (Instr.yield i.blk cargs.toArray).run P w = .ok (.round i.blk fn tmps assign body) w ∧ ∀ r, RoundIn (fence r) 0 P i.blk fn tmps assign body w (CallPost M β w0 K)

theorem YldOk.mono {P : Program} {gl : Nat → Option (List V)} {M1 M2 : Mem} {β1 β2 : Places} {yld : Yld Prop} (h : YldOk P gl M1 β1 yld) (hM : M1.le M2) (hβ : β1.le β2) : YldOk P gl M2 β2 yld :=
  fun b args hp nid K hk M β w0 w cargs i h1 h2 => h b args hp nid K hk M β w0 w cargs i (hM.trans h1) (hβ.trans h2)

theorem YldOk.none (P : Program) (gl : Nat → Option (List V)) (M1 : Mem) (β1 : Places) : YldOk P gl M1 β1 noYld := fun _ _ _ _ _ hk => hk.elim

theorem ChainRel.mono {M M' : Mem} {β β' : Places} (hM : M.le M') (hβ : β.le β') : ∀ {l : List V} {c : List PanicEntry}, ChainRel M β l c → ChainRel M' β' l c
  | [], _, h => h
  | _ :: _, _, ⟨p, c', h1, h2, h3, h3', h4⟩ => ⟨p, c', h1, h2.mono hM hβ, h3, h3', ChainRel.mono hM hβ h4⟩

theorem rel_bool {M : Mem} {β : Places} {v : V} {b : Bool} (h : Rel M β v (.bool b)) : v = .bool b := by
  cases v <;> simp only [Rel] at h <;> simp_all
  all_goals (try (obtain ⟨_, h, _⟩ := h; cases h))
  all_goals (try (obtain ⟨_, _, h, _⟩ := h; cases h))

section
variable {P : Program} {M M0 : Mem} {β β0 : Places} {w0 w : World} {N : Nat} {a : Act} {gl : Nat → Option (List V)} {st : FSt}

theorem Cfg.wanted (C : Cfg gl M β N w0 st a w) {ops : Array Oper} {o : Oper} {o' : O} (hc : cOper P gl ops o = some o') : Region.wanted o (yielded ops a.tmps) = Abs.wanted st.env o'.guard := by
  unfold cOper at hc
  unfold Region.wanted
  split at hc
  · rename_i hg; cases hc; rw [hg]; rfl
  · rename_i j wt hg
    simp only [Option.map_eq_some_iff] at hc
    obtain ⟨t, ht, rfl⟩ := hc
    rw [hg]
    have hr := C.env.rel t
    rw [Array.getD_eq_getD_getElem?] at hr
    have no : (∀ b, st.env.at t ≠ .bool b) → Abs.wanted st.env (some (t, wt)) = false := fun hnb => by
      simp only [Abs.wanted]
    simp only [yielded, ht, Option.bind_some]
    cases hq : a.tmps[t]? with
    | none =>
      rw [hq, Option.getD_none] at hr
      rw [no fun b hb => by rw [hb] at hr; simp only [Rel] at hr; cases hr]
      exact beq_eq_false_iff_ne.2 (fun h => by cases h)
    | some c =>
      rw [hq, Option.getD_some] at hr
      by_cases hb : ∃ b, c = .bool b
      · obtain ⟨b, rfl⟩ := hb
        simp only [Abs.wanted, rel_bool hr]
        cases b <;> cases wt <;> decide
      · rw [no fun b hb' => by rw [hb'] at hr; simp only [Rel] at hr; exact hb ⟨b, hr⟩]
        cases c <;> first | rfl | (exact absurd ⟨_, rfl⟩ hb)

theorem cOper_spec {ops : Array Oper} {o : Oper} {o' : O} (hc : cOper P gl ops o = some o') : (cOp P gl o.op = some o'.i ∨ o'.i = .bad) ∧ o'.dst = o.dst := by
  have key : ∀ i, (cOp P gl o.op).getD .bad = i → cOp P gl o.op = some i ∨ i = .bad := fun i h => by
    cases e : cOp P gl o.op with
    | none => rw [e] at h; exact .inr h.symm
    | some x => rw [e] at h; exact .inl (congrArg some h)
  unfold cOper at hc
  split at hc
  · cases hc; exact ⟨key _ rfl, rfl⟩
  · simp only [Option.map_eq_some_iff] at hc
    obtain ⟨t, ht, rfl⟩ := hc
    exact ⟨key _ rfl, rfl⟩

/-- A value lands in its slot. -/
theorem Cfg.land (C : Cfg gl M β N w0 st a w) {M' : Mem} {β' : Places} {h' : Heap} {nid' : Nat} {w' : World} (hM : M.le M') (hβ : β.le β') (S : Sim M' β' h'.get w0 w') (hf : ∀ b, nid' ≤ b → β' b = none) {d : Option Nat} (hd : ∀ t, d = some t → t < N) {v : V} {c : Value} (hr : Rel M' β' v c) :
    Cfg gl M' β' N w0 { st with env := putDst st.env d v, h := h', nid := nid' } (a.put d c) w' where
  globs := C.globs.mono hM
  env := (C.env.mono hM hβ).put hd hr
  sim := S
  fresh := hf
  dfr := by
    have := C.dfr.mono hM hβ
    cases d <;> simpa [Act.put] using this

theorem cOp_call {op : Op} {fx : X} {as : List X} (h : cOp P gl op = some (.call fx as)) : ∃ c f, op = .call c ∧ c.callee = .value f ∧ cX gl f = some fx ∧ cXs gl c.args.toList = some as := by
  cases op
  case defer c =>
    simp only [cOp, Option.bind_eq_some_iff] at h
    obtain ⟨as', has, h⟩ := h
    split at h <;> simp at h
  case call c =>
    simp only [cOp, Option.bind_eq_some_iff] at h
    obtain ⟨as', has, h⟩ := h
    split at h
    · rename_i f hf
      simp only [Option.map_eq_some_iff] at h
      obtain ⟨fx', hfx, h⟩ := h
      cases h
      exact ⟨c, f, rfl, hf, hfx, has⟩
    · cases h
    · (repeat' split at h) <;> simp_all [Option.bind_eq_some_iff]
  case slice t x lo hi mx =>
    simp only [cOp, Option.bind_eq_some_iff] at h
    obtain ⟨_, _, _, _, _, _, _, _, h⟩ := h
    (repeat' split at h) <;> simp_all [Option.bind_eq_some_iff]
    all_goals ((repeat' split at h) <;> simp_all)
  all_goals (simp only [cOp] at h; (repeat' split at h) <;> simp_all [Option.bind_eq_some_iff])

theorem cOp_panic {op : Op} {x' : X} (h : cOp P gl op = some (.panic x')) : ∃ x, op = .panic x ∧ cX gl x = some x' := by
  cases op
  case defer c =>
    simp only [cOp, Option.bind_eq_some_iff] at h
    obtain ⟨as', has, h⟩ := h
    split at h <;> simp at h
  case panic x =>
    simp only [cOp, Option.map_eq_some_iff] at h
    obtain ⟨x'', hx, h⟩ := h
    cases h
    exact ⟨x, rfl, hx⟩
  case call c =>
    simp only [cOp, Option.bind_eq_some_iff] at h
    obtain ⟨as', has, h⟩ := h
    split at h
    · simp at h
    · cases h
    · (repeat' split at h) <;> simp_all [Option.bind_eq_some_iff]
  case slice t x lo hi mx =>
    simp only [cOp, Option.bind_eq_some_iff] at h
    obtain ⟨_, _, _, _, _, _, _, _, h⟩ := h
    (repeat' split at h) <;> simp_all [Option.bind_eq_some_iff]
    all_goals ((repeat' split at h) <;> simp_all)
  all_goals (simp only [cOp] at h; (repeat' split at h) <;> simp_all [Option.bind_eq_some_iff])

theorem cOp_nextM {op : Op} {x' : X} (h : cOp P gl op = some (.nextM x')) : ∃ x, op = .next x false ∧ cX gl x = some x' := by
  cases op
  case defer c =>
    simp only [cOp, Option.bind_eq_some_iff] at h
    obtain ⟨as', has, h⟩ := h
    split at h <;> simp at h
  case next x s =>
    simp only [cOp, Option.map_eq_some_iff] at h
    obtain ⟨x'', hx, h⟩ := h
    cases s
    · cases h; exact ⟨x, rfl, hx⟩
    · cases h
  case call c =>
    simp only [cOp, Option.bind_eq_some_iff] at h
    obtain ⟨as', has, h⟩ := h
    split at h
    · simp at h
    · cases h
    · (repeat' split at h) <;> simp_all [Option.bind_eq_some_iff]
  case slice t x lo hi mx =>
    simp only [cOp, Option.bind_eq_some_iff] at h
    obtain ⟨_, _, _, _, _, _, _, _, h⟩ := h
    (repeat' split at h) <;> simp_all [Option.bind_eq_some_iff]
    all_goals ((repeat' split at h) <;> simp_all)
  all_goals (simp only [cOp] at h; (repeat' split at h) <;> simp_all [Option.bind_eq_some_iff])

theorem cOp_defer {op : Op} {fx : X} {as : List X} (h : cOp P gl op = some (.defer fx as)) : ∃ c f, op = .defer c ∧ c.callee = .value f ∧ cX gl f = some fx ∧ cXs gl c.args.toList = some as := by
  cases op
  case defer c =>
    simp only [cOp, Option.bind_eq_some_iff] at h
    obtain ⟨as', has, h⟩ := h
    split at h
    · rename_i f hf
      simp only [Option.map_eq_some_iff] at h
      obtain ⟨fx', hfx, h⟩ := h
      cases h
      exact ⟨c, f, rfl, hf, hfx, has⟩
    · cases h
  case call c =>
    simp only [cOp, Option.bind_eq_some_iff] at h
    obtain ⟨as', has, h⟩ := h
    split at h
    · simp at h
    · cases h
    · (repeat' split at h) <;> simp_all [Option.bind_eq_some_iff]
  case slice t x lo hi mx =>
    simp only [cOp, Option.bind_eq_some_iff] at h
    obtain ⟨_, _, _, _, _, _, _, _, h⟩ := h
    (repeat' split at h) <;> simp_all [Option.bind_eq_some_iff]
    all_goals ((repeat' split at h) <;> simp_all)
  all_goals (simp only [cOp] at h; (repeat' split at h) <;> simp_all [Option.bind_eq_some_iff])

theorem resolve_rel (G : Globs gl M) {e : Env} (E : EnvRel M β N e a) {c : Call} {t : TypeId} {f : Operand} {fx : X} {as : List X} (hf : cX gl f = some fx) (has : cXs gl c.args.toList = some as) (hcal : c.callee = .value f) {q : FuncId × List V}
    (hr : Abs.resolve (fx.val e) (as.map (X.val e)) = some q) : ∃ first captured : Array Value, (∀ w, (Go.resolve a.eval c t).run P w = .ok { target := .fn (.func q.1) captured, args := first ++ c.args.map a.eval } w) ∧ RelL M β q.2 ((first ++ c.args.map a.eval) ++ captured).toList := by
  have h1 := cX_rel G E hf
  have h2 := cXs_rel G E has
  unfold Abs.resolve at hr
  split at hr
  · rename_i fn first captured hv
    cases hr
    rw [hv] at h1
    simp only [Rel] at h1
    obtain ⟨f', x, y, hf', he, hx, hy⟩ := h1
    simp only [FnRel] at hf'
    subst hf'
    refine ⟨x, y, fun w => ?_, ?_⟩
    · simp only [Go.resolve, hcal, he, Deferred.ofValue, Sem.run_pure]
    · simp only [Array.toList_append, Array.toList_map]
      exact (hx.append h2).append hy
  · cases hr

/-- A loop's own function, as an operation calls it. -/
theorem yielder_rel (G : Globs gl M) {e : Env} (E : EnvRel M β N e a) {c : Call} {t : TypeId} {f : Operand} {fx : X} {as : List X} (hf : cX gl f = some fx) (has : cXs gl c.args.toList = some as) (hcal : c.callee = .value f) {b : Nat}
    (hr : yielder (fx.val e) = some b) : ∃ i, β b = some i ∧ (∀ w, (Go.resolve a.eval c t).run P w = .ok { target := .fn (.yield i.blk) #[], args := c.args.map a.eval } w) ∧ RelL M β (as.map (X.val e)) (c.args.map a.eval).toList := by
  have h1 := cX_rel G E hf
  have h2 := cXs_rel G E has
  unfold yielder at hr
  split at hr
  · rename_i b' hv
    cases hr
    rw [hv] at h1
    simp only [Rel] at h1
    obtain ⟨f', x, y, hf', he, hx, hy⟩ := h1
    obtain ⟨i, hi, rfl⟩ := hf'
    have hx' : x = #[] := by have := RelL.nil_iff.1 hx; simpa using this
    have hy' : y = #[] := by have := RelL.nil_iff.1 hy; simpa using this
    subst hx' hy'
    refine ⟨i, hi, fun w => ?_, by simpa using h2⟩
    simp [Go.resolve, hcal, he, Deferred.ofValue]
  · cases hr

/-- A function value of the text's, handed what is at hand. -/
theorem resolve_rel' (G : Globs gl M) {e : Env} (E : EnvRel M β N e a) {c : Call} {t : TypeId} {f : Operand} {fx : X} {as : List V} (hf : cX gl f = some fx) {β' : Places} (hβ : β.le β') (has : RelL M β' as (c.args.map a.eval).toList) (hcal : c.callee = .value f) {q : FuncId × List V}
    (hr : Abs.resolve (fx.val e) as = some q) : ∃ first captured : Array Value, (∀ w, (Go.resolve a.eval c t).run P w = .ok { target := .fn (.func q.1) captured, args := first ++ c.args.map a.eval } w) ∧ RelL M β' q.2 ((first ++ c.args.map a.eval) ++ captured).toList := by
  have h1 := cX_rel G E hf
  unfold Abs.resolve at hr
  split at hr
  · rename_i fn first captured hv
    cases hr
    rw [hv] at h1
    simp only [Rel] at h1
    obtain ⟨f', x, y, hf', he, hx, hy⟩ := h1
    simp only [FnRel] at hf'
    subst hf'
    refine ⟨x, y, fun w => ?_, ?_⟩
    · simp only [Go.resolve, hcal, he, Deferred.ofValue, Sem.run_pure]
    · simp only [Array.toList_append]
      exact ((hx.mono (.refl M) hβ).append has).append (hy.mono (.refl M) hβ)
  · cases hr

end

/-- The text's operations, compiled one by one. -/
inductive Ops (P : Program) (gl : Nat → Option (List V)) (N : Nat) (ops : Array Oper) : List Nat → List O → Prop
  | nil : Ops P gl N ops [] []
  | cons {i : Nat} {is : List Nat} {o : Oper} {o' : O} {l : List O} : ops[i]? = some o → cOper P gl ops o = some o' → (∀ d, o'.dst = some d → d < N) → Ops P gl N ops is l → Ops P gl N ops (i :: is) (o' :: l)

section
variable {P : Program} {M0 : Mem} {β0 : Places} {w0 : World} {N : Nat} {gl : Nat → Option (List V)} {call : CallF} {yld : Yld Prop}

theorem evOps_ok {r : Option Nat} {ops : Array Oper} (hdf : r = none ∨ ∀ o ∈ ops.toList, isDefer o.op = false) (hcall : CallOk P gl M0 β0 call) (hyld : YldOk P gl M0 β0 yld) {is : List Nat} {l : List O} (H : Ops P gl N ops is l) : ∀ {M : Mem} {β : Places} {st : FSt} {a : Act} {w : World} {K : Ex → FSt → Prop}, M0.on w0.heap.size M → β0.le β → Cfg gl M β N w0 st a w → evOps call yld l st K →
    wpOpsIn (fence r) 0 P ops (Post gl N w0 M0 β0 K) is a w := by
  induction H with
  | nil => intro M β st a w K hM hβ C h; exact ⟨M, β, .normal, st, hM, hβ, C, trivial, h⟩
  | @cons i is o o' l ho hc hd _ ih =>
    intro M β st a w K hM hβ C h
    obtain ⟨hop, hdst⟩ := cOper_spec hc
    have hw := C.wanted hc
    unfold wpOpsIn
    simp only [ho, hw]
    unfold evOps at h
    split at h
    · rename_i hwt
      rw [if_pos hwt]
      refine ⟨fun _ _ => trivial, ?_⟩
      have hsem : (∀ c, o.op ≠ .defer c) → o.semAt r a.eval = execOp a.eval o := o.semAt_eq r a.eval
      show o.uponIn (fence r) 0 P a _ _ ((o.semAt r a.eval).run P w)
      split at h
      · -- a call
        rename_i fx as hi
        rw [hi] at hop
        obtain ⟨c, f, hoc, hcal, hfx, has⟩ := cOp_call (hop.resolve_right (fun h => by cases h))
        have hstep : ∀ {e : Ending} {w' : World}, CallPost M β w0 (fun e h nid => match e with
            | .returned v => evOps call yld l { st with env := putDst st.env o'.dst v, h, nid } K
            | .panicked ch => K (.panic ch) { st with h, nid }) e w' → match e with
            | .returned v => wpOpsIn (fence r) 0 P ops (Post gl N w0 M0 β0 K) is (a.put o.dst v) w'
            | .panicked chain => Post gl N w0 M0 β0 K (.panic chain) a w'
            | .outgrown => LetsOut (Post gl N w0 M0 β0 K) := fun {e w'} he => by
          obtain ⟨M', β', en, h', nid', hM', hβ', S', hf', hen, hK⟩ := he
          cases en with
          | returned v =>
            cases e with
            | returned cv =>
              simp only [EndRel] at hen
              simp only [← hdst]
              exact ih (hM.trans hM') (hβ.trans hβ') (C.land hM'.1 hβ' S' hf' hd hen) hK
            | panicked _ => cases hen
            | outgrown => cases hen
          | panicked ch =>
            cases e with
            | returned cv => cases hen
            | panicked chain =>
              exact ⟨M', β', .panic ch, { st with h := h', nid := nid' }, hM.trans hM', hβ.trans hβ', ⟨C.globs.mono hM'.1, C.env.mono hM'.1 hβ', S', hf', C.dfr.mono hM'.1 hβ'⟩, hen, hK⟩
            | outgrown => cases hen
        split at h
        · rename_i f' args hres
          obtain ⟨first, captured, hrun, hrel⟩ := resolve_rel (P := P) C.globs C.env (t := o.type) hfx has hcal hres
          have hc2 := hcall _ _ _ _ _ h M β w0 w _ hM.1 hβ C.globs C.sim (fun b hb => C.fresh b (by omega)) hrel
          simp only [Array.toArray_toList] at hc2
          have hcf : (execOp a.eval o).run P w = (callFunc f' ((first ++ c.args.map a.eval) ++ captured)).run P w := by
            simp only [execOp, hoc, Sem.run_bind, hrun, Result.andThen_ok, invoke]
          rw [hsem (fun c h => by rw [hoc] at h; cases h), hcf]
          rcases hc2 with ⟨⟨fn, hfn, hbody, hname⟩, hcalls⟩ | ⟨cv, w', hrunc, hR⟩
          · have hex : (callFunc f' ((first ++ c.args.map a.eval) ++ captured)).run P w = .ok (.enter f' ((first ++ c.args.map a.eval) ++ captured)) w := by
              simp only [Sem.run_bind, Result.andThen_ok, callFunc, run_program, hfn, hname, hbody, Bool.false_eq_true, if_false, Sem.run_pure]
            rw [hex, Oper.uponIn_enter]
            refine ⟨(fun h => by cases h), callsIn_free (hcalls.mono ?_)⟩
            intro e w' he
            have := hstep he
            cases e <;> exact this
          · rw [hrunc, Oper.uponIn_value]
            exact hstep hR
        · split at h
          · rename_i b hb
            obtain ⟨i, hi, hrun, hrel⟩ := yielder_rel (P := P) C.globs C.env (t := o.type) hfx has hcal hb
            obtain ⟨fn, tmps, assign, body, hy, hround⟩ := hyld _ _ _ _ _ h M β w0 w _ i hM.1 hβ C.globs C.sim (fun b hb => C.fresh b (by omega)) hrel hi
            simp only [Array.toArray_toList] at hy hround
            have hcf : (execOp a.eval o).run P w = (Instr.yield i.blk (c.args.map a.eval)).run P w := by
              simp only [execOp, hoc, Sem.run_bind, hrun, Result.andThen_ok, invoke]
            rw [hsem (fun c h => by rw [hoc] at h; cases h), hcf, hy, Oper.uponIn_round]
            refine ⟨(fun h => by cases h), (hround r).mono ?_⟩
            intro e w' he
            have := hstep he
            cases e <;> exact this
          · exact h.elim
      · -- a panic
        rename_i x' hi
        rw [hi] at hop
        obtain ⟨x, hox, hx⟩ := cOp_panic (hop.resolve_right (fun h => by cases h))
        have hr := cX_rel C.globs C.env hx
        split at h
        · rename_i t v hv
          rw [hv] at hr
          have hr' := hr
          simp only [Rel] at hr'
          obtain ⟨c, he, hcv⟩ := hr'
          have hex : (execOp a.eval o).run P w = .halt (.panic (.iface t c)) w := by
            simp [execOp, hox, he, Instr.panic, goPanic]
          rw [hsem (fun c h => by rw [hox] at h; cases h), hex, Oper.uponIn_panic]
          refine ⟨M, β, .panic [.iface t v], { st with nid := st.nid + 1 }, hM, hβ, ⟨C.globs, C.env, C.sim, fun b hb => C.fresh b (by simp at hb; omega), C.dfr⟩, ?_, h⟩
          simp only [ExRel, ChainRel]
          exact ⟨_, _, rfl, by rw [← he]; exact hr, rfl, rfl, rfl⟩
        · exact h.elim
      · -- a defer
        rename_i fx as hi
        rw [hi] at hop
        obtain ⟨c, f, hoc, hcal, hfx, has⟩ := cOp_defer (hop.resolve_right (fun h => by cases h))
        have hr0 : r = none := hdf.resolve_right fun hall => by
          have := hall o (by have := Array.mem_of_getElem? ho; simpa using this)
          rw [hoc] at this
          cases this
        subst hr0
        split at h
        · rename_i f' args hres
          obtain ⟨first, captured, hrun, hrel⟩ := resolve_rel (P := P) C.globs C.env (t := o.type) hfx has hcal hres
          have hex : (execOp a.eval o).run P w = .ok (.defer { target := .fn (.func f') captured, args := first ++ c.args.map a.eval }) w := by
            simp only [execOp, hoc, Sem.run_bind, hrun, Result.andThen_ok, Sem.run_pure]
          rw [Oper.semAt_none, hex, Oper.uponIn_defer, ← hdst]
          refine ih hM hβ ?_ h
          have C1 : Cfg gl M β N w0 { st with dfr := .call f' args :: st.dfr } { a with defers := { target := .fn (.func f') captured, args := first ++ c.args.map a.eval } :: a.defers } w :=
            ⟨C.globs, C.env.defers _, C.sim, C.fresh, ⟨_, _, _, rfl, hrel, C.dfr⟩⟩
          exact C1.land (.refl M) (.refl β) C.sim (nid' := st.nid + 1) (fun b hb => C.fresh b (by omega)) hd (undef_rel M β)
        · exact h.elim
      · exact h.elim
      · -- a step over a map
        rename_i x' hi
        rw [hi] at hop
        obtain ⟨x, hox, hx⟩ := cOp_nextM (hop.resolve_right (fun h => by cases h))
        split at h
        · rename_i cs hcs
          obtain ⟨c, hcm, w', cv, hrun, hrel, S'⟩ := f_nextM C.globs C.env C.sim hox hx hcs
          rw [hsem (fun c h => by rw [hox] at h; cases h), hrun, Oper.uponIn_value, ← hdst]
          have := h _ (List.mem_map.2 ⟨c, hcm, rfl⟩)
          refine ih hM hβ ?_ this
          have C' := C.land (.refl M) (.refl β) S' (nid' := st.nid + 1) (fun b hb => C.fresh b (by omega)) hd hrel
          exact C'
        · exact h.elim
      · rename_i i hn1 hn2 hn3 hn4 hn5
        split at h
        · rename_i eff hev
          have hop := hop.resolve_right (fun h => by rw [h] at hev; simp only [evI] at hev; cases hev)
          obtain ⟨β', w', c, hrun, hβ', hsame, S', hrel⟩ := follows_op (o := o) C.globs C.env C.sim (fun _ _ h => h) (C.fresh _ (Nat.le_refl _)) hop hev
          have C' := C.land (.refl M) hβ' S' (nid' := st.nid + 1) (fun b hb => by rw [hsame b (by omega)]; exact C.fresh b (by omega)) hd hrel
          have hnd : ∀ c, o.op ≠ .defer c := fun c hc => by
            rw [hc] at hop
            simp only [cOp, Option.bind_eq_some_iff] at hop
            obtain ⟨as', _, hop⟩ := hop
            split at hop
            · simp only [Option.map_eq_some_iff] at hop
              obtain ⟨_, _, hop⟩ := hop
              exact hn3 _ _ hop.symm
            · cases hop
          rw [hsem hnd]
          rcases hrun with hrun | ⟨hrun, rfl⟩
          · rw [hrun, Oper.uponIn_value, ← hdst]
            exact ih hM (hβ.trans hβ') C' h
          · rw [hrun, Oper.uponIn_skip, ← hdst]
            exact ih hM (hβ.trans hβ') C' h
        · exact h.elim
    · rename_i hwt
      rw [if_neg hwt, ← hdst]
      exact ⟨fun _ _ => trivial, ih hM hβ (C.land (.refl M) (.refl β) C.sim (fun b hb => C.fresh b (by omega)) hd (undef_rel M β)) h⟩

end
end Go.Abs
