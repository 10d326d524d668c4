/-
  Abs23, Abs24, Abs25, put together in one file.
-/
import Derived.Test.YtfmdgjnjfmgbmaaGreatDoorAbsGd
import Derived.ScopeJumps
import Derived.OrdersIn
/-
  ABS, part 23: how code runs is followed; regions whose order is open are left to a premise here.
-/
namespace Go.Abs
open Go Go.RowKit
set_option linter.unusedSectionVars false
variable [Syms]

section
variable {P : Program} {gl : Nat → Option (List V)}

theorem findL_spec : ∀ (c : Code) {c' : C}, cCode P gl c = some c' → ∀ l : Nat, (c'.findL l = none → findLabel c l = none) ∧ ∀ r', c'.findL l = some r' → ∃ r, findLabel c l = some r ∧ cCode P gl r = some r'
  | .seq a b, c', h, l => by
    simp only [cCode, Option.bind_eq_some_iff, Option.map_eq_some_iff] at h
    obtain ⟨a', ha, b', hb, rfl⟩ := h
    obtain ⟨ha1, ha2⟩ := findL_spec a ha l
    obtain ⟨hb1, hb2⟩ := findL_spec b hb l
    simp only [C.findL, findLabel]
    cases hf : a'.findL l with
    | some r' =>
      obtain ⟨r, hr, hrc⟩ := ha2 r' hf
      rw [hr]
      refine ⟨(fun h => by cases h), fun q hq => ?_⟩
      cases hq
      exact ⟨.seq r b, rfl, by simp only [cCode, hrc, hb, Option.bind_some, Option.map_some]⟩
    | none =>
      rw [ha1 hf]
      exact ⟨hb1, hb2⟩
  | .label l', c', h, l => by
    simp only [cCode] at h; cases h
    simp only [C.findL, findLabel]
    split
    · exact ⟨(fun h => by cases h), fun r' hr => by cases hr; exact ⟨.skip, rfl, rfl⟩⟩
    · exact ⟨fun _ => rfl, fun r' hr => by cases hr⟩
  | .region _ ops b, c', h, l => by
    cases b
    · simp only [cCode, Option.map_eq_some_iff] at h
      obtain ⟨_, _, rfl⟩ := h
      exact ⟨fun _ => rfl, fun r' hr => by cases hr⟩
    · simp only [cCode, Option.bind_eq_some_iff] at h
      obtain ⟨_, _, _, _, h⟩ := h
      split at h
      · cases h; exact ⟨fun _ => rfl, fun r' hr => by cases hr⟩
      · cases h
  | .cond _ _ _, c', h, l => by
    simp only [cCode, Option.bind_eq_some_iff, Option.map_eq_some_iff] at h
    obtain ⟨_, _, _, _, _, _, rfl⟩ := h
    exact ⟨fun _ => rfl, fun r' hr => by cases hr⟩
  | .block _ _, c', h, l => by
    simp only [cCode, Option.map_eq_some_iff] at h
    obtain ⟨_, _, rfl⟩ := h
    exact ⟨fun _ => rfl, fun r' hr => by cases hr⟩
  | .loop _, c', h, l => by
    simp only [cCode, Option.map_eq_some_iff] at h
    obtain ⟨_, _, rfl⟩ := h
    exact ⟨fun _ => rfl, fun r' hr => by cases hr⟩
  | .scope _, c', h, l => by
    simp only [cCode, Option.bind_eq_some_iff] at h
    obtain ⟨_, _, h⟩ := h
    split at h
    · simp only [Option.map_eq_some_iff] at h
      obtain ⟨_, _, rfl⟩ := h
      exact ⟨fun _ => rfl, fun r' hr => by cases hr⟩
    · cases h
  | .skip, c', h, l => by simp only [cCode] at h; cases h; exact ⟨fun _ => rfl, fun r' hr => by cases hr⟩
  | .exit _, c', h, l => by simp only [cCode] at h; cases h; exact ⟨fun _ => rfl, fun r' hr => by cases hr⟩
  | .ret, c', h, l => by simp only [cCode] at h; cases h; exact ⟨fun _ => rfl, fun r' hr => by cases hr⟩
  | .goto _, c', h, l => by simp only [cCode] at h; cases h; exact ⟨fun _ => rfl, fun r' hr => by cases hr⟩
  | .rangeFunc .., c', h, l => by
    simp only [cCode] at h
    split at h
    · simp only [Option.bind_eq_some_iff, Option.map_eq_some_iff] at h
      obtain ⟨_, _, _, _, _, _, rfl⟩ := h
      exact ⟨fun _ => rfl, fun r' hr => by cases hr⟩
    · cases h
  | .refuse _, c', h, l => by simp only [cCode] at h; cases h

theorem Ops_of {N : Nat} {ops : Array Oper} : ∀ {n : Nat} {l : List Oper} {l' : List O}, (∀ k o, l[k]? = some o → ops[n + k]? = some o) → l.mapM (cOper P gl ops) = some l' → (∀ d ∈ l'.filterMap (·.dst), d < N) → Ops P gl N ops (List.range' n l.length) l'
  | n, [], l', h1, h2, h3 => by simp at h2; subst h2; exact .nil
  | n, o :: l, l', h1, h2, h3 => by
    simp only [List.mapM_cons, Option.pure_def, Option.bind_eq_bind, Option.bind_eq_some_iff, Option.some.injEq] at h2
    obtain ⟨o', ho', l'', hl'', rfl⟩ := h2
    simp only [List.length_cons, List.range'_succ]
    refine .cons (by simpa using h1 0 o rfl) ho' (fun d hd => h3 d (List.mem_filterMap.2 ⟨o', List.mem_cons_self, hd⟩)) (Ops_of (fun k q hk => ?_) hl'' (fun d hd => ?_))
    · have := h1 (k + 1) q (by simpa using hk)
      rw [Nat.add_assoc, Nat.add_comm 1 k]; exact this
    · obtain ⟨q, hq, hqd⟩ := List.mem_filterMap.1 hd
      exact h3 d (List.mem_filterMap.2 ⟨q, List.mem_cons_of_mem _ hq, hqd⟩)
end

/-- A region whose order is open. -/
def DrawnOk (P : Program) (gl : Nat → Option (List V)) (cx : Ctx) : Prop :=
  ∀ (call : CallF) (yld : Yld Prop) (ops : Array Oper) (z : List (O × List Nat)) (t : List O) (id N : Nat), cCode P gl (.region id ops true) = some (.drawn z t) → (∀ d ∈ z.filterMap (·.1.dst) ++ t.filterMap (·.dst), d < N) →
    ∀ {M0 M : Mem} {β0 β : Places} {w0 w : World} {st : FSt} {a : Act} {K : Ex → FSt → Prop} {env : Env} {h : Heap}, CallOk P gl M0 β0 call → YldOk P gl M0 β0 yld → M0.on w0.heap.size M → β0.le β → Cfg gl M β N w0 st a w → (actAll cx st.nid z.length 0 z (st.env, st.h) = some (env, h) ∧ evOps call yld t { st with env, h, nid := st.nid + z.length } K ∨
        walk cx call z z.length (fun x s => match x with | .normal => evOps call yld t s K | x => K x s) (z.length + 1) (List.range z.length) st) → ∀ r : Option Nat, (r = none ∨ ∀ o ∈ ops.toList, isDefer o.op = false) → (Code.region id ops true).wpIn (fence r) 0 P (Post gl N w0 M0 β0 K) a w

section
variable {P : Program} {M0 : Mem} {β0 : Places} {w0 : World} {N : Nat} {gl : Nat → Option (List V)} {call : Yld Prop → CallF} {yld : Yld Prop} {cx : Ctx} {r : Option Nat}

theorem Post.mono {K K' : Ex → FSt → Prop} (h : ∀ x st, K x st → K' x st) : ∀ e a w, Post gl N w0 M0 β0 K e a w → Post gl N w0 M0 β0 K' e a w :=
  fun _ _ _ ⟨M, β, ex, st, h1, h2, h3, h4, h5⟩ => ⟨M, β, ex, st, h1, h2, h3, h4, h _ _ h5⟩

/-- Code is followed. -/
def Sound (P : Program) (gl : Nat → Option (List V)) (cx : Ctx) (call : Yld Prop → CallF) (yld : Yld Prop) (m N : Nat) (w0 : World) (M0 : Mem) (β0 : Places) (r : Option Nat) (c : Code) : Prop :=
  ∀ c', cCode P gl c = some c' → (∀ d ∈ c'.dsts, d < N) → ∀ {M : Mem} {β : Places} {st : FSt} {a : Act} {w : World} {K : Ex → FSt → Prop}, M0.on w0.heap.size M → β0.le β → Cfg gl M β N w0 st a w → evC cx call yld m c' st K → c.wpIn (fence r) 0 P (Post gl N w0 M0 β0 K) a w

theorem sound_seq {m : Nat} {x y : Code} (hx : Sound P gl cx call yld m N w0 M0 β0 r x) (hy : Sound P gl cx call yld m N w0 M0 β0 r y) : Sound P gl cx call yld m N w0 M0 β0 r (.seq x y) := by
  intro c' hc hd M β st a w K hM hβ Cf h
  simp only [cCode, Option.bind_eq_some_iff, Option.map_eq_some_iff] at hc
  obtain ⟨x', hx', y', hy', rfl⟩ := hc
  simp only [C.dsts, List.mem_append] at hd
  refine wpIn_seq (wpIn_mono (hx x' hx' (fun d h => hd d (.inl h)) hM hβ Cf h) ?_)
  rintro e a w ⟨M', β', ex, st', h1, h2, h3, h4, h5⟩
  cases e <;> cases ex <;> first | exact False.elim h4 | skip
  all_goals simp only at h5
  · exact hy y' hy' (fun d h => hd d (.inr h)) h1 h2 h3 h5
  all_goals exact ⟨M', β', _, st', h1, h2, h3, h4, h5⟩

theorem sound_loop {m : Nat} {x : Code} (hx : Sound P gl cx call yld m N w0 M0 β0 r x) : Sound P gl cx call yld m N w0 M0 β0 r (.loop x) := by
  intro c' hc hd M β st a w K hM hβ Cf h
  simp only [cCode, Option.map_eq_some_iff] at hc
  obtain ⟨x', hx', rfl⟩ := hc
  simp only [C.dsts] at hd
  intro b k cs hro hb hr
  have key : ∀ n {M : Mem} {β : Places} {st : FSt} {a : Act} {w : World}, M0.on w0.heap.size M → β0.le β → Cfg gl M β N w0 st a w → iter (fun st K => evC cx call yld m x' st K) n st K →
      ∃ e a' w', Post gl N w0 M0 β0 K e a' w' ∧ ArrivesIn (Machine.fenced P (fence r)) P (lone (b.atR a (.code x :: .inLoop x :: k)) cs w) b k cs e a' w' := by
    intro n
    induction n with
    | zero => intro M β st a w _ _ _ h; exact h.elim
    | succ n ih =>
      intro M β st a w hM hβ Cf h
      obtain ⟨e, a₁, w₁, ⟨M', β', ex, st', h1, h2, h3, h4, h5⟩, harr⟩ := hx x' hx' hd hM hβ Cf h b (.inLoop x :: k) cs hro hb hr
      cases e <;> cases ex <;> first | exact False.elim h4 | skip
      all_goals simp only at h5
      · obtain ⟨e₂, a₂, w₂, hq₂, harr₂⟩ := ih h1 h2 h3 h5
        exact ⟨e₂, a₂, w₂, hq₂, .of_steps (StepsIn.trans harr (.one (fenced_calm hb hr rfl) stepR_inLoop)) harr₂⟩
      all_goals exact ⟨_, a₁, w₁, ⟨M', β', _, st', h1, h2, h3, h4, h5⟩, .pass (x := .inLoop x) rfl (fun _ _ => .inl (by simp)) harr⟩
  obtain ⟨e, a', w', hq, harr⟩ := key m hM hβ Cf h
  exact ⟨e, a', w', hq, .of_steps (.one (fenced_calm hb hr rfl) stepR_loop) harr⟩

theorem sound_scope {m : Nat} {c : Code} (hc : Sound P gl cx call yld m N w0 M0 β0 none c) (hr : ∀ l q, findLabel c l = some q → Sound P gl cx call yld m N w0 M0 β0 none q) : Sound P gl cx call yld m N w0 M0 β0 none (.scope c) := by
  intro c' hcc hd M β st a w K hM hβ Cf h
  simp only [cCode, Option.bind_eq_some_iff] at hcc
  obtain ⟨c1, hc1, hcc⟩ := hcc
  split at hcc
  · rename_i l hl
    simp only [Option.map_eq_some_iff] at hcc
    obtain ⟨rest', hrest', rfl⟩ := hcc
    obtain ⟨rest, hf, hrc⟩ := (findL_spec c hc1 l).2 _ hrest'
    simp only [C.dsts, List.mem_append] at hd
    refine wpIn_wide.2 ?_
    intro b k cs
    have hg : gotoIn l (.inScope c :: k) = some (.code rest :: .inScope c :: k) := by simp [gotoIn, hf]
    have key : ∀ n {M : Mem} {β : Places} {st : FSt} {a : Act} {w : World}, M0.on w0.heap.size M → β0.le β → Cfg gl M β N w0 st a w → passes l (fun st K => evC cx call yld m rest' st K) n st K →
        ∃ e a' w', Post gl N w0 M0 β0 K e a' w' ∧ Arrives P (lone (b.at a (.code rest :: .inScope c :: k)) cs w) b k cs e a' w' := by
      intro n
      induction n with
      | zero => intro M β st a w _ _ _ h; exact h.elim
      | succ n ih =>
        intro M β st a w hM hβ Cf h
        obtain ⟨e, a₁, w₁, ⟨M', β', ex, st', h1, h2, h3, h4, h5⟩, harr⟩ := wpIn_wide.1 (hr l rest hf rest' hrc (fun d h => hd d (.inr h)) hM hβ Cf h) b (.inScope c :: k) cs
        cases e with
        | normal => cases ex <;> first | exact False.elim h4 | skip
                    exact ⟨.normal, a₁, w₁, ⟨M', β', _, st', h1, h2, h3, h4, h5⟩, Steps.trans harr (.one step_inScope)⟩
        | exit id => cases ex <;> first | exact False.elim h4 | skip
                     exact ⟨.exit id, a₁, w₁, ⟨M', β', _, st', h1, h2, h3, h4, h5⟩, fun k' hk => harr k' (by simp [exitTo, hk])⟩
        | goto l' =>
          cases ex <;> first | exact False.elim h4 | skip
          rename_i l2
          have h4' : l2 = l' := h4
          subst h4'
          simp only at h5
          split at h5
          · rename_i hl'; subst hl'
            obtain ⟨e₂, a₂, w₂, hq₂, harr₂⟩ := ih h1 h2 h3 h5
            exact ⟨e₂, a₂, w₂, hq₂, .of_steps (harr _ hg) harr₂⟩
          · exact h5.elim
        | ret => cases ex <;> first | exact False.elim h4 | skip
                 exact ⟨_, a₁, w₁, ⟨M', β', _, st', h1, h2, h3, h4, h5⟩, harr⟩
        | panic ch => cases ex <;> first | exact False.elim h4 | skip
                      exact ⟨_, a₁, w₁, ⟨M', β', _, st', h1, h2, h3, h4, h5⟩, harr⟩
        | outgrown => cases ex <;> exact False.elim h4
    obtain ⟨e, a₁, w₁, ⟨M', β', ex, st', h1, h2, h3, h4, h5⟩, harr⟩ := wpIn_wide.1 (hc c1 hc1 (fun d h => hd d (.inl h)) hM hβ Cf h) b (.inScope c :: k) cs
    cases e with
    | normal => cases ex <;> first | exact False.elim h4 | skip
                exact ⟨.normal, a₁, w₁, ⟨M', β', _, st', h1, h2, h3, h4, h5⟩, .head step_scope (Steps.trans harr (.one step_inScope))⟩
    | exit id => cases ex <;> first | exact False.elim h4 | skip
                 exact ⟨.exit id, a₁, w₁, ⟨M', β', _, st', h1, h2, h3, h4, h5⟩, fun k' hk => .head step_scope (harr k' (by simp [exitTo, hk]))⟩
    | goto l' =>
      cases ex <;> first | exact False.elim h4 | skip
      rename_i l2
      have h4' : l2 = l' := h4
      subst h4'
      simp only at h5
      split at h5
      · rename_i hl'; subst hl'
        obtain ⟨e₂, a₂, w₂, hq₂, harr₂⟩ := key m h1 h2 h3 h5
        exact ⟨e₂, a₂, w₂, hq₂, .of_steps (.head step_scope (harr _ hg)) harr₂⟩
      · exact h5.elim
    | ret => cases ex <;> first | exact False.elim h4 | skip
             exact ⟨_, a₁, w₁, ⟨M', β', _, st', h1, h2, h3, h4, h5⟩, .of_steps (.one step_scope) harr⟩
    | panic ch => cases ex <;> first | exact False.elim h4 | skip
                  exact ⟨_, a₁, w₁, ⟨M', β', _, st', h1, h2, h3, h4, h5⟩, .of_steps (.one step_scope) harr⟩
    | outgrown => cases ex <;> exact False.elim h4
  · cases hcc

theorem sound_scope' {m : Nat} {c : Code} (hr : r = none) (hc : Sound P gl cx call yld m N w0 M0 β0 r c) (hq : ∀ l q, findLabel c l = some q → Sound P gl cx call yld m N w0 M0 β0 r q) : Sound P gl cx call yld m N w0 M0 β0 r (.scope c) := by
  subst hr
  exact sound_scope hc hq

theorem sound_block {m : Nat} {id : Nat} {x : Code} (hx : Sound P gl cx call yld m N w0 M0 β0 r x) : Sound P gl cx call yld m N w0 M0 β0 r (.block id x) := by
  intro c' hc hd M β st a w K hM hβ Cf h
  simp only [cCode, Option.map_eq_some_iff] at hc
  obtain ⟨x', hx', rfl⟩ := hc
  simp only [C.dsts] at hd
  refine wpIn_block (wpIn_mono (hx x' hx' hd hM hβ Cf h) ?_)
  rintro e a w ⟨M', β', ex, st', h1, h2, h3, h4, h5⟩
  cases e <;> cases ex <;> first | exact False.elim h4 | skip
  all_goals simp only at h5
  case exit.exit i j =>
    have h4' : j = i := h4
    subst h4'
    simp only [Exit.inBlock]
    split at h5
    · rename_i hj; rw [if_pos hj]; exact ⟨M', β', .normal, st', h1, h2, h3, trivial, h5⟩
    · rename_i hj; rw [if_neg hj]; exact ⟨M', β', .exit j, st', h1, h2, h3, rfl, h5⟩
  all_goals exact ⟨M', β', _, st', h1, h2, h3, h4, h5⟩

theorem sound_cond {m : Nat} {q : Operand} {x y : Code} (hx : Sound P gl cx call yld m N w0 M0 β0 r x) (hy : Sound P gl cx call yld m N w0 M0 β0 r y) : Sound P gl cx call yld m N w0 M0 β0 r (.cond q x y) := by
  intro c' hc hd M β st a w K hM hβ Cf h
  simp only [cCode, Option.bind_eq_some_iff, Option.map_eq_some_iff] at hc
  obtain ⟨q', hq', x', hx', y', hy', rfl⟩ := hc
  simp only [C.dsts, List.mem_append] at hd
  have hr := cX_rel Cf.globs Cf.env hq'
  simp only [evC] at h
  split at h
  · rename_i hv
    rw [hv] at hr; simp only [Rel] at hr
    exact wpIn_cond_true hr (hx x' hx' (fun d h => hd d (.inl h)) hM hβ Cf h)
  · rename_i hv
    rw [hv] at hr; simp only [Rel] at hr
    exact wpIn_cond_false hr (hy y' hy' (fun d h => hd d (.inr h)) hM hβ Cf h)
  · exact h.elim

theorem sf_left {x y : Bool} (h : r = none ∨ (x && y) = true) : r = none ∨ x = true := h.imp id (fun h => by simp only [Bool.and_eq_true] at h; exact h.1)
theorem sf_right {x y : Bool} (h : r = none ∨ (x && y) = true) : r = none ∨ y = true := h.imp id (fun h => by simp only [Bool.and_eq_true] at h; exact h.2)

theorem isLoop_eq {o : Option AObj} {b : Bool} (h : isLoop o b = true) : o = some (.loop b) := by
  unfold isLoop at h
  split at h
  · simp only [beq_iff_eq] at h; subst h; rfl
  · cases h

theorem isShut_eq {o : Option AObj} (h : isShut o = true) : o = some .shut := by
  unfold isShut at h
  split at h
  · rfl
  · cases h

/-- A block that holds no cells, and that nobody holds, becomes something else. -/
theorem Keeps.putObj {M : Mem} {w : World} {l : Nat} {o o' : Go.Obj} (h : w.heap[l]? = some o) (hc : ∀ arr T fr, o ≠ .cells arr T fr) (hM : M.o l = none) : Keeps M l w (w.putObj l o') where
  os := rfl
  tape := rfl
  output := rfl
  size := by simp
  other r hr _ := World.putObj_heap_other hr
  cells a c hMc e := by
    have hne : a.block ≠ l := fun e' => by
      unfold World.cell? at e
      rw [e', h] at e
      cases o <;> first | exact hc _ _ _ rfl | cases e
    rw [← e]; exact cell?_eq (World.putObj_heap_other hne)
  objs r o2 hMo e := by
    have hne : r ≠ l := fun e' => by rw [e', hM] at hMo; cases hMo
    rw [← e]; exact World.putObj_heap_other hne

/-- An object that turns where it lies. -/
theorem Sim.turn {M : Mem} {β : Places} {h : View} {w0 w w' : World} (S : Sim M β h w0 w) {b : Nat} {i : Place} {o o' : AObj} (hb : h b = some o) (ho : o.owns = true) (hi : β b = some i) (k : Keeps M i.blk w w') (hs : ObjSim M β w' i o') : Sim M β (upd h b (some o')) w0 w' := by
  obtain ⟨i', hi', hbase, _⟩ := S.obj b o hb
  rw [hi] at hi'; cases hi'
  have hsep : ∀ b' o2 i', b' ≠ b → h b' = some o2 → β b' = some i' → o2.owns = true → i'.blk ≠ i.blk := fun b' o2 i' hne hb' hi' ho' => S.sep b' b o2 o i' i hne hb' hb hi' hi ho' ho
  have S1 : Sim M β (upd h b none) w0 w' := (S.drop b).change k hbase (fun b' o2 i' hb' hi' ho' => by
    by_cases e : b' = b
    · subst e; rw [upd_eq] at hb'; cases hb'
    · rw [upd_ne _ _ e] at hb'; exact hsep b' o2 i' e hb' hi' ho')
  have S2 := S1.put hi hbase hs (fun _ b' o2 i' hne hb' hi' ho' => by
    rw [upd_ne _ _ hne] at hb'; exact hsep b' o2 i' hne hb' hi' ho')
  have e : upd (upd h b none) b (some o') = upd h b (some o') := funext fun x => by
    by_cases e : x = b
    · subst e; rw [upd_eq, upd_eq]
    · rw [upd_ne _ _ e, upd_ne _ _ e, upd_ne _ _ e]
  rw [e] at S2; exact S2

/-- The same, and it goes. -/
theorem Sim.gone {M : Mem} {β : Places} {h : View} {w0 w w' : World} (S : Sim M β h w0 w) {b : Nat} {i : Place} {o : AObj} (hb : h b = some o) (ho : o.owns = true) (hi : β b = some i) (k : Keeps M i.blk w w') : Sim M β (upd h b none) w0 w' := by
  obtain ⟨i', hi', hbase, _⟩ := S.obj b o hb
  rw [hi] at hi'; cases hi'
  exact (S.drop b).change k hbase (fun b' o2 i' hb' hi' ho' => by
    by_cases e : b' = b
    · subst e; rw [upd_eq] at hb'; cases hb'
    · rw [upd_ne _ _ e] at hb'; exact S.sep b' b o2 o i' i e hb' hb hi' hi ho' ho)

theorem Sim.loop {M : Mem} {β : Places} {h : View} {w0 w : World} (S : Sim M β h w0 w) {b : Nat} {i : Place} {busy : Bool} (hb : h b = some (.loop busy)) (hi : β b = some i) :
    ∃ r, i.lp = some r ∧ r.pending = none ∧ w.heap[i.blk]? = some (.loop { r with state := if busy then .busy else .ready }) ∧ M.o i.blk = none := by
  obtain ⟨i', hi', _, ho⟩ := S.obj b _ hb
  rw [hi] at hi'; cases hi'
  obtain ⟨⟨r, h1, h2, h3⟩, h4⟩ := ho
  exact ⟨r, h1, h2, h3, h4⟩

theorem Sim.shut {M : Mem} {β : Places} {h : View} {w0 w : World} (S : Sim M β h w0 w) {b : Nat} {i : Place} (hb : h b = some .shut) (hi : β b = some i) : w.heap[i.blk]? = some (.deferred (some [])) ∧ M.o i.blk = none := by
  obtain ⟨i', hi', _, ho⟩ := S.obj b _ hb
  rw [hi] at hi'; cases hi'
  exact ho

theorem putArgs_rel {M : Mem} {β : Places} {N : Nat} : ∀ (ps : List Nat) {vs : List V} {cs : List Value} {e : Env} {tm : Array Value}, EnvRel M β N e { tmps := tm, defers := [] } → RelL M β vs cs → (∀ p ∈ ps, p < N) →
    EnvRel M β N (putArgs ps vs e) { tmps := (ps.zip cs).foldl (fun tm (p : Nat × Value) => tm.setIfInBounds p.1 p.2) tm, defers := [] }
  | [], vs, cs, e, tm, E, _, _ => by simpa [putArgs] using E
  | p :: ps, [], cs, e, tm, E, hr, _ => by
    rw [RelL.nil_iff.1 hr]
    simpa [putArgs] using E
  | p :: ps, v :: vs, cs, e, tm, E, hr, hp => by
    simp only [RelL] at hr
    obtain ⟨c, cs', rfl, hc, hr'⟩ := hr
    have E1 := E.put (d := some p) (fun t ht => by cases ht; exact hp p (by simp)) hc
    have := putArgs_rel ps (e := e.set p v) (tm := tm.setIfInBounds p c) (by simpa [putDst, Act.put] using E1) hr' (fun q hq => hp q (by simp [hq]))
    simpa [putArgs] using this

/-- A round, told. -/
abbrev SoundFor (P : Program) (gl : Nat → Option (List V)) (cx : Ctx) (call : Yld Prop → CallF) (m : Nat) (c : Code) : Prop :=
  ∀ (N : Nat) (w0 : World) (M0 : Mem) (β0 : Places) (r : Option Nat) (yld : Yld Prop), YldOk P gl M0 β0 yld → (r = none ∨ scopeFree c = true) → Sound P gl cx call yld m N w0 M0 β0 r c

theorem rounds_ok {M1 : Mem} {β1 : Places} {m b : Nat} {r0 : Loop} {ib : Place} {x' y' : C} {env : Env} (hyl : YldOk P gl M1 β1 yld) (hx : SoundFor P gl cx call m r0.assign) (hy : SoundFor P gl cx call m r0.body) (hsx : scopeFree r0.assign = true) (hsy : scopeFree r0.body = true)
    (hx' : cCode P gl r0.assign = some x') (hy' : cCode P gl r0.body = some y') (hdp : ∀ d ∈ r0.params.toList, d < N) (hdx : ∀ d ∈ x'.dsts, d < N) (hdy : ∀ d ∈ y'.dsts, d < N)
    (hb : β1 b = some ib) (hr0 : ib.lp = some r0) (E : EnvRel M1 β1 N env { tmps := r0.tmps, defers := [] }) :
    YldOk P gl M1 β1 (rounds (fun st K => evC cx call yld m x' st K) (fun st K => evC cx call yld m y' st K) b r0.params.toList env yld) := by
  intro l vs h nid K hk M β w0 w cargs i hM hβ G S hf hR hi
  simp only [rounds] at hk
  split at hk
  · rename_i e
    subst e
    split at hk
    · rename_i hc
      simp only [Bool.and_eq_true, beq_iff_eq] at hc
      obtain ⟨hl, hlen⟩ := hc
      have hib := hβ _ _ hb
      rw [hi] at hib
      cases hib
      obtain ⟨r, hr1, hr2, hr3, hr4⟩ := S.loop (isLoop_eq hl) hi
      rw [hr0] at hr1
      cases hr1
      have hcl := hR.length
      have hsz : cargs.toArray.size = r0.params.size := by simp [hcl, hlen]
      refine ⟨_, _, _, _, run_yield hr3 hsz, fun _ => roundIn_of_wpIn trivial ?_⟩
      have hE : EnvRel M β N (putArgs r0.params.toList vs env) { tmps := (r0.params.zip cargs.toArray).foldl (fun tmps (t, a) => tmps.setIfInBounds t a) r0.tmps, defers := [] } := by
        have := putArgs_rel r0.params.toList (E.mono hM hβ) hR hdp
        rw [← Array.foldl_toList, Array.toList_zip]
        exact this
      refine wpIn_mono (hx N w0 M β (some ib.blk) yld (hyl.mono hM hβ) (.inr hsx) x' hx' hdx (.refl _ _) (.refl _) ⟨G, hE, S, hf, by rfl⟩ hk) ?_
      rintro e a2 w2 ⟨M2, β2, ex, s2, k1, k2, C2, k4, k5⟩
      cases e <;> cases ex <;> first | exact False.elim k4 | exact False.elim k5 | skip
      simp only at k5
      split at k5
      · rename_i hl2
        have hi2 := k2 _ _ hi
        obtain ⟨r, q1, q2, q3, q4⟩ := C2.sim.loop (isLoop_eq hl2) hi2
        rw [hr0] at q1
        cases q1
        have S3 := C2.sim.turn (o' := .loop true) (isLoop_eq hl2) rfl hi2 (Keeps.putObj (o' := .loop { r0 with state := .busy }) q3 (fun _ _ _ h => by cases h) q4) ⟨⟨r0, hr0, q2, World.putObj_heap_same (lt_of_get? q3)⟩, q4⟩
        refine ⟨_, run_beginRound q3 rfl, ?_⟩
        have Cb : Cfg gl M2 β2 N w0 { s2 with h := s2.h.set l (.loop true) } a2 (w2.putObj ib.blk (.loop { r0 with state := .busy })) := ⟨C2.globs, C2.env, by rw [get_set]; exact S3, C2.fresh, C2.dfr⟩
        refine wpIn_mono (hy N w0 M β (some ib.blk) yld (hyl.mono hM hβ) (.inr hsy) y' hy' hdy k1 k2 Cb k5) ?_
        rintro e a3 w3 ⟨M3, β3, ex, s3, j1, j2, C3, j4, j5⟩
        cases e <;> cases ex <;> first | exact False.elim j4 | exact False.elim j5 | skip
        simp only at j5
        split at j5
        · rename_i hl3
          have hi3 := j2 _ _ hi
          obtain ⟨r, p1, p2, p3, p4⟩ := C3.sim.loop (isLoop_eq hl3) hi3
          rw [hr0] at p1
          cases p1
          have hpend : ({ r0 with state := .ready } : Loop) = { r0 with state := .ready, pending := none } := by rw [← p2]
          refine ⟨_, _, run_endRound none p3, M3, β3, .returned (.bool true), _, _, j1, j2, ?_, C3.fresh, ?_, j5⟩
          · rw [get_set]
            refine C3.sim.turn (isLoop_eq hl3) rfl hi3 (Keeps.putObj p3 (fun _ _ _ h => by cases h) p4) ⟨⟨r0, hr0, p2, ?_⟩, p4⟩
            refine (World.putObj_heap_same (lt_of_get? p3)).trans ?_
            exact congrArg (fun r => some (Go.Obj.loop r)) hpend.symm
          · simp only [EndRel, Rel]
            rfl
        · exact j5.elim
      · exact k5.elim
    · exact hk.elim
  · exact hyl _ _ _ _ _ hk M β w0 w cargs i hM hβ G S hf hR hi

theorem sound_range {m : Nat} {g : Operand} {ps : Array Tmp} {x y : Code} (hcall : ∀ M β y, YldOk P gl M β y → CallOk P gl M β (call y)) (hfn : ∀ f, (cx.fn f).isSome = true → FnOk P f)
    (hyl : YldOk P gl M0 β0 yld) (hx : SoundFor P gl cx call m x) (hy : SoundFor P gl cx call m y) : Sound P gl cx call yld m N w0 M0 β0 none (.rangeFunc g ps x y) := by
  intro c' hc hd M β st a w K hM hβ Cf h
  simp only [cCode] at hc
  split at hc
  · rename_i hsf
    simp only [Bool.and_eq_true] at hsf
    simp only [Option.bind_eq_some_iff, Option.map_eq_some_iff] at hc
    obtain ⟨g', hg, x', hx', y', hy', rfl⟩ := hc
    simp only [C.dsts, List.mem_append] at hd
    simp only [evC] at h
    split at h
    · rename_i f args hres
      split at h
      · rename_i hsome
        obtain ⟨fn', hfn', hbody, hname⟩ := hfn f hsome
        refine wpIn_rangeFunc fun fn _ => ?_
        obtain ⟨r0, hr0⟩ : ∃ r0 : Loop, r0 = { state := .ready, pending := none, fn, tmps := a.tmps, params := ps, assign := x, body := y, defers := w.heap.size } := ⟨_, rfl⟩
        obtain ⟨id, hid⟩ : ∃ i : Place, i = ⟨w.heap.size, 0, 0, 0, 0, none⟩ := ⟨_, rfl⟩
        obtain ⟨ib, hib⟩ : ∃ i : Place, i = ⟨w.heap.size + 1, 0, 0, 0, 0, some r0⟩ := ⟨_, rfl⟩
        have hno : ∀ k, w.heap.size ≤ k → M.o k = none := fun k hk => by
          cases e : M.o k with
          | none => rfl
          | some o => have := lt_of_get? (Cf.sim.memo _ _ e); omega
        have hβd : β st.nid = none := Cf.fresh _ (Nat.le_refl _)
        have S1 : Sim M (β.set st.nid id) (upd st.h.get st.nid (some .shut)) w0 (w.alloc (.deferred (some []))) := by
          refine (Cf.sim.alloc _).add hβd (by rw [hid]; exact Cf.sim.base) (by rw [hid]; simp) ⟨by rw [hid]; exact heap_new _ _, by rw [hid]; exact hno _ (Nat.le_refl _)⟩ (fun b' o' i' hb' hi' _ => ?_)
          have := Cf.sim.sane _ _ hi'
          rw [hid]
          show i'.blk ≠ w.heap.size
          omega
        have hβb : (β.set st.nid id) (st.nid + 1) = none := by rw [Places.set_ne _ _ (by omega)]; exact Cf.fresh _ (by omega)
        have hsz1 : (w.alloc (.deferred (some []))).heap.size = w.heap.size + 1 := by simp
        have S2 : Sim M ((β.set st.nid id).set (st.nid + 1) ib) (upd (upd st.h.get st.nid (some .shut)) (st.nid + 1) (some (.loop false))) w0 ((w.alloc (.deferred (some []))).alloc (.loop r0)) := by
          refine (S1.alloc _).add hβb (by rw [hib]; have := Cf.sim.base; show _ ≤ w.heap.size + 1; omega) (by rw [hib]; simp) ⟨⟨r0, by rw [hib], by rw [hr0], ?_⟩, by rw [hib]; exact hno _ (by show _ ≤ w.heap.size + 1; omega)⟩ (fun b' o' i' hb' hi' _ => ?_)
          · have := heap_new (w.alloc (.deferred (some []))) (.loop r0)
            rw [hsz1] at this
            rw [hib]
            refine this.trans ?_
            rw [hr0]
            rfl
          · have := S1.sane _ _ hi'
            rw [hsz1] at this
            rw [hib]
            show i'.blk ≠ w.heap.size + 1
            omega
        have hβ2 : β.le ((β.set st.nid id).set (st.nid + 1) ib) := (β.le_set id hβd).trans (Places.le_set _ ib hβb)
        have hib2 : ((β.set st.nid id).set (st.nid + 1) ib) (st.nid + 1) = some ib := Places.set_eq _ _ _
        have hid2 : ((β.set st.nid id).set (st.nid + 1) ib) st.nid = some id := (Places.le_set _ ib hβb) _ _ (Places.set_eq _ _ _)
        have hib3 : ib.blk = w.heap.size + 1 := by rw [hib]
        have hib4 : ib.lp = some r0 := by rw [hib]
        have hid3 : id.blk = w.heap.size := by rw [hid]
        have hfr2 : ∀ b, st.nid + 2 ≤ b → ((β.set st.nid id).set (st.nid + 1) ib) b = none := fun b hb => by
          rw [Places.set_ne _ _ (by omega), Places.set_ne _ _ (by omega)]; exact Cf.fresh _ (by omega)
        obtain ⟨β2, hβe⟩ : ∃ β2, β2 = (β.set st.nid id).set (st.nid + 1) ib := ⟨_, rfl⟩
        rw [← hβe] at S2 hβ2 hib2 hid2 hfr2
        have hyarg : RelL M β2 [.func (.yield (st.nid + 1)) [] []] ((rangeCall g (w.heap.size + 1)).args.map a.eval).toList := by
          simp only [List.map_toArray, List.map_cons, List.map_nil, RelL, Rel]
          refine ⟨_, [], rfl, ⟨_, #[], #[], ⟨ib, hib2, rfl⟩, ?_, rfl, rfl⟩, rfl⟩
          rw [hib3]
          rfl
        obtain ⟨first, captured, hrun, hrel⟩ := resolve_rel' (P := P) Cf.globs Cf.env (c := rangeCall g (w.heap.size + 1)) (t := 0) hg hβ2 hyarg rfl hres
        have hex : ∀ W, (callFunc f ((first ++ (rangeCall g (w.heap.size + 1)).args.map a.eval) ++ captured)).run P W = .ok (.enter f ((first ++ (rangeCall g (w.heap.size + 1)).args.map a.eval) ++ captured)) W := fun W => by
          simp only [Sem.run_bind, Result.andThen_ok, callFunc, run_program, hfn', hname, hbody, Bool.false_eq_true, if_false, Sem.run_pure]
        refine ⟨w.heap.size + 1, [{ target := .collected w.heap.size, args := #[] }], (w.alloc (.deferred (some []))).alloc (.loop r0), _, _, f, _, _, by rw [hr0]; exact run_enterLoop_outer _ _ _ _ _, hrun _, fun _ _ => trivial, hex _, (fun h => by cases h), callsIn_free ?_⟩
        have hE : EnvRel M β2 N st.env { tmps := r0.tmps, defers := [] } := by rw [hr0]; exact (Cf.env.mono (.refl M) hβ2).defers []
        have hyl' := rounds_ok (x' := x') (y' := y') (hyl.mono hM.1 (hβ.trans hβ2)) (r0 := r0) (m := m) (cx := cx) (call := call) (by rw [hr0]; exact hx) (by rw [hr0]; exact hy) (by rw [hr0]; exact hsf.1) (by rw [hr0]; exact hsf.2) (by rw [hr0]; exact hx') (by rw [hr0]; exact hy')
          (by rw [hr0]; exact fun d h => hd d (.inl h)) (fun d h => hd d (.inr (.inl h))) (fun d h => hd d (.inr (.inr h))) hib2 hib4 hE
        have hpar : r0.params.toList = ps.toList := by rw [hr0]
        rw [hpar] at hyl'
        have hc2 := hcall M β2 _ hyl' _ _ _ _ _ h M β2 w0 _ _ (.refl _) (.refl _) Cf.globs (by rw [get_set, get_set]; exact S2) hfr2 hrel
        simp only [Array.toArray_toList] at hc2
        rcases hc2 with ⟨_, hcalls⟩ | ⟨cv, w', hv, _⟩
        · refine hcalls.mono ?_
          rintro e w3 ⟨M', β', en, h', nid', hM', hβ', S', hf', hen, hK⟩
          cases en with
          | panicked ch => exact False.elim hK
          | returned v =>
            cases e with
            | panicked _ => exact False.elim hen
            | outgrown => exact False.elim hen
            | returned cv =>
              simp only at hK
              split at hK
              · rename_i hl
                have hib5 := hβ' _ _ hib2
                obtain ⟨r, q1, q2, q3, q4⟩ := S'.loop (isLoop_eq hl) hib5
                have q3' := q3
                rw [hib3] at q3'
                refine ⟨_, _, run_endLoop q3' (by simp), ?_⟩
                simp only [q2]
                refine ⟨M', β', .normal, { st with h := h'.put (st.nid + 1) none, nid := nid', dfr := .mark st.nid :: st.dfr }, hM.trans hM', hβ.trans (hβ2.trans hβ'), ⟨Cf.globs.mono hM'.1, (Cf.env.mono hM'.1 (hβ2.trans hβ')).defers _, ?_, hf', ?_⟩, trivial, hK⟩
                · rw [get_put, ← hib3]
                  exact S'.gone (isLoop_eq hl) rfl hib5 (Keeps.putObj q3 (fun _ _ _ h => by cases h) q4)
                · exact ⟨id, a.defers, hβ' _ _ hid2, by rw [hid3]; rfl, Cf.dfr.mono hM'.1 (hβ2.trans hβ')⟩
              · exact hK.elim
        · rw [hex] at hv
          cases hv
      · exact h.elim
    · exact h.elim
  · cases hc

theorem sound_range' {m : Nat} {g : Operand} {ps : Array Tmp} {x y : Code} (hr : r = none) (hcall : ∀ M β y, YldOk P gl M β y → CallOk P gl M β (call y)) (hfn : ∀ f, (cx.fn f).isSome = true → FnOk P f)
    (hyl : YldOk P gl M0 β0 yld) (hx : SoundFor P gl cx call m x) (hy : SoundFor P gl cx call m y) : Sound P gl cx call yld m N w0 M0 β0 r (.rangeFunc g ps x y) := by
  subst hr
  exact sound_range hcall hfn hyl hx hy

theorem sound (hcall : ∀ M β y, YldOk P gl M β y → CallOk P gl M β (call y)) (hdr : DrawnOk P gl cx) (hfn : ∀ f, (cx.fn f).isSome = true → FnOk P f) (m : Nat) : ∀ (c : Code) (N : Nat) (w0 : World) (M0 : Mem) (β0 : Places) (r : Option Nat) (yld : Yld Prop), YldOk P gl M0 β0 yld → (r = none ∨ scopeFree c = true) →
    Sound P gl cx call yld m N w0 M0 β0 r c ∧ ∀ l q, findLabel c l = some q → Sound P gl cx call yld m N w0 M0 β0 r q
  | .skip, N, w0, M0, β0, r, yld, hy, hs => ⟨fun c' hc hd M β st a w K hM hβ Cf h => by
      simp only [cCode] at hc; cases hc
      exact wpIn_skip ⟨M, β, .normal, st, hM, hβ, Cf, trivial, h⟩, fun l q2 h => by simp only [findLabel] at h; cases h⟩
  | .region id ops b, N, w0, M0, β0, r, yld, hy, hs => ⟨(fun c' hc hd M β st a w K hM hβ Cf h => by
      cases b
      · simp only [cCode, Option.map_eq_some_iff] at hc
        obtain ⟨l, hl, rfl⟩ := hc
        refine wpIn_region (evOps_ok (hs.imp (fun h => h) fun h o ho => by
          have := List.all_eq_true.1 (show (ops.toList.all fun o => !isDefer o.op) = true from h) o ho
          simpa using this) (hcall _ _ _ hy) hy ?_ hM hβ Cf h)
        have := Ops_of (n := 0) (N := N) (ops := ops) (l := ops.toList) (fun k o hk => by simpa using hk) hl hd
        rw [Array.length_toList, ← List.range_eq_range'] at this
        exact this
      · have hc' := hc
        simp only [cCode, Option.bind_eq_some_iff] at hc
        obtain ⟨_, _, _, _, hc⟩ := hc
        split at hc
        · cases hc
          simp only [evC] at h
          have hdf : r = none ∨ ∀ o ∈ ops.toList, isDefer o.op = false := hs.imp (fun h => h) fun h o ho => by
            have := List.all_eq_true.1 (show (ops.toList.all fun o => !isDefer o.op) = true from h) o ho
            simpa using this
          split at h
          · rename_i env hp hact
            exact hdr _ _ ops _ _ id N hc' hd (hcall _ _ _ hy) hy hM hβ Cf (.inl ⟨hact, h⟩) r hdf
          · exact hdr _ _ ops _ _ id N hc' hd (hcall _ _ _ hy) hy hM hβ Cf (env := .leaf) (h := .leaf) (.inr h) r hdf
        · cases hc), fun l q2 h => by simp only [findLabel] at h; cases h⟩
  | .seq x y, N, w0, M0, β0, r, yld, hy, hs => ⟨sound_seq (sound hcall hdr hfn m x N w0 M0 β0 r yld hy (sf_left hs)).1 (sound hcall hdr hfn m y N w0 M0 β0 r yld hy (sf_right hs)).1, fun l q2 h => by
      simp only [findLabel] at h
      split at h
      · rename_i rest hrest
        cases h
        exact sound_seq ((sound hcall hdr hfn m x N w0 M0 β0 r yld hy (sf_left hs)).2 _ _ hrest) (sound hcall hdr hfn m y N w0 M0 β0 r yld hy (sf_right hs)).1
      · exact (sound hcall hdr hfn m y N w0 M0 β0 r yld hy (sf_right hs)).2 _ _ h⟩
  | .cond q x y, N, w0, M0, β0, r, yld, hy, hs => ⟨sound_cond (sound hcall hdr hfn m x N w0 M0 β0 r yld hy (sf_left hs)).1 (sound hcall hdr hfn m y N w0 M0 β0 r yld hy (sf_right hs)).1, fun l q2 h => by simp only [findLabel] at h; cases h⟩
  | .block id x, N, w0, M0, β0, r, yld, hy, hs => ⟨sound_block (sound hcall hdr hfn m x N w0 M0 β0 r yld hy hs).1, fun l q2 h => by simp only [findLabel] at h; cases h⟩
  | .loop x, N, w0, M0, β0, r, yld, hy, hs => ⟨sound_loop (sound hcall hdr hfn m x N w0 M0 β0 r yld hy hs).1, fun l q2 h => by simp only [findLabel] at h; cases h⟩
  | .scope x, N, w0, M0, β0, r, yld, hy, hs =>
    have hr : r = none := hs.resolve_right (fun h => by cases h)
    ⟨sound_scope' hr (sound hcall hdr hfn m x N w0 M0 β0 r yld hy (.inl hr)).1 (sound hcall hdr hfn m x N w0 M0 β0 r yld hy (.inl hr)).2, fun l q2 h => by simp only [findLabel] at h; cases h⟩
  | .exit id, N, w0, M0, β0, r, yld, hy, hs => ⟨fun c' hc hd M β st a w K hM hβ Cf h => by
      simp only [cCode] at hc; cases hc
      exact wpIn_exit ⟨M, β, .exit id, st, hM, hβ, Cf, rfl, h⟩, fun l q2 h => by simp only [findLabel] at h; cases h⟩
  | .ret, N, w0, M0, β0, r, yld, hy, hs => ⟨fun c' hc hd M β st a w K hM hβ Cf h => by
      simp only [cCode] at hc; cases hc
      exact wpIn_ret ⟨M, β, .ret, st, hM, hβ, Cf, trivial, h⟩, fun l q2 h => by simp only [findLabel] at h; cases h⟩
  | .label q, N, w0, M0, β0, r, yld, hy, hs => ⟨fun c' hc hd M β st a w K hM hβ Cf h => by
      simp only [cCode] at hc; cases hc
      exact wpIn_label ⟨M, β, .normal, st, hM, hβ, Cf, trivial, h⟩, fun l q2 h => by
        simp only [findLabel] at h
        split at h
        · cases h
          exact fun c' hc hd M β st a w K hM hβ Cf h => by
            simp only [cCode] at hc; cases hc
            exact wpIn_skip ⟨M, β, .normal, st, hM, hβ, Cf, trivial, h⟩
        · cases h⟩
  | .goto q, N, w0, M0, β0, r, yld, hy, hs => ⟨fun c' hc hd M β st a w K hM hβ Cf h => by
      simp only [cCode] at hc; cases hc
      exact wpIn_goto ⟨M, β, .goto q, st, hM, hβ, Cf, rfl, h⟩, fun l q2 h => by simp only [findLabel] at h; cases h⟩
  | .rangeFunc g ps x y, N, w0, M0, β0, r, yld, hy, hs =>
    have hr : r = none := hs.resolve_right (fun h => by cases h)
    ⟨sound_range' hr hcall hfn hy (fun N w0 M0 β0 r yld hy hs => (sound hcall hdr hfn m x N w0 M0 β0 r yld hy hs).1) (fun N w0 M0 β0 r yld hy hs => (sound hcall hdr hfn m y N w0 M0 β0 r yld hy hs).1), fun l q2 h => by simp only [findLabel] at h; cases h⟩
  | .refuse _, N, w0, M0, β0, r, yld, hy, hs => ⟨(fun c' hc => by simp only [cCode] at hc; cases hc), fun l q2 h => by simp only [findLabel] at h; cases h⟩


/-! Texts that take up a panic at their beginning. -/
theorem wpSIn_mono' {F : Fence} {n : Nat} {c : Code} {Q Q' : Exit → Act → List Frame → World → Prop} {a : Act} {cs : List Frame} {w : World} (h : c.wpSIn F n P Q a cs w) (hq : ∀ e a cs w, Q e a cs w → Q' e a cs w) : c.wpSIn F n P Q' a cs w :=
  fun b k h1 h2 h3 h4 => let ⟨e, a', cs', w', l, q, r⟩ := h b k h1 h2 h3 h4; ⟨e, a', cs', w', l, hq _ _ _ _ q, r⟩

theorem cOp_recover {op : Op} (h : cOp P gl op = some .recover) : ∃ c, op = .call c ∧ c.callee = .builtin .recover := by
  cases op
  case call c =>
    simp only [cOp, Option.bind_eq_some_iff] at h
    obtain ⟨as', has, h⟩ := h
    split at h
    · simp at h
    · cases h
    · rename_i b hb
      refine ⟨c, rfl, ?_⟩
      rw [hb]
      (repeat' split at h) <;> simp_all [Option.bind_eq_some_iff]
  case defer c =>
    simp only [cOp, Option.bind_eq_some_iff] at h
    obtain ⟨as', has, h⟩ := h
    split at h <;> simp at h
  case slice t x lo hi mx =>
    simp only [cOp, Option.bind_eq_some_iff] at h
    obtain ⟨_, _, _, _, _, _, _, _, h⟩ := h
    (repeat' split at h) <;> simp_all [Option.bind_eq_some_iff]
    all_goals ((repeat' split at h) <;> simp_all)
  all_goals (simp only [cOp] at h; (repeat' split at h) <;> simp_all [Option.bind_eq_some_iff])

theorem recHead_ops {l : List O} {d : Option Nat} {c2 : C} (h : recHead (.ops l) = some (d, c2)) : l = [⟨d, .recover, none⟩] ∧ c2 = .skip := by
  unfold recHead at h
  split at h
  · rename_i heq; cases heq; cases h; exact ⟨rfl, rfl⟩
  · rename_i heq; cases heq
  · cases h

theorem rec_sound (hcall : ∀ M β y, YldOk P gl M β y → CallOk P gl M β (call y)) (hdr : DrawnOk P gl cx) (hfn : ∀ f, (cx.fn f).isSome = true → FnOk P f) (m : Nat) {cs0 cs1 : List Frame} {v : Value}
    (hrec : recoverD cs0 = some (v, cs1) ∨ (recoverD cs0 = none ∧ v = .nilIface ∧ cs1 = cs0)) :
    ∀ (c : Code) (c' : C) (d : Option Nat) (c2 : C), cCode P gl c = some c' → recHead c' = some (d, c2) → (∀ x ∈ c'.dsts, x < N) → ∀ {M : Mem} {β : Places} {st : FSt} {a : Act} {w : World} {vv : V} {K : Ex → FSt → Prop}, M0.on w0.heap.size M → β0.le β → Cfg gl M β N w0 st a w → Rel M β vv v →
      evC cx call noYld m c2 { st with env := putDst st.env d vv } K → c.wpSIn (fence none) 0 P (fun e a' cs' w' => cs' = cs1 ∧ Post gl N w0 M0 β0 K e a' w') a cs0 w
  | .region id ops false, c', d, c2, hc, hh, hd, M, β, st, a, w, vv, K, hM, hβ, Cf, hv, h => by
    simp only [cCode, Option.map_eq_some_iff] at hc
    obtain ⟨l, hl, rfl⟩ := hc
    obtain ⟨rfl, rfl⟩ := recHead_ops hh
    simp only [C.dsts] at hd
    obtain ⟨o, ho⟩ : ∃ o, ops.toList = [o] := by
      match e : ops.toList with
      | [] => rw [e] at hl; simp at hl
      | [o] => exact ⟨o, rfl⟩
      | x :: y :: z =>
        rw [e] at hl
        simp only [List.mapM_cons, Option.pure_def, Option.bind_eq_bind, Option.bind_eq_some_iff, Option.some.injEq] at hl
        obtain ⟨_, _, _, ⟨_, _, _, _, rfl⟩, hl⟩ := hl
        cases hl
    rw [ho] at hl
    simp only [List.mapM_cons, List.mapM_nil, Option.pure_def, Option.bind_eq_bind, Option.bind_eq_some_iff, Option.some.injEq] at hl
    obtain ⟨o', ho', _, rfl, hl⟩ := hl
    simp only [List.cons.injEq, and_true] at hl
    subst hl
    obtain ⟨hop, hdst⟩ := cOper_spec ho'
    have hw := Cf.wanted ho'
    obtain ⟨c, hoc, hcal⟩ := cOp_recover (hop.resolve_right (fun h => by cases h))
    have hsz : ops.size = 1 := by rw [← Array.length_toList, ho]; rfl
    have h0 : ops[0]? = some o := by rw [← Array.getElem?_toList, ho]; rfl
    have hex : (execOp a.eval o).run P w = .ok .recover w := by
      simp only [execOp, hoc, Go.resolve, hcal, Sem.run_bind, Sem.run_pure, Result.andThen_ok, invoke]
      rfl
    have hput : Cfg gl M β N w0 { st with env := putDst st.env d vv } (a.put o.dst v) w := by
      have := Cf.land (.refl M) (.refl β) Cf.sim (nid' := st.nid) Cf.fresh (d := d) (fun t ht => hd t (by simp [ht])) hv
      have hdst' : o.dst = d := hdst.symm
      rw [hdst']
      exact this
    have hfin : Post gl N w0 M0 β0 K .normal (a.put o.dst v) w := ⟨M, β, .normal, _, hM, hβ, hput, trivial, h⟩
    refine wpSIn_region ?_
    rw [hsz]
    show wpOpsSIn (fence none) 0 P ops _ [0] a cs0 w
    unfold wpOpsSIn
    simp only [h0]
    refine ⟨fun _ _ => trivial, ?_⟩
    have hwt : Region.wanted o (yielded ops a.tmps) = true := by rw [hw]; rfl
    rw [if_pos hwt, hex]
    simp only
    rcases hrec with hr | ⟨hr, rfl, rfl⟩
    · rw [hr]
      simp only
      exact ⟨rfl, hfin⟩
    · rw [hr]
      simp only
      exact ⟨rfl, hfin⟩
  | .seq x y, c', d, c2, hc, hh, hd, M, β, st, a, w, vv, K, hM, hβ, Cf, hv, h => by
    simp only [cCode, Option.bind_eq_some_iff, Option.map_eq_some_iff] at hc
    obtain ⟨x', hx', y', hy', rfl⟩ := hc
    simp only [recHead, Option.map_eq_some_iff, Prod.mk.injEq] at hh
    obtain ⟨⟨d1, x2⟩, hh1, rfl, rfl⟩ := hh
    simp only [C.dsts, List.mem_append] at hd
    simp only [evC] at h
    refine wpSIn_seq (wpSIn_mono' (rec_sound hcall hdr hfn m hrec x x' d1 x2 hx' hh1 (fun z hz => hd z (.inl hz)) hM hβ Cf hv h) ?_)
    rintro e a1 cs' w1 ⟨rfl, M', β', ex, st', h1, h2, h3, h4, h5⟩
    cases e <;> cases ex <;> first | exact False.elim h4 | skip
    all_goals simp only at h5
    · refine wpSIn_of_wpIn rfl (wpIn_mono ((sound hcall hdr hfn m y N w0 M0 β0 none noYld (YldOk.none P gl M0 β0) (.inl rfl)).1 y' hy' (fun z hz => hd z (.inr hz)) h1 h2 h3 h5) ?_)
      exact fun e a w h => ⟨rfl, h⟩
    all_goals exact ⟨rfl, M', β', _, st', h1, h2, h3, h4, h5⟩
  | .region id ops true, c', d, c2, hc, hh, hd, _, _, _, _, _, _, _, _, _, _, _, _ => by
    simp only [cCode, Option.bind_eq_some_iff] at hc
    obtain ⟨_, _, _, _, hc⟩ := hc
    split at hc
    · cases hc; simp [recHead] at hh
    · cases hc
  | .cond _ _ _, c', d, c2, hc, hh, hd, _, _, _, _, _, _, _, _, _, _, _, _ => by
    simp only [cCode, Option.bind_eq_some_iff, Option.map_eq_some_iff] at hc
    obtain ⟨_, _, _, _, _, _, rfl⟩ := hc
    simp [recHead] at hh
  | .block _ _, c', d, c2, hc, hh, hd, _, _, _, _, _, _, _, _, _, _, _, _ => by
    simp only [cCode, Option.map_eq_some_iff] at hc
    obtain ⟨_, _, rfl⟩ := hc
    simp [recHead] at hh
  | .loop _, c', d, c2, hc, hh, hd, _, _, _, _, _, _, _, _, _, _, _, _ => by
    simp only [cCode, Option.map_eq_some_iff] at hc
    obtain ⟨_, _, rfl⟩ := hc
    simp [recHead] at hh
  | .scope _, c', d, c2, hc, hh, hd, _, _, _, _, _, _, _, _, _, _, _, _ => by
    simp only [cCode, Option.bind_eq_some_iff] at hc
    obtain ⟨_, _, hc⟩ := hc
    split at hc
    · simp only [Option.map_eq_some_iff] at hc
      obtain ⟨_, _, rfl⟩ := hc
      simp [recHead] at hh
    · cases hc
  | .rangeFunc .., c', d, c2, hc, hh, hd, _, _, _, _, _, _, _, _, _, _, _, _ => by
    simp only [cCode] at hc
    split at hc
    · simp only [Option.bind_eq_some_iff, Option.map_eq_some_iff] at hc
      obtain ⟨_, _, _, _, _, _, rfl⟩ := hc
      simp [recHead] at hh
    · cases hc
  | .skip, c', d, c2, hc, hh, hd, _, _, _, _, _, _, _, _, _, _, _, _ => by simp only [cCode] at hc; cases hc; simp [recHead] at hh
  | .exit _, c', d, c2, hc, hh, hd, _, _, _, _, _, _, _, _, _, _, _, _ => by simp only [cCode] at hc; cases hc; simp [recHead] at hh
  | .ret, c', d, c2, hc, hh, hd, _, _, _, _, _, _, _, _, _, _, _, _ => by simp only [cCode] at hc; cases hc; simp [recHead] at hh
  | .label _, c', d, c2, hc, hh, hd, _, _, _, _, _, _, _, _, _, _, _, _ => by simp only [cCode] at hc; cases hc; simp [recHead] at hh
  | .goto _, c', d, c2, hc, hh, hd, _, _, _, _, _, _, _, _, _, _, _, _ => by simp only [cCode] at hc; cases hc; simp [recHead] at hh
  | .refuse _, c', d, c2, hc, hh, hd, _, _, _, _, _, _, _, _, _, _, _, _ => by simp only [cCode] at hc; cases hc

end
end Go.Abs

/-
  ABS, part 24: objects are held fast; values with all they lead to, inline.
-/
namespace Go.Abs
open Go Go.RowKit
set_option linter.unusedSectionVars false
variable [Syms]

/-- An object's contents stand in what is never written any more. -/
def HeldO (M : Mem) (β : Places) (b : Nat) : AObj → Prop
  | .cells cs _ _ _ => ∃ i, β b = some i ∧ ∀ k v, cs[k]? = some v → v.one = true ∧ ∃ c, M.c ⟨i.blk, i.off + k, none⟩ = some c ∧ Rel M β v c
  | .map es _ _ => ∃ i ces clock, β b = some i ∧ M.o i.blk = some (.map ces clock) ∧ RelEnt M β es ces.toList ∧ (∀ e ∈ ces.toList, e.born < clock) ∧ (ces.toList.map (·.born)).Nodup
  | _ => True

section
variable {M M' : Mem} {β : Places} {w0 w : World}

theorem HeldO.mono (hM : M.le M') {b : Nat} : ∀ {o : AObj}, HeldO M β b o → HeldO M' β b o
  | .cells .., ⟨i, hi, h⟩ => ⟨i, hi, fun k v hk => by
      obtain ⟨h1, c, h2, h3⟩ := h k v hk
      exact ⟨h1, c, hM.1 _ _ h2, h3.mono hM (.refl β)⟩⟩
  | .map .., ⟨i, ces, clock, hi, h1, h2, h3, h4⟩ => ⟨i, ces, clock, hi, hM.2 _ _ h1, RelEnt.mono hM (.refl β) _ _ h2, h3, h4⟩
  | .mapIter .., h => h
  | .rmapIter .., h => h
  | .strIter .., h => h
  | .loop _, h => h
  | .shut, h => h

theorem HeldO.freeze {b : Nat} : ∀ {o : AObj}, HeldO M β b o.freeze → HeldO M β b o
  | .cells .., h => h
  | .map .., h => h
  | .mapIter .., h => h
  | .rmapIter .., h => h
  | .strIter .., h => h
  | .loop _, h => h
  | .shut, h => h

theorem ObjSim.grow (hM : M.le M') {i : Place} {o : AObj} (hc : o.owns = true → ∀ a c, M'.c a = some c → a.block = i.blk → M.c a = some c) (ho : o.owns = true → M'.o i.blk = M.o i.blk) (h : ObjSim M β w i o) : ObjSim M' β w i o := by
  cases o with
  | cells cs esz fz sp =>
    cases sp with
    | false =>
      obtain ⟨h1, h2, arr, T, fr, C⟩ := h
      refine ⟨h1, h2, arr, T, fr, ⟨C.blk, C.size, C.thaw, C.fits, fun k v hk => ?_, C.fzle, fun e k c hk he => hM.1 _ _ (C.ice e k c hk he), fun a c ha hb => C.free a c (hc rfl a c ha hb) hb⟩⟩
      obtain ⟨h3, c, h4, h5⟩ := C.rel k v hk
      exact ⟨h3, c, h4, h5.mono hM (.refl β)⟩
    | true =>
      obtain ⟨h1, h2, h3⟩ := h
      refine ⟨h1, h2, fun k v hk => ?_⟩
      obtain ⟨h4, c, h5, h6⟩ := h3 k v hk
      exact ⟨h4, c, hM.1 _ _ h5, h6.mono hM (.refl β)⟩
  | map es clock fzn =>
    obtain ⟨ces, h1, h2, h3, h4, h5, h6⟩ := h
    exact ⟨ces, h1, RelEnt.mono hM (.refl β) _ _ h2, h3, h4, fun e => hM.2 _ _ (h5 e), fun e => by rw [ho rfl]; exact h6 e⟩
  | mapIter m since seen last =>
    obtain ⟨h1, h2, h3⟩ := h
    exact ⟨h1, by rw [ho rfl]; exact h2, h3⟩
  | rmapIter ks vs seen =>
    obtain ⟨⟨r, ces, clock, last, h1, h2, h3, h4, h5, h6, h7, h8⟩, h9, h10⟩ := h
    exact ⟨⟨r, ces, clock, last, h1, h2, h3, hM.2 _ _ h4, RelKs.mono hM (.refl β) _ _ h5, RelVs.mono hM (.refl β) _ _ h6, h7, h8⟩, by rw [ho rfl]; exact h9, h10⟩
  | strIter s pos =>
    obtain ⟨h1, h2, h3⟩ := h
    exact ⟨h1, by rw [ho rfl]; exact h2, h3⟩
  | loop busy =>
    obtain ⟨h1, h2⟩ := h
    exact ⟨h1, by rw [ho rfl]; exact h2⟩
  | shut =>
    obtain ⟨h1, h2⟩ := h
    exact ⟨h1, by rw [ho rfl]; exact h2⟩

theorem Sim.grow {h : View} (S : Sim M β h w0 w) (hM : M.le M') {B : Nat} (hc : ∀ a c, M'.c a = some c → M.c a = some c ∨ a.block = B) (ho : ∀ r, r ≠ B → M'.o r = M.o r)
    (hmem : ∀ a c, M'.c a = some c → w.cell? a = some c) (hmemo : ∀ r o, M'.o r = some o → w.heap[r]? = some o) (hmaps : ∀ r o, M'.o r = some o → ∃ es clock, o = .map es clock)
    (hno : ∀ b o i, h b = some o → β b = some i → o.owns = true → i.blk ≠ B) : Sim M' β h w0 w where
  below := S.below
  mem := hmem
  memo := hmemo
  maps := hmaps
  sane := S.sane
  obj b o e := by
    obtain ⟨i, hi, hb, hs⟩ := S.obj b o e
    refine ⟨i, hi, hb, hs.grow hM (fun hown a c ha hab => ?_) (fun hown => ho _ (hno b o i e hi hown))⟩
    rcases hc a c ha with h | h
    · exact h
    · exact absurd (hab.symm.trans h) (hno b o i e hi hown)
  sep := S.sep

/-- One object is held fast. -/
theorem Sim.freeze {h : Heap} (S : Sim M β h.get w0 w) {b : Nat} {o : AObj} (hb : h.get b = some o) :
    ∃ M', M.le M' ∧ M.above w0.heap.size M' ∧ Sim M' β (h.set b o.freeze).get w0 w ∧ HeldO M' β b o := by
  obtain ⟨i, hi, hbase, hs⟩ := S.obj b o hb
  have hno : o.owns = true → ∀ b' o' i', upd h.get b none b' = some o' → β b' = some i' → o'.owns = true → i'.blk ≠ i.blk := fun ho b' o' i' hb' hi' hown => by
    by_cases e : b' = b
    · subst e; rw [upd_eq] at hb'; cases hb'
    · rw [upd_ne _ _ e] at hb'
      exact S.sep b' b o' _ i' i e hb' hb hi' hi hown ho
  have hset : ∀ o', upd (upd h.get b none) b (some o') = (h.set b o').get := fun o' => by
    rw [get_set]
    funext x
    by_cases e : x = b
    · subst e; rw [upd_eq, upd_eq]
    · rw [upd_ne _ _ e, upd_ne _ _ e, upd_ne _ _ e]
  cases o with
  | cells cs esz fz sp =>
    cases sp with
    | true =>
      obtain ⟨h1, h2, h3⟩ := hs
      refine ⟨M, .refl M, .refl _ M, ?_, ⟨i, hi, h3⟩⟩
      rw [← hset]
      exact (S.drop b).put hi hbase ⟨h1, h2, h3⟩ (fun h => by cases h)
    | false =>
      obtain ⟨h1, h2, arr, T, fr, C⟩ := hs
      let f : Addr → Option Value := fun a => match M.c a with
        | some c => some c
        | none => if a.block = i.blk ∧ i.off ≤ a.off ∧ a.off < i.off + cs.length ∧ a.spot = none then arr[a.off]? else none
      have hf : ∀ a c, f a = some c → M.c a = some c ∨ (a.block = i.blk ∧ i.off ≤ a.off ∧ a.off < i.off + cs.length ∧ a.spot = none ∧ arr[a.off]? = some c) := fun a c ha => by
        simp only [f] at ha
        split at ha
        · rename_i c' hc'; cases ha; exact .inl hc'
        · split at ha
          · rename_i hq; exact .inr ⟨hq.1, hq.2.1, hq.2.2.1, hq.2.2.2, ha⟩
          · cases ha
      have hcell : ∀ a c, f a = some c → w.cell? a = some c := fun a c ha => by
        rcases hf a c ha with h | ⟨e1, _, _, e4, e5⟩
        · exact S.mem a c h
        · obtain ⟨B, O, sp⟩ := a
          simp only at e1 e4 e5
          subst e1; subst e4
          rw [cell?_of C.blk]; exact e5
      have hfr : ∀ k c, k < cs.length → arr[i.off + k]? = some c → f ⟨i.blk, i.off + k, none⟩ = some c := fun k c hk hc => by
        simp only [f]
        split
        · rename_i c' hc'
          have := S.mem _ _ hc'
          rw [cell?_of C.blk, hc] at this
          exact this.symm
        · rw [if_pos ⟨trivial, by omega, by omega, trivial⟩]; exact hc
      let M' : Mem := ⟨f, M.o⟩
      have hM : M.le M' := ⟨fun a c h => by simp only [M', f, h], fun _ _ h => h⟩
      have hrel : ∀ k v, cs[k]? = some v → v.one = true ∧ ∃ c, arr[i.off + k]? = some c ∧ Rel M' β v c := fun k v hk => by
        obtain ⟨h3, c, h4, h5⟩ := C.rel k v hk
        exact ⟨h3, c, h4, h5.mono hM (.refl β)⟩
      refine ⟨M', hM, ⟨fun a c ha => ?_, fun _ _ h => .inl h⟩, ?_, ⟨i, hi, fun k v hk => ?_⟩⟩
      · rcases hf a c ha with h | ⟨e1, _⟩
        · exact .inl h
        · right; rw [e1]; exact hbase
      · rw [← hset]
        have S1 : Sim M' β (upd h.get b none) w0 w := (S.drop b).grow hM (B := i.blk) (fun a c ha => (hf a c ha).imp id (·.1)) (fun _ _ => rfl) hcell S.memo S.maps (hno rfl)
        refine S1.put hi hbase ⟨h1, h2, arr, T, fr, ⟨C.blk, C.size, C.thaw, C.fits, hrel, Nat.le_refl _, fun _ k c hk hc => hfr k c hk hc, fun a c ha hab => ?_⟩⟩ (fun _ => fun b' o' i' hne hb' => hno rfl b' o' i' hb')
        rcases hf a c ha with h | ⟨_, _, e3, _⟩
        · have := C.free a c h hab
          have := C.fzle
          omega
        · exact e3
      · obtain ⟨h3, c, h4, h5⟩ := hrel k v hk
        exact ⟨h3, c, hfr k c (by
          rcases Nat.lt_or_ge k cs.length with h | h
          · exact h
          · rw [List.getElem?_eq_none h] at hk; cases hk) h4, h5⟩
  | map es clock fzn =>
    obtain ⟨ces, h1, h2, h3, h4, h5, h6⟩ := hs
    let M' : Mem := ⟨M.c, fun r => if r = i.blk then some (.map ces clock) else M.o r⟩
    have hM : M.le M' := ⟨fun _ _ h => h, fun r o h => by
      simp only [M']
      split
      · rename_i e; subst e
        have := S.memo _ _ h
        rw [h1] at this
        exact this
      · exact h⟩
    refine ⟨M', hM, ⟨fun _ _ h => .inl h, fun r o h => ?_⟩, ?_, ⟨i, ces, clock, hi, by simp [M'], RelEnt.mono hM (.refl β) _ _ h2, h3, h4⟩⟩
    · simp only [M'] at h
      split at h
      · rename_i e; subst e; exact .inr hbase
      · exact .inl h
    · rw [← hset]
      have S1 : Sim M' β (upd h.get b none) w0 w := (S.drop b).grow hM (B := i.blk) (fun _ _ h => .inl h) (fun r hr => by simp only [M']; rw [if_neg hr]) S.mem (fun r o h => by
          simp only [M'] at h
          split at h
          · rename_i e; subst e; cases h; exact h1
          · exact S.memo _ _ h) (fun r o h => by
          simp only [M'] at h
          split at h
          · cases h; exact ⟨_, _, rfl⟩
          · exact S.maps _ _ h) (hno rfl)
      exact S1.put hi hbase ⟨ces, h1, RelEnt.mono hM (.refl β) _ _ h2, h3, h4, fun _ => by simp [M'], fun h => by cases h⟩ (fun _ => fun b' o' i' hne hb' => hno rfl b' o' i' hb')
  | mapIter m since seen last =>
    refine ⟨M, .refl M, .refl _ M, ?_, trivial⟩
    rw [← hset]
    exact (S.drop b).put hi hbase hs (fun _ => fun b' o' i' hne hb' => hno rfl b' o' i' hb')
  | rmapIter ks vs seen =>
    refine ⟨M, .refl M, .refl _ M, ?_, trivial⟩
    rw [← hset]
    exact (S.drop b).put hi hbase hs (fun _ => fun b' o' i' hne hb' => hno rfl b' o' i' hb')
  | strIter s pos =>
    refine ⟨M, .refl M, .refl _ M, ?_, trivial⟩
    rw [← hset]
    exact (S.drop b).put hi hbase hs (fun _ => fun b' o' i' hne hb' => hno rfl b' o' i' hb')
  | loop busy =>
    refine ⟨M, .refl M, .refl _ M, ?_, trivial⟩
    rw [← hset]
    exact (S.drop b).put hi hbase hs (fun _ => fun b' o' i' hne hb' => hno rfl b' o' i' hb')
  | shut =>
    refine ⟨M, .refl M, .refl _ M, ?_, trivial⟩
    rw [← hset]
    exact (S.drop b).put hi hbase hs (fun _ => fun b' o' i' hne hb' => hno rfl b' o' i' hb')

theorem Sim.freezeAll : ∀ (l : List Nat) {M : Mem} {h : Heap}, Sim M β h.get w0 w →
    ∃ M', M.le M' ∧ M.above w0.heap.size M' ∧ Sim M' β (freezeAll h l).get w0 w ∧ ∀ b ∈ l, ∀ o, h.get b = some o → HeldO M' β b o
  | [], M, h, S => ⟨M, .refl M, .refl _ M, S, fun b hb => by cases hb⟩
  | b :: l, M, h, S => by
    simp only [Abs.freezeAll]
    cases hb : h.get b with
    | none =>
      obtain ⟨M', h1, h2, h3, h4⟩ := Sim.freezeAll l S
      refine ⟨M', h1, h2, h3, fun x hx o ho => ?_⟩
      rcases List.mem_cons.1 hx with e | hx
      · subst e; rw [hb] at ho; cases ho
      · exact h4 x hx o ho
    | some o =>
      obtain ⟨M1, h1, h2, h3, h4⟩ := S.freeze hb
      obtain ⟨M', k1, k2, k3, k4⟩ := Sim.freezeAll l h3
      refine ⟨M', h1.trans k1, h2.trans k2, k3, fun x hx o' ho => ?_⟩
      by_cases e : x = b
      · subst e; rw [hb] at ho; cases ho; exact h4.mono k1
      · rcases List.mem_cons.1 hx with e' | hx
        · exact absurd e' e
        · exact k4 x hx o' (by rw [get_set, upd_ne _ _ e]; exact ho)

/-! Inline. -/
theorem RelKs_of {M : Mem} {β β' : Places} : ∀ {es : List (V × V × Nat)} {ces : List MapEntry} {ks : List V}, RelEnt M β es ces → RelL M β' ks (ces.map (·.key)) → V.imm.imms ks = true → RelKs M β' ks ces
  | [], _, [], h, k, _ => by simp only [RelEnt] at h; subst h; simp only [RelKs]
  | [], _, _ :: _, h, k, _ => by simp only [RelEnt] at h; subst h; simp only [List.map_nil, RelL] at k; obtain ⟨_, _, h, _⟩ := k; cases h
  | e :: es, _, ks, h, k, hi => by
    simp only [RelEnt] at h
    obtain ⟨m, ms, rfl, h1, h2, h3, h4⟩ := h
    cases ks with
    | nil => simp only [List.map_cons, RelL] at k; cases k
    | cons v vs =>
      simp only [List.map_cons, RelL] at k
      obtain ⟨c, cs, he, hc, hcs⟩ := k
      cases he
      simp only [V.imm.imms, Bool.and_eq_true] at hi
      simp only [RelKs]
      exact ⟨m, ms, rfl, hi.1, hc, RelKs_of h4 hcs hi.2⟩

theorem RelVs_of {M : Mem} {β β' : Places} : ∀ {es : List (V × V × Nat)} {ces : List MapEntry} {ks : List V}, RelEnt M β es ces → RelL M β' ks (ces.map (·.val)) → V.imm.imms ks = true → RelVs M β' ks ces
  | [], _, [], h, k, _ => by simp only [RelEnt] at h; subst h; simp only [RelVs]
  | [], _, _ :: _, h, k, _ => by simp only [RelEnt] at h; subst h; simp only [List.map_nil, RelL] at k; obtain ⟨_, _, h, _⟩ := k; cases h
  | e :: es, _, ks, h, k, hi => by
    simp only [RelEnt] at h
    obtain ⟨m, ms, rfl, h1, h2, h3, h4⟩ := h
    cases ks with
    | nil => simp only [List.map_cons, RelL] at k; cases k
    | cons v vs =>
      simp only [List.map_cons, RelL] at k
      obtain ⟨c, cs, he, hc, hcs⟩ := k
      cases he
      simp only [V.imm.imms, Bool.and_eq_true] at hi
      simp only [RelVs]
      exact ⟨m, ms, rfl, hi.1, hc, RelVs_of h4 hcs hi.2⟩

theorem RelEnt.keys {M : Mem} {β : Places} : ∀ {es : List (V × V × Nat)} {ces : List MapEntry}, RelEnt M β es ces → RelL M β (es.map (·.1)) (ces.map (·.key))
  | [], _, h => by simp only [RelEnt] at h; subst h; simp only [List.map_nil, RelL]
  | e :: es, _, h => by
    simp only [RelEnt] at h
    obtain ⟨m, ms, rfl, h1, h2, h3, h4⟩ := h
    simp only [List.map_cons, RelL]
    exact ⟨_, _, rfl, h1, RelEnt.keys h4⟩

theorem RelEnt.vals {M : Mem} {β : Places} : ∀ {es : List (V × V × Nat)} {ces : List MapEntry}, RelEnt M β es ces → RelL M β (es.map (·.2.1)) (ces.map (·.val))
  | [], _, h => by simp only [RelEnt] at h; subst h; simp only [List.map_nil, RelL]
  | e :: es, _, h => by
    simp only [RelEnt] at h
    obtain ⟨m, ms, rfl, h1, h2, h3, h4⟩ := h
    simp only [List.map_cons, RelL]
    exact ⟨_, _, rfl, h2, RelEnt.vals h4⟩

theorem imms_get : ∀ {l : List V} {k : Nat} {v : V}, V.imm.imms l = true → l[k]? = some v → v.imm = true
  | x :: l, k, v, h, e => by
    simp only [V.imm.imms, Bool.and_eq_true] at h
    cases k with
    | zero => simp at e; subst e; exact h.1
    | succ k => simp at e; exact imms_get h.2 e

mutual
theorem reify_one {g : View} : ∀ {d : Nat} {v v' : V}, reify g d v = some v' → v'.one = v.one ∧ v'.imm = true
  | 0, v, v', h => by simp only [reify] at h; cases h
  | d + 1, v, v', h => by
    cases v <;> simp only [reify] at h
    case ptr b off =>
      split at h
      · simp only [Option.map_eq_some_iff] at h; obtain ⟨_, _, rfl⟩ := h; exact ⟨rfl, rfl⟩
      · cases h
    case slice b off len cap =>
      split at h
      · simp only [Option.map_eq_some_iff] at h; obtain ⟨_, _, rfl⟩ := h; exact ⟨rfl, rfl⟩
      · cases h
    case map b =>
      split at h
      · simp only [Option.bind_eq_some_iff, Option.map_eq_some_iff] at h; obtain ⟨_, _, _, _, rfl⟩ := h; exact ⟨rfl, rfl⟩
      · cases h
    case func fn a b =>
      split at h
      case isFalse => cases h
      rename_i hny
      simp only [Option.bind_eq_some_iff, Option.map_eq_some_iff] at h
      obtain ⟨a', ha, b', hb, rfl⟩ := h
      refine ⟨rfl, ?_⟩
      simp only [V.imm, hny, reifyL_imm ha, reifyL_imm hb, Bool.and_self]
    case iface t v =>
      simp only [Option.map_eq_some_iff] at h
      obtain ⟨v', hv, rfl⟩ := h
      exact ⟨rfl, by simp only [V.imm]; exact (reify_one hv).2⟩
    case agg cs =>
      simp only [Option.map_eq_some_iff] at h
      obtain ⟨v', hv, rfl⟩ := h
      exact ⟨rfl, by simp only [V.imm]; exact reifyL_imm hv⟩
    case tuple cs =>
      simp only [Option.map_eq_some_iff] at h
      obtain ⟨v', hv, rfl⟩ := h
      exact ⟨rfl, by simp only [V.imm]; exact reifyL_imm hv⟩
    all_goals (cases h; exact ⟨rfl, rfl⟩)
theorem reifyL_imm {g : View} : ∀ {d : Nat} {l l' : List V}, reifyL g d l = some l' → V.imm.imms l' = true
  | 0, l, l', h => by simp only [reifyL] at h; cases h
  | d + 1, [], l', h => by simp only [reifyL] at h; cases h; rfl
  | d + 1, v :: vs, l', h => by
    simp only [reifyL, Option.bind_eq_some_iff, Option.map_eq_some_iff] at h
    obtain ⟨v', hv, vs', hvs, rfl⟩ := h
    simp only [V.imm.imms, (reify_one hv).2, reifyL_imm hvs, Bool.and_self]
end

theorem reifyL_get {g : View} : ∀ {d : Nat} {l l' : List V}, reifyL g d l = some l' → l'.length = l.length ∧ ∀ (k : Nat) (v' : V), l'[k]? = some v' → ∃ v : V, l[k]? = some v ∧ v'.one = v.one
  | 0, l, l', h => by simp only [reifyL] at h; cases h
  | d + 1, [], l', h => by simp only [reifyL] at h; cases h; exact ⟨rfl, fun k v' h => by simp at h⟩
  | d + 1, v :: vs, l', h => by
    simp only [reifyL, Option.bind_eq_some_iff, Option.map_eq_some_iff] at h
    obtain ⟨v', hv, vs', hvs, rfl⟩ := h
    obtain ⟨h1, h2⟩ := reifyL_get hvs
    refine ⟨by simp [h1], fun k q hq => ?_⟩
    cases k with
    | zero => simp at hq; subst hq; exact ⟨v, rfl, (reify_one hv).1⟩
    | succ k => simp at hq; simpa using h2 k q hq

/-- A row from cells that are held. -/
theorem row_of {M : Mem} {β : Places} {g : View} {d : Nat} {cs row : List V} {i : Place} (hr : reifyL g d cs = some row) (h : ∀ k v, cs[k]? = some v → v.one = true ∧ ∃ c, M.c ⟨i.blk, i.off + k, none⟩ = some c ∧ Rel M β v c)
    (ih : ∀ (l : List Value), RelL M β cs l → ∀ β', RelL M β' row l) (β' : Places) : RelRow M β' row i.blk i.off := by
  obtain ⟨hlen, hone⟩ := reifyL_get hr
  have himm := reifyL_imm hr
  have hex : ∀ k : Nat, k < cs.length → ∃ c, M.c ⟨i.blk, i.off + k, none⟩ = some c := fun k hk => by
    obtain ⟨_, c, h1, _⟩ := h k cs[k] (List.getElem?_eq_getElem hk)
    exact ⟨c, h1⟩
  let l : List Value := (List.range cs.length).map fun k => ((M.c ⟨i.blk, i.off + k, none⟩).getD undef)
  have hl : ∀ k, k < cs.length → l[k]? = some ((M.c ⟨i.blk, i.off + k, none⟩).getD undef) := fun k hk => by
    simp [l, hk]
  have hL : RelL M β cs l := RelL.of_get (by simp [l]) fun k v hk => by
    obtain ⟨_, c, h1, h2⟩ := h k v hk
    have hk' : k < cs.length := by
      rcases Nat.lt_or_ge k cs.length with h | h
      · exact h
      · rw [List.getElem?_eq_none h] at hk; cases hk
    exact ⟨c, by rw [hl k hk', h1]; rfl, h2⟩
  refine RelRow.of_get fun k v' hk => ?_
  have hk' : k < cs.length := by
    rw [← hlen]
    rcases Nat.lt_or_ge k row.length with h | h
    · exact h
    · rw [List.getElem?_eq_none h] at hk; cases hk
  obtain ⟨c, hc1, hc2⟩ := (ih l hL β').get hk
  rw [hl k hk'] at hc1
  obtain ⟨c', hc'⟩ := hex k hk'
  rw [hc'] at hc1
  simp only [Option.getD_some, Option.some.injEq] at hc1
  subst hc1
  obtain ⟨v, hv, ho⟩ := hone k v' hk
  exact ⟨c', hc', imms_get himm hk, by rw [ho]; exact (h k v hv).1, hc2⟩

mutual
theorem reify_rel {g : View} : ∀ {d : Nat} {v v' : V} {c : Value}, (∀ b ∈ touched g d v, ∀ o, g b = some o → HeldO M β b o) → reify g d v = some v' → Rel M β v c → ∀ β', Rel M β' v' c
  | 0, v, v', c, H, h, R => by simp only [reify] at h; cases h
  | d + 1, v, v', c, H, h, R => by
    intro β'
    cases v <;> simp only [reify] at h
    case ptr b off =>
      split at h
      · rename_i cs esz fz sp hb
        simp only [Option.map_eq_some_iff] at h
        obtain ⟨row, hrow, rfl⟩ := h
        simp only [touched, hb, List.mem_cons] at H
        obtain ⟨i, hi, hh⟩ := H b (.inl rfl) _ hb
        simp only [Rel] at R
        obtain ⟨i', hi', rfl⟩ := R
        rw [hi] at hi'; cases hi'
        simp only [Rel]
        exact ⟨i.blk, i.off, row_of hrow hh (fun l hl => reifyL_rel (fun b hb => H b (.inr hb)) hrow hl) β', rfl⟩
      · cases h
    case slice b off len cap =>
      split at h
      · rename_i cs esz fz sp hb
        simp only [Option.map_eq_some_iff] at h
        obtain ⟨row, hrow, rfl⟩ := h
        simp only [touched, hb, List.mem_cons] at H
        obtain ⟨i, hi, hh⟩ := H b (.inl rfl) _ hb
        simp only [Rel] at R
        obtain ⟨i', n, hi', h1, h2, h3, h4, a, rfl, h5⟩ := R
        rw [hi] at hi'; cases hi'
        simp only [Rel]
        exact ⟨i.blk, i.off, n, row_of hrow hh (fun l hl => reifyL_rel (fun b hb => H b (.inr hb)) hrow hl) β', h1, (fun k h => by cases h), a, rfl, h5⟩
      · cases h
    case map b =>
      split at h
      · rename_i es clock fzn hb
        simp only [Option.bind_eq_some_iff, Option.map_eq_some_iff] at h
        obtain ⟨ks, hks, vs, hvs, rfl⟩ := h
        simp only [touched, hb, List.mem_cons, List.mem_append] at H
        obtain ⟨i, ces, clk, hi, hh, hent, hborn, hnd⟩ := H b (.inl rfl) _ hb
        simp only [Rel] at R
        obtain ⟨i', hi', rfl⟩ := R
        rw [hi] at hi'; cases hi'
        simp only [Rel]
        refine ⟨i.blk, ces, clk, rfl, hh, RelKs_of hent (reifyL_rel (fun b hb => H b (.inr (.inl hb))) hks hent.keys β') (reifyL_imm hks), RelVs_of hent (reifyL_rel (fun b hb => H b (.inr (.inr hb))) hvs hent.vals β') (reifyL_imm hvs), hborn, hnd⟩
      · cases h
    case func fn a b =>
      split at h
      case isFalse => cases h
      rename_i hny
      simp only [Option.bind_eq_some_iff, Option.map_eq_some_iff] at h
      obtain ⟨a', ha, b', hb, rfl⟩ := h
      simp only [touched, List.mem_append] at H
      simp only [Rel] at R ⊢
      obtain ⟨f', x, y, hf', rfl, hx, hy⟩ := R
      exact ⟨f', x, y, hf'.plain hny, rfl, reifyL_rel (fun b hb => H b (.inl hb)) ha hx β', reifyL_rel (fun b hb => H b (.inr hb)) hb hy β'⟩
    case iface t v =>
      simp only [Option.map_eq_some_iff] at h
      obtain ⟨v', hv, rfl⟩ := h
      simp only [touched] at H
      simp only [Rel] at R ⊢
      obtain ⟨x, rfl, hx⟩ := R
      exact ⟨x, rfl, reify_rel H hv hx β'⟩
    case agg cs =>
      simp only [Option.map_eq_some_iff] at h
      obtain ⟨v', hv, rfl⟩ := h
      simp only [touched] at H
      simp only [Rel] at R ⊢
      obtain ⟨x, rfl, hx⟩ := R
      exact ⟨x, rfl, reifyL_rel H hv hx β'⟩
    case tuple cs =>
      simp only [Option.map_eq_some_iff] at h
      obtain ⟨v', hv, rfl⟩ := h
      simp only [touched] at H
      simp only [Rel] at R ⊢
      obtain ⟨x, rfl, hx⟩ := R
      exact ⟨x, rfl, reifyL_rel H hv hx β'⟩
    all_goals (cases h; exact Rel.imm _ _ rfl R)
theorem reifyL_rel {g : View} : ∀ {d : Nat} {l l' : List V} {c : List Value}, (∀ b ∈ touchedL g d l, ∀ o, g b = some o → HeldO M β b o) → reifyL g d l = some l' → RelL M β l c → ∀ β', RelL M β' l' c
  | 0, l, l', c, H, h, R => by simp only [reifyL] at h; cases h
  | d + 1, [], l', c, H, h, R => by
    intro β'
    simp only [reifyL] at h; cases h
    simp only [RelL] at R ⊢; exact R
  | d + 1, v :: vs, l', c, H, h, R => by
    intro β'
    simp only [reifyL, Option.bind_eq_some_iff, Option.map_eq_some_iff] at h
    obtain ⟨v', hv, vs', hvs, rfl⟩ := h
    simp only [touchedL, List.mem_append] at H
    simp only [RelL] at R ⊢
    obtain ⟨x, xs, rfl, hx, hxs⟩ := R
    exact ⟨x, xs, rfl, reify_rel (fun b hb => H b (.inl hb)) hv hx β', reifyL_rel (fun b hb => H b (.inr hb)) hvs hxs β'⟩
end

end
end Go.Abs

/-
  ABS, part 25: calls that are told by functions on values.
-/
namespace Go.Abs
open Go Go.RowKit
set_option linter.unusedSectionVars false
variable [Syms]

structure MemOk (M : Mem) (w : World) : Prop where
  mem : ∀ a c, M.c a = some c → w.cell? a = some c
  memo : ∀ r o, M.o r = some o → w.heap[r]? = some o
  maps : ∀ r o, M.o r = some o → ∃ es clock, o = .map es clock

abbrev nowhere : Places := fun _ => none

/-- A function's answer, told on values. -/
def PureSpec (P : Program) (gl : Nat → Option (List V)) (f : FuncId) (F : List V → Option V) : Prop :=
  ∀ (M : Mem) (args : List V) (cargs : List Value) (r : V) (w : World), Globs gl M → MemOk M w → V.imm.imms args = true → RelL M nowhere args cargs → F args = some r →
    OpCall P f cargs.toArray w fun e w' => ∃ M' c, e = .returned c ∧ M.le M' ∧ M.above w.heap.size M' ∧ MemOk M' w' ∧ Below w.heap.size w w' ∧ r.imm = true ∧ Rel M' nowhere r c

mutual
theorem Rel.flat {M M' : Mem} {β β' : Places} : ∀ (v : V) (c : Value), v.flat = true → Rel M β v c → Rel M' β' v c
  | .bool _, c, _, h => by simp only [Rel] at h ⊢; exact h
  | .int .., c, _, h => by simp only [Rel] at h ⊢; exact h
  | .str _, c, _, h => by simp only [Rel] at h ⊢; exact h
  | .nilPtr, c, _, h => by simp only [Rel] at h ⊢; exact h
  | .nilSlice, c, _, h => by simp only [Rel] at h ⊢; exact h
  | .nilMap, c, _, h => by simp only [Rel] at h ⊢; exact h
  | .nilFunc, c, _, h => by simp only [Rel] at h ⊢; exact h
  | .nilIface, c, _, h => by simp only [Rel] at h ⊢; exact h
  | .sym _, c, _, h => by simp only [Rel] at h ⊢; exact h
  | .sstr _, c, _, h => by simp only [Rel] at h ⊢; exact h
  | .iface t v, c, hf, h => by
    simp only [V.flat] at hf
    simp only [Rel] at h ⊢
    obtain ⟨d, e, hd⟩ := h
    exact ⟨d, e, Rel.flat v d hf hd⟩
  | .agg cs, c, hf, h => by
    simp only [V.flat] at hf
    simp only [Rel] at h ⊢
    obtain ⟨d, e, hd⟩ := h
    exact ⟨d, e, RelL.flat cs _ hf hd⟩
  | .tuple cs, c, hf, h => by
    simp only [V.flat] at hf
    simp only [Rel] at h ⊢
    obtain ⟨d, e, hd⟩ := h
    exact ⟨d, e, RelL.flat cs _ hf hd⟩
  | .ptr .., _, hf, _ => by simp [V.flat] at hf
  | .rptr .., _, hf, _ => by simp [V.flat] at hf
  | .slice .., _, hf, _ => by simp [V.flat] at hf
  | .rslice .., _, hf, _ => by simp [V.flat] at hf
  | .map _, _, hf, _ => by simp [V.flat] at hf
  | .rmap .., _, hf, _ => by simp [V.flat] at hf
  | .func .., _, hf, _ => by simp [V.flat] at hf
theorem RelL.flat {M M' : Mem} {β β' : Places} : ∀ (l : List V) (cs : List Value), V.flat.flats l = true → RelL M β l cs → RelL M' β' l cs
  | [], _, _, h => by simp only [RelL] at h ⊢; exact h
  | v :: vs, _, hf, h => by
    simp only [V.flat.flats, Bool.and_eq_true] at hf
    simp only [RelL] at h ⊢
    obtain ⟨c, cs, e, h1, h2⟩ := h
    exact ⟨c, cs, e, Rel.flat _ _ hf.1 h1, RelL.flat _ _ hf.2 h2⟩
end

mutual
theorem touched_imm {g : View} : ∀ {d : Nat} {v : V}, v.imm = true → touched g d v = []
  | 0, v, h => by simp only [touched]
  | d + 1, v, h => by
    cases v <;> simp only [V.imm, Bool.and_eq_true] at h <;> simp only [touched]
    case ptr => cases h
    case slice => cases h
    case map => cases h
    case func => rw [touchedL_imm h.1.2, touchedL_imm h.2]; rfl
    case iface => exact touched_imm h
    case agg => exact touchedL_imm h
    case tuple => exact touchedL_imm h
theorem touchedL_imm {g : View} : ∀ {d : Nat} {l : List V}, V.imm.imms l = true → touchedL g d l = []
  | 0, l, h => by simp only [touchedL]
  | d + 1, [], h => by simp only [touchedL]
  | d + 1, v :: vs, h => by
    simp only [V.imm.imms, Bool.and_eq_true] at h
    simp only [touchedL, touched_imm h.1, touchedL_imm h.2, List.append_nil]
end

section
variable {P : Program} {gl : Nat → Option (List V)} {M M' : Mem} {β : Places} {w0 w w' : World} {h : View}

theorem Sim.memOk (S : Sim M β h w0 w) : MemOk M w := ⟨S.mem, S.memo, S.maps⟩

theorem MemOk.below (H : MemOk M w) (hb : Below w.heap.size w w') : MemOk M w' where
  mem a c e := by
    have := H.mem a c e
    rw [← this]
    exact cell?_eq (hb.block _ (lt_of_cell? this))
  memo r o e := by
    have := H.memo r o e
    rw [← this]
    exact hb.block _ (lt_of_get? this)
  maps := H.maps

/-- After a call that left alone what was there. -/
theorem Sim.called (S : Sim M β h w0 w) (hb : Below w.heap.size w w') (hM : M.le M') (ha : M.above w.heap.size M') (hok : MemOk M' w') : Sim M' β h w0 w' := by
  have k : Keeps M w.heap.size w w' := ⟨hb.os, hb.tape, hb.output, hb.size, fun r hr hlt => hb.block r hlt, fun a c e _ => hok.mem a c (hM.1 a c e), fun r o e _ => hok.memo r o (hM.2 r o e)⟩
  have S1 : Sim M β h w0 w' := S.change k S.base (fun b o i _ hi _ => by have := S.sane b i hi; omega)
  exact {
    below := S1.below
    mem := hok.mem
    memo := hok.memo
    maps := hok.maps
    sane := S1.sane
    obj := fun b o e => by
      obtain ⟨i, hi, hbase, hs⟩ := S1.obj b o e
      have hlt := S.sane b i hi
      refine ⟨i, hi, hbase, hs.grow hM (fun _ a c hac hab => ?_) (fun _ => ?_)⟩
      · rcases ha.1 a c hac with h | h
        · exact h
        · omega
      · cases hq : M'.o i.blk with
        | none =>
          cases hp : M.o i.blk with
          | none => rfl
          | some q => have := hM.2 _ _ hp; rw [hq] at this; cases this
        | some q =>
          rcases ha.2 _ _ hq with h | h
          · exact h.symm
          · omega
    sep := S1.sep }

theorem callSum_ok {f : FuncId} {F : List V → Option V} (hF : PureSpec P gl f F) (G : Globs gl M) {hp : Heap} (S : Sim M β hp.get w0 w) {g : View} (hg : ∀ b o, g b = some o → hp.get b = some o) {args : List V} {cargs : List Value} (R : RelL M β args cargs) {r : V}
    (hc : callSum g F args = some r) : OpCall P f cargs.toArray w fun e w' => ∃ M' c, e = .returned c ∧ M.le M' ∧ M.above w0.heap.size M' ∧ Sim M' β hp.get w0 w' ∧ Rel M' β r c := by
  unfold callSum at hc
  simp only [Option.bind_eq_some_iff] at hc
  obtain ⟨as, has, r', hr, hc⟩ := hc
  have hr' : r' = r ∧ (r.flat || immL args) = true := by
    split at hc
    · rename_i e; cases hc; exact ⟨rfl, e⟩
    · cases hc
  obtain ⟨rfl, hcond⟩ := hr'
  obtain ⟨Mp, h1, h2, S2, h4⟩ := Sim.freezeAll (touchedL g deep args) S
  have R2 : RelL Mp nowhere as cargs := reifyL_rel (β := β) (fun b hb o ho => h4 b hb o (hg b o ho)) has (R.mono h1 (.refl β)) nowhere
  refine (hF Mp as cargs r' w (G.mono h1) S2.memOk (reifyL_imm has) R2 hr).mono ?_
  rintro e w' ⟨M', c, rfl, k1, k2, k3, k4, k5, k6⟩
  by_cases hfl : r'.flat = true
  · exact ⟨M, c, rfl, .refl M, .refl _ M, S.called k4 (.refl M) (.refl _ M) (S.memOk.below k4), k6.flat _ _ hfl⟩
  · have himm : immL args = true := by simpa [hfl] using hcond
    rw [touchedL_imm himm] at S2
    simp only [Abs.freezeAll] at S2
    refine ⟨M', c, rfl, h1.trans k1, h2.trans ⟨fun a c e => (k2.1 a c e).imp id (fun h => Nat.le_trans S.base h), fun a c e => (k2.2 a c e).imp id (fun h => Nat.le_trans S.base h)⟩, S2.called k4 k1 k2 k3, k6.imm _ _ k5⟩

theorem callSumF_ok {f : FuncId} {F : List V → Option V} (hF : PureSpec P gl f F) (G : Globs gl M) {hp hp' : Heap} (S : Sim M β hp.get w0 w) {args : List V} {cargs : List Value} (R : RelL M β args cargs) {r : V}
    (hc : callSumF hp F args = some (r, hp')) : OpCall P f cargs.toArray w fun e w' => ∃ M' c, e = .returned c ∧ M.le M' ∧ M.above w0.heap.size M' ∧ Sim M' β hp'.get w0 w' ∧ Rel M' β r c := by
  unfold callSumF at hc
  simp only [Option.bind_eq_some_iff, Option.map_eq_some_iff] at hc
  obtain ⟨as, has, r', hr, hc⟩ := hc
  split at hc
  · rename_i hcond
    cases hc
    refine callSum_ok hF G S (fun _ _ h => h) R ?_
    unfold callSum
    simp only [has, hr, Option.bind_some, if_pos hcond]
  · cases hc
    obtain ⟨Mp, h1, h2, S2, h4⟩ := Sim.freezeAll (touchedL hp.get deep args) S
    have R2 : RelL Mp nowhere as cargs := reifyL_rel (β := β) (fun b hb o ho => h4 b hb o ho) has (R.mono h1 (.refl β)) nowhere
    refine (hF Mp as cargs r w (G.mono h1) S2.memOk (reifyL_imm has) R2 hr).mono ?_
    rintro e w' ⟨M', c, rfl, k1, k2, k3, k4, k5, k6⟩
    exact ⟨M', c, rfl, h1.trans k1, h2.trans ⟨fun a c e => (k2.1 a c e).imp id (fun h => Nat.le_trans S.base h), fun a c e => (k2.2 a c e).imp id (fun h => Nat.le_trans S.base h)⟩, S2.called k4 k1 k2 k3, k6.imm _ _ k5⟩

end
end Go.Abs
