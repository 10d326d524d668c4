/-
  ABS, part 29: regions whose order is open are followed.
-/
import Derived.Test.YtfmdgjnjfmgbmaaGreatDoorAbsW
import Derived.OrdersIn
namespace Go.Abs
open Go Go.RowKit
set_option linter.unusedSectionVars false
variable [Syms]

/-! What comes ahead. -/
theorem befs_spec : ∀ {l : List Oper} {acc bs : List (List Nat)}, befs l acc = some bs → bs.length = acc.length + l.length ∧ (∀ k : Nat, k < acc.length → bs[k]? = acc[k]?) ∧
    ∀ (k : Nat) (o : Oper), l[k]? = some o → ∃ bef, bs[acc.length + k]? = some bef ∧ (∀ e ∈ o.after.toList, Region.binds .any e = true → e.on < acc.length + k ∧ e.on ∈ bef ∧ (∀ x ∈ bs.getD e.on [], x ∈ bef)) ∧
      ∀ x ∈ bef, ∃ e ∈ o.after.toList, Region.binds .any e = true ∧ (x = e.on ∨ x ∈ bs.getD e.on [])
  | [], acc, bs, h => by
    simp only [befs] at h; cases h
    exact ⟨rfl, fun _ _ => rfl, fun k o h => by simp at h⟩
  | o :: l, acc, bs, h => by
    simp only [befs] at h
    split at h
    · rename_i hon
      obtain ⟨h1, h2, h3⟩ := befs_spec h
      simp only [List.length_append, List.length_cons, List.length_nil, Nat.zero_add] at h1 h2 h3
      refine ⟨by simp only [List.length_cons]; omega, fun k hk => ?_, fun k o' hk => ?_⟩
      · rw [h2 k (by omega), List.getElem?_append_left hk]
      · cases k with
        | zero =>
          simp only [List.getElem?_cons_zero, Option.some.injEq] at hk
          subst hk
          refine ⟨_, by rw [Nat.add_zero, h2 _ (by omega), List.getElem?_append_right (Nat.le_refl _), Nat.sub_self]; rfl, fun e he hb => ?_, fun x hx => ?_⟩
          rotate_left
          · rw [List.mem_eraseDups] at hx
            rcases List.mem_append.1 hx with hx | hx
            · obtain ⟨e, he, rfl⟩ := List.mem_map.1 hx
              obtain ⟨he1, he2⟩ := List.mem_filter.1 he
              exact ⟨e, he1, he2, .inl rfl⟩
            · obtain ⟨y, hy, hxy⟩ := List.mem_flatMap.1 hx
              have hlt : y < acc.length := by simpa using List.all_eq_true.1 hon _ hy
              obtain ⟨e, he, rfl⟩ := List.mem_map.1 hy
              obtain ⟨he1, he2⟩ := List.mem_filter.1 he
              refine ⟨e, he1, he2, .inr ?_⟩
              have : bs[e.on]? = acc[e.on]? := by rw [h2 _ (by omega), List.getElem?_append_left hlt]
              simpa [List.getD, this] using hxy
          have hmem : e.on ∈ (o.after.toList.filter fun e => Region.binds .any e).map (·.on) := List.mem_map.2 ⟨e, List.mem_filter.2 ⟨he, hb⟩, rfl⟩
          have hlt : e.on < acc.length := by simpa using List.all_eq_true.1 hon _ hmem
          refine ⟨by omega, ?_, fun x hx => ?_⟩
          · rw [List.mem_eraseDups]; exact List.mem_append_left _ hmem
          · rw [List.mem_eraseDups]
            refine List.mem_append_right _ (List.mem_flatMap.2 ⟨_, hmem, ?_⟩)
            have : bs[e.on]? = acc[e.on]? := by rw [h2 _ (by omega), List.getElem?_append_left hlt]
            simpa [List.getD, this] using hx
        | succ k =>
          simp only [List.getElem?_cons_succ] at hk
          obtain ⟨bef, hb, hall, hback⟩ := h3 k o' hk
          refine ⟨bef, by rw [← hb]; congr 1; omega, fun e he hbe => ?_, hback⟩
          obtain ⟨k1, k2, k3⟩ := hall e he hbe
          exact ⟨by omega, k2, k3⟩
    · cases h

/-- Only what comes ahead comes ahead. -/
theorem befs_lt : ∀ {l : List Oper} {acc bs : List (List Nat)}, befs l acc = some bs → (∀ (k : Nat) bef, acc[k]? = some bef → ∀ x ∈ bef, x < k) → ∀ (k : Nat) bef, bs[k]? = some bef → ∀ x ∈ bef, x < k
  | [], acc, bs, h, H => by simp only [befs] at h; cases h; exact H
  | o :: l, acc, bs, h, H => by
    simp only [befs] at h
    split at h
    · rename_i hon
      refine befs_lt h fun k bef hk x hx => ?_
      rcases Nat.lt_or_ge k acc.length with hlt | hge
      · rw [List.getElem?_append_left hlt] at hk; exact H k bef hk x hx
      · rw [List.getElem?_append_right hge] at hk
        have hk0 : k - acc.length = 0 := by
          rcases Nat.eq_zero_or_pos (k - acc.length) with h | h
          · exact h
          · rw [List.getElem?_eq_none (by simp; omega)] at hk; cases hk
        rw [hk0] at hk
        simp only [List.getElem?_cons_zero, Option.some.injEq] at hk
        subst hk
        rw [List.mem_eraseDups] at hx
        have hon' : ∀ y ∈ (o.after.toList.filter fun e => Region.binds .any e).map (·.on), y < acc.length := fun y hy => by simpa using List.all_eq_true.1 hon y hy
        rcases List.mem_append.1 hx with hx | hx
        · have := hon' x hx; omega
        · obtain ⟨y, hy, hxy⟩ := List.mem_flatMap.1 hx
          have hy' := hon' y hy
          cases hay : acc[y]? with
          | none => simp [List.getD, hay] at hxy
          | some by' =>
            simp [List.getD, hay] at hxy
            have := H y by' hay x hxy
            omega
    · cases h

theorem ordered_spec : ∀ {z : List (O × List Nat)} {n : Nat} {before : List O}, ordered n z before = true → before.length = n →
    ∀ (k : Nat) o bef, z[k]? = some (o, bef) → ∀ (i : Nat) p, (before ++ z.map (·.1))[i]? = some p → i < n + k → conflict p o = false ∨ i ∈ bef
  | [], n, before, h, hl, k, o, bef, hk => by simp at hk
  | (o', bef') :: z, n, before, h, hl, k, o, bef, hk => by
    simp only [ordered, Bool.and_eq_true] at h
    intro i p hp hi
    cases k with
    | zero =>
      simp only [List.getElem?_cons_zero, Option.some.injEq, Prod.mk.injEq] at hk
      obtain ⟨rfl, rfl⟩ := hk
      have h1 := List.all_eq_true.1 h.1 i (List.mem_range.2 (by omega))
      have h2 : before[i]? = some p := by rw [List.getElem?_append_left (by omega)] at hp; exact hp
      rw [h2] at h1
      simp only [Bool.or_eq_true, Bool.not_eq_true', List.contains_iff_mem] at h1
      exact h1
    | succ k =>
      simp only [List.getElem?_cons_succ] at hk
      refine ordered_spec h.2 (by simp [hl]) k o bef hk i p ?_ (by omega)
      simpa using hp

/-- A region's text, compiled: the first k operations in any order, then the others one by one. -/
structure Region' (P : Program) (gl : Nat → Option (List V)) (N : Nat) (ops : Array Oper) (z : List (O × List Nat)) (k : Nat) : Prop where
  size : z.length = ops.size
  kle : k ≤ ops.size
  oper : ∀ (i : Nat) o' bef, z[i]? = some (o', bef) → ∃ o, ops[i]? = some o ∧ cOper P gl ops o = some o' ∧ (∀ e ∈ o.after.toList, Region.binds .any e = true → e.on ∈ bef ∧ ∀ p b, z[e.on]? = some (p, b) → ∀ x ∈ b, x ∈ bef) ∧
    ∀ x ∈ bef, ∃ e ∈ o.after.toList, Region.binds .any e = true ∧ (x = e.on ∨ ∃ p b, z[e.on]? = some (p, b) ∧ x ∈ b)
  lt : ∀ (i : Nat) o' bef, z[i]? = some (o', bef) → ∀ x ∈ bef, x < i
  apart : ∀ (i j : Nat) o bef p bj, i < k → z[i]? = some (o, bef) → z[j]? = some (p, bj) → j < i → conflict p o = false ∨ j ∈ bef
  dst : ∀ (i : Nat) o' bef, z[i]? = some (o', bef) → ∀ d, o'.dst = some d → d < N
  chain : ∀ (i : Nat) o' bef, k ≤ i → z[i]? = some (o', bef) → ∀ x, x < i → x ∈ bef

theorem chained_spec : ∀ {l : List (O × List Nat)} {k : Nat}, chained k l = true → ∀ (j : Nat) o bef, l[j]? = some (o, bef) → ∀ x, x < k + j → x ∈ bef
  | [], k, h, j, o, bef, hj, x, hx => by simp at hj
  | (o', bef') :: l, k, h, j, o, bef, hj, x, hx => by
    simp only [chained, Bool.and_eq_true] at h
    cases j with
    | zero =>
      simp only [List.getElem?_cons_zero, Option.some.injEq, Prod.mk.injEq] at hj
      obtain ⟨rfl, rfl⟩ := hj
      have := List.all_eq_true.1 h.1 x (List.mem_range.2 (by omega))
      simpa using this
    | succ j =>
      simp only [List.getElem?_cons_succ] at hj
      exact chained_spec h.2 j o bef hj x (by omega)

theorem mapM_get {α γ : Type} {f : α → Option γ} : ∀ {l : List α} {r : List γ}, l.mapM f = some r → r.length = l.length ∧ ∀ (i : Nat) y, r[i]? = some y → ∃ x, l[i]? = some x ∧ f x = some y
  | [], r, h => by simp at h; subst h; exact ⟨rfl, fun i y h => by simp at h⟩
  | x :: l, r, h => by
    simp only [List.mapM_cons, Option.pure_def, Option.bind_eq_bind, Option.bind_eq_some_iff, Option.some.injEq] at h
    obtain ⟨y, hy, ys, hys, rfl⟩ := h
    obtain ⟨h1, h2⟩ := mapM_get hys
    refine ⟨by simp [h1], fun i y' hi => ?_⟩
    cases i with
    | zero => simp at hi; subst hi; exact ⟨x, rfl, hy⟩
    | succ i => simp at hi; simpa using h2 i y' hi

section
variable {P : Program} {gl : Nat → Option (List V)} {cx : Ctx}

theorem Region'.of {id N : Nat} {ops : Array Oper} {z1 : List (O × List Nat)} {t1 : List O} (hc : cCode P gl (.region id ops true) = some (.drawn z1 t1)) (hd : ∀ d ∈ z1.filterMap (·.1.dst) ++ t1.filterMap (·.dst), d < N) :
    ∃ z k, z1 = z.take k ∧ t1 = (z.drop k).map (·.1) ∧ z1.length = k ∧ ops.toList.mapM (cOper P gl ops) = some (z.map (·.1)) ∧ Region' P gl N ops z k := by
  simp only [cCode, Option.bind_eq_some_iff] at hc
  obtain ⟨l, hl, bs, hbs, hc⟩ := hc
  split at hc
  · rename_i hcond
    cases hc
    simp only [Bool.and_eq_true, beq_iff_eq] at hcond
    obtain ⟨⟨⟨hk, hord⟩, hch⟩, hsz⟩ := hcond
    have hk := Nat.le_of_ble_eq_true hk
    obtain ⟨h1, h2⟩ := mapM_get hl
    obtain ⟨b1, b2, b3⟩ := befs_spec hbs
    have hlt := befs_lt hbs (fun k bef h => by simp at h)
    simp only [List.length_nil, Nat.zero_add] at b1 b3
    have hzip : ∀ (i : Nat) o' bef, (l.zip bs)[i]? = some (o', bef) → l[i]? = some o' ∧ bs[i]? = some bef := fun i o' bef h => by
      rw [List.getElem?_zip_eq_some] at h; exact h
    have hfst : (l.zip bs).map (·.1) = l := by
      rw [List.map_fst_zip]
      rw [b1, h1]
      exact Nat.le_refl _
    refine ⟨l.zip bs, cutAt (l.zip bs), rfl, rfl, by rw [List.length_take]; omega, by rw [hfst]; exact hl, hsz, by omega, fun i o' bef hz => ?_, fun i o' bef hz => hlt i bef (hzip i o' bef hz).2, fun i j o bef p bj hik hz hz' hji => ?_, fun i o' bef hz d hd' => ?_, fun i o' bef hki hz x hx => ?_⟩
    · obtain ⟨k1, k2⟩ := hzip i o' bef hz
      obtain ⟨o, ho, hco⟩ := h2 i o' k1
      obtain ⟨bef', hb, hall, hback⟩ := b3 i o ho
      rw [k2] at hb; cases hb
      refine ⟨o, by simpa using ho, hco, fun e he hbe => ?_, fun x hx => ?_⟩
      · obtain ⟨_, q2, q3⟩ := hall e he hbe
        refine ⟨q2, fun p b hp x hx => q3 x ?_⟩
        rw [List.getD, (hzip _ _ _ hp).2]; exact hx
      · obtain ⟨e, he, hbe, hx⟩ := hback x hx
        refine ⟨e, he, hbe, hx.imp (fun h => h) fun hx => ?_⟩
        have hlt := (hall e he hbe).1
        have hi : i < l.length := by
          rcases Nat.lt_or_ge i l.length with h | h
          · exact h
          · rw [List.getElem?_eq_none h] at k1; cases k1
        have e1 : e.on < l.length := by omega
        have e2 : e.on < bs.length := by rw [b1, ← h1]; exact e1
        refine ⟨l[e.on], bs[e.on], List.getElem?_zip_eq_some.2 ⟨List.getElem?_eq_getElem e1, List.getElem?_eq_getElem e2⟩, ?_⟩
        simpa [List.getD, e2] using hx
    · refine ordered_spec hord rfl i o bef (by rw [List.getElem?_take, if_pos hik]; exact hz) j p ?_ (by omega)
      simp only [List.nil_append, List.getElem?_map]
      rw [List.getElem?_take, if_pos (by omega), hz']
      rfl
    · refine hd d ?_
      rcases Nat.lt_or_ge i (cutAt (l.zip bs)) with h | h
      · refine List.mem_append_left _ (List.mem_filterMap.2 ⟨(o', bef), List.mem_of_getElem? (i := i) ?_, hd'⟩)
        rw [List.getElem?_take, if_pos h]; exact hz
      · refine List.mem_append_right _ (List.mem_filterMap.2 ⟨o', List.mem_map.2 ⟨(o', bef), List.mem_of_getElem? (i := i - cutAt (l.zip bs)) ?_, rfl⟩, hd'⟩)
        rw [List.getElem?_drop, show cutAt (l.zip bs) + (i - cutAt (l.zip bs)) = i by omega]; exact hz
    · refine chained_spec hch (i - cutAt (l.zip bs)) o' bef ?_ x (by omega)
      rw [List.getElem?_drop, show cutAt (l.zip bs) + (i - cutAt (l.zip bs)) = i by omega]; exact hz
  · cases hc

/-- A state within such a region. -/
structure RCfg (gl : Nat → Option (List V)) (M : Mem) (β : Places) (N nid n : Nat) (w0 : World) (dfr : List Dfr) (L : Array Bool) (s : Env × Heap) (a : Act) (w : World) : Prop where
  globs : Globs gl M
  env : EnvRel M β N s.1 a
  sim : Sim M β s.2.get w0 w
  far : ∀ b, nid + n ≤ b → β b = none
  near : ∀ k, k < n → L.getD k true = false → β (nid + k) = none
  dfr : DfrRel M β dfr a.defers

variable {M0 : Mem} {β0 : Places} {N nid n : Nat} {w0 : World} {dfr : List Dfr}

theorem wanted_rel {M : Mem} {β : Places} {e : Env} {a : Act} (E : EnvRel M β N e a) {ops : Array Oper} {o : Oper} {o' : O} (hc : cOper P gl ops o = some o') : Region.wanted o (yielded ops a.tmps) = Abs.wanted e o'.guard := by
  unfold cOper at hc
  unfold Region.wanted
  split at hc
  · rename_i hg; cases hc; rw [hg]; rfl
  · rename_i j wt hg
    simp only [Option.map_eq_some_iff] at hc
    obtain ⟨t, ht, rfl⟩ := hc
    rw [hg]
    have hr := E.rel t
    rw [Array.getD_eq_getD_getElem?] at hr
    have no : (∀ b, e.at t ≠ .bool b) → Abs.wanted e (some (t, wt)) = false := fun hnb => by
      simp only [Abs.wanted]
    simp only [yielded, ht, Option.bind_some]
    cases hq : a.tmps[t]? with
    | none =>
      rw [hq, Option.getD_none] at hr
      rw [no fun b hb => by rw [hb] at hr; simp only [Rel] at hr; cases hr]
      exact beq_eq_false_iff_ne.2 (fun h => by cases h)
    | some c =>
      rw [hq, Option.getD_some] at hr
      by_cases hb : ∃ b, c = .bool b
      · obtain ⟨b, rfl⟩ := hb
        simp only [Abs.wanted, rel_bool hr]
        cases b <;> cases wt <;> decide
      · rw [no fun b hb' => by rw [hb'] at hr; simp only [Rel] at hr; exact hb ⟨b, hr⟩]
        cases c <;> first | rfl | (exact absurd ⟨_, rfl⟩ hb)

theorem RCfg.land {M : Mem} {β : Places} {L : Array Bool} {s : Env × Heap} {a : Act} {w : World} (C : RCfg gl M β N nid n w0 dfr L s a w) {i : Nat} {M' : Mem} {β' : Places} {h' : Heap} {w' : World} (hM : M.le M') (hβ : β.le β') (hsame : ∀ b, b ≠ nid + i → β' b = β b) (hi : i < n) (hL : n ≤ L.size)
    (S : Sim M' β' h'.get w0 w') {d : Option Nat} (hd : ∀ t, d = some t → t < N) {v : V} {c : Value} (hr : Rel M' β' v c) :
    RCfg gl M' β' N nid n w0 dfr (L.setIfInBounds i true) (putDst s.1 d v, h') (a.put d c) w' where
  globs := C.globs.mono hM
  env := (C.env.mono hM hβ).put hd hr
  sim := S
  far b hb := by rw [hsame b (by omega)]; exact C.far b hb
  near k hk hl := by
    have hki : k ≠ i := fun e => by
      subst e
      rw [Array.getD_eq_getD_getElem?, Array.getElem?_setIfInBounds, if_pos rfl, if_pos (by omega)] at hl
      simp at hl
    rw [hsame _ (by omega)]
    refine C.near k hk ?_
    rw [Array.getD_eq_getD_getElem?, Array.getElem?_setIfInBounds, if_neg (Ne.symm hki)] at hl
    rw [Array.getD_eq_getD_getElem?]; exact hl
  dfr := by
    have := C.dfr.mono hM hβ
    cases d <;> simpa [Act.put] using this

/-- One operation. -/
theorem rop_ok {r : Option Nat} (H : CtxOk P gl cx) {ops : Array Oper} {z : List (O × List Nat)} (R : Region' P gl N ops z n) {i : Nat} {o' : O} {bef : List Nat} (hz : z[i]? = some (o', bef)) (hi : i < n) {M : Mem} {β : Places} {L : Array Bool} (hL : n ≤ L.size) (hun : L.getD i true = false)
    {s s' : Env × Heap} {a : Act} {w : World} (C : RCfg gl M β N nid n w0 dfr L s a w) (hM : M0.on w0.heap.size M) (hβ : β0.le β) (hact : actOp cx nid n i o' bef s = some s') {Q : Exit → Act → World → Prop} {K : Act → World → Prop}
    (hK : ∀ M' β' a' w', M0.on w0.heap.size M' → β0.le β' → RCfg gl M' β' N nid n w0 dfr (L.setIfInBounds i true) s' a' w' → K a' w') : wpOpIn (fence r) 0 P ops Q i K a w := by
  obtain ⟨o, ho, hc, _, _⟩ := R.oper i o' bef hz
  have hd := R.dst i o' bef hz
  obtain ⟨hop, hdst⟩ := cOper_spec hc
  have hw := wanted_rel C.env hc
  have hg : ∀ b q, seen s.2 nid n bef b = some q → s.2.get b = some q := fun b q h => by
    unfold seen at h
    split at h
    · cases h
    · exact h
  rw [actOp_eff] at hact
  simp only [Option.map_eq_some_iff] at hact
  obtain ⟨eff, heff, rfl⟩ := hact
  unfold wpOpIn
  simp only [ho, hw]
  unfold effOf at heff
  split at heff
  · rename_i hwt
    rw [if_pos hwt]
    refine ⟨fun _ _ => trivial, ?_⟩
    have hsem : (∀ c, o.op ≠ .defer c) → o.semAt r a.eval = execOp a.eval o := o.semAt_eq r a.eval
    show o.uponIn (fence r) 0 P a _ _ ((o.semAt r a.eval).run P w)
    split at heff
    · rename_i fx as hi'
      rw [hi'] at hop
      obtain ⟨c, f, hoc, hcal, hfx, has⟩ := cOp_call (hop.resolve_right (fun h => by cases h))
      split at heff
      · rename_i f' args hres
        obtain ⟨first, captured, hrun, hrel⟩ := resolve_rel (P := P) C.globs C.env (t := o.type) hfx has hcal hres
        split at heff
        · rename_i F hF
          simp only [Option.map_eq_some_iff] at heff
          obtain ⟨v, hv, rfl⟩ := heff
          have hspec := H.sum f' F hF
          have hcf : (execOp a.eval o).run P w = (callFunc f' ((first ++ c.args.map a.eval) ++ captured)).run P w := by
            simp only [execOp, hoc, Sem.run_bind, hrun, Result.andThen_ok, invoke]
          have hc2 := callSum_ok hspec C.globs C.sim hg hrel hv
          simp only [Array.toArray_toList] at hc2
          rw [hsem (fun c h => by rw [hoc] at h; cases h), hcf]
          rcases hc2 with ⟨⟨fn, hfn, hbody, hname⟩, hcalls⟩ | ⟨cv, w', hrunc, M', c', hcv, k1, k2, k3, k4⟩
          · have hex : (callFunc f' ((first ++ c.args.map a.eval) ++ captured)).run P w = .ok (.enter f' ((first ++ c.args.map a.eval) ++ captured)) w := by
              simp only [Sem.run_bind, Result.andThen_ok, callFunc, run_program, hfn, hname, hbody, Bool.false_eq_true, if_false, Sem.run_pure]
            rw [hex, Oper.uponIn_enter]
            refine ⟨(fun h => by cases h), callsIn_free (hcalls.mono ?_)⟩
            rintro e w' ⟨M', c', rfl, k1, k2, k3, k4⟩
            rw [← hdst]
            exact hK M' β _ _ (hM.trans ⟨k1, k2⟩) hβ (C.land k1 (.refl β) (fun _ _ => rfl) hi hL k3 hd k4)
          · cases hcv
            rw [hrunc, Oper.uponIn_value, ← hdst]
            exact hK M' β _ _ (hM.trans ⟨k1, k2⟩) hβ (C.land k1 (.refl β) (fun _ _ => rfl) hi hL k3 hd k4)
        · cases heff
      · cases heff
    · cases heff
    · cases heff
    · cases heff
    · cases heff
    · have hop := hop.resolve_right (fun h => by rw [h] at heff; simp only [evI] at heff; cases heff)
      obtain ⟨β', w', c, hrun, hβ', hsame, S', hrel⟩ := follows_op (o := o) C.globs C.env C.sim hg (C.near i hi hun) hop heff
      have C' := C.land (.refl M) hβ' hsame hi hL S' hd hrel
      have hnd : ∀ c, o.op ≠ .defer c := fun c hc => by
        rw [hc] at hop
        simp only [cOp, Option.bind_eq_some_iff] at hop
        obtain ⟨as', _, hop⟩ := hop
        split at hop
        · simp only [Option.map_eq_some_iff] at hop
          obtain ⟨_, _, hop⟩ := hop
          rw [← hop] at heff
          simp only [evI] at heff
          cases heff
        · cases hop
      rw [hsem hnd]
      rcases hrun with hrun | ⟨hrun, rfl⟩
      · rw [hrun, Oper.uponIn_value, ← hdst]
        exact hK M β' _ _ hM (hβ.trans hβ') C'
      · rw [hrun, Oper.uponIn_skip, ← hdst]
        exact hK M β' _ _ hM (hβ.trans hβ') C'
  · rename_i hwt
    cases heff
    rw [if_neg hwt, ← hdst]
    exact ⟨fun _ _ => trivial, hK M β _ _ hM hβ (C.land (.refl M) (.refl β) (fun _ _ => rfl) hi hL C.sim hd (undef_rel M β))⟩

/-- What is still to be done. -/
def restOf (n : Nat) (L : Array Bool) : List Nat := (List.range n).filter fun i => !L.getD i true

theorem restOf_set {L : Array Bool} {i : Nat} (hL : n ≤ L.size) {l1 l2 : List Nat} (h : restOf n L = l1 ++ i :: l2) : restOf n (L.setIfInBounds i true) = l1 ++ l2 := by
  have hnd : (restOf n L).Nodup := List.Pairwise.filter _ List.nodup_range
  have hin : i ∈ restOf n L := by rw [h]; simp
  have hi : i < n := List.mem_range.1 (List.mem_filter.1 hin).1
  have h1 : restOf n (L.setIfInBounds i true) = (restOf n L).filter fun k => k != i := by
    unfold restOf
    rw [List.filter_filter]
    apply List.filter_congr
    intro k hk
    rw [Array.getD_eq_getD_getElem?, Array.getD_eq_getD_getElem?, Array.getElem?_setIfInBounds]
    by_cases hki : i = k
    · subst hki; rw [if_pos rfl, if_pos (by omega)]; simp
    · rw [if_neg hki]
      have : (k != i) = true := by simpa using Ne.symm hki
      rw [this]; simp
  rw [h1, h]
  rw [h] at hnd
  rw [List.nodup_append] at hnd
  obtain ⟨_, n2, n3⟩ := hnd
  rw [List.nodup_cons] at n2
  rw [List.filter_append, List.filter_cons]
  simp only [bne_self_eq_false, Bool.false_eq_true, if_false]
  congr 1
  · exact List.filter_eq_self.2 fun k hk => by simpa using n3 k hk i List.mem_cons_self
  · exact List.filter_eq_self.2 fun k hk => by
      have : k ≠ i := fun e => n2.1 (e ▸ hk)
      simpa using this

theorem any_ok {r : Option Nat} (H : CtxOk P gl cx) {ops : Array Oper} {z : List (O × List Nat)} (R : Region' P gl N ops z n) {t : Nat} {Q : Exit → Act → World → Prop} {fin : Env × Heap} : ∀ (fuel : Nat) {L : Array Bool} {M : Mem} {β : Places} {s : Env × Heap} {a : Act} {w : World},
    (restOf n L).length = fuel → L.size = ops.size → (∀ (i : Nat) o bef, z[i]? = some (o, bef) → L.getD i true = true → i < ops.size → ∀ x ∈ bef, L.getD x false = true) → (∀ j, n ≤ j → L.getD j false = false) → RCfg gl M β N nid n w0 dfr L s a w → M0.on w0.heap.size M → β0.le β → actIdx cx nid n z (restOf n L) s = some fin →
    (∀ M' β' L' a' w', restOf n L' = [] → L'.size = ops.size → (∀ j, n ≤ j → L'.getD j false = false) → M0.on w0.heap.size M' → β0.le β' → RCfg gl M' β' N nid n w0 dfr L' fin a' w' → wpAnyIn (fence r) 0 P .any ops Q t L' a' w') → wpAnyIn (fence r) 0 P .any ops Q (fuel + t) L a w
  | 0, L, M, β, s, a, w, hf, hL, hcl, htl, C, hM, hβ, hact, hQ => by
    have hr : restOf n L = [] := List.length_eq_zero_iff.1 hf
    rw [hr] at hact
    simp only [actIdx, Option.some.injEq] at hact
    subst hact
    rw [Nat.zero_add]
    exact hQ M β L a w hr hL htl hM hβ C
  | fuel + 1, L, M, β, s, a, w, hf, hL, hcl, htl, C, hM, hβ, hact, hQ => by
    have hkle := R.kle
    rw [show fuel + 1 + t = (fuel + t) + 1 by omega]
    have hex : ∀ i, i < ops.size → ∃ o bef, z[i]? = some (o, bef) := fun i hi => by
      have : i < z.length := by rw [R.size]; exact hi
      exact ⟨_, _, List.getElem?_eq_getElem this⟩
    have hsorted : (restOf n L).Pairwise (· < ·) := List.Pairwise.filter _ List.pairwise_lt_range
    refine ⟨fun hnone => ?_, fun i hi => ?_⟩
    · -- the first of the rest is ready
      cases hr : restOf n L with
      | nil => rw [hr] at hf; simp at hf
      | cons i l =>
        exfalso
        have hin : i ∈ restOf n L := by rw [hr]; simp
        obtain ⟨h1, h2⟩ := List.mem_filter.1 hin
        have hi := List.mem_range.1 h1
        obtain ⟨o', bef, hz⟩ := hex i (by omega)
        obtain ⟨o, ho, hc, hedge, _⟩ := R.oper i o' bef hz
        have : i ∈ Region.ready .any ops L := by
          rw [mem_ready]
          refine ⟨by simpa using h2, o, ho, fun e he hb => ?_⟩
          obtain ⟨q1, _⟩ := hedge e (Array.mem_toList_iff.2 he) hb
          have hlt := R.lt i o' bef hz _ q1
          cases hq : L.getD e.on true with
          | true =>
            have : e.on < L.size := by omega
            simp [this] at hq ⊢; exact hq
          | false =>
            have hmem : e.on ∈ restOf n L := List.mem_filter.2 ⟨List.mem_range.2 (by omega), by simp [hq]⟩
            rw [hr] at hmem hsorted
            rcases List.mem_cons.1 hmem with h | h
            · omega
            · have := (List.pairwise_cons.1 hsorted).1 _ h; omega
        rw [hnone] at this
        cases this
    · obtain ⟨hun, o, ho, hall⟩ := mem_ready.1 hi
      have hino : i < ops.size := (Array.getElem?_eq_some_iff.1 ho).1
      obtain ⟨o', bef, hz⟩ := hex i hino
      obtain ⟨o2, ho2, hc, hedge, hback⟩ := R.oper i o' bef hz
      rw [ho] at ho2; cases ho2
      have up : ∀ x, x < ops.size → L.getD x false = true → L.getD x true = true := fun x hx h => by
        have : x < L.size := by omega
        simp [this] at h ⊢; exact h
      have hlisted : ∀ x ∈ bef, L.getD x false = true := fun x hx => by
        obtain ⟨e, he, hb, hx⟩ := hback x hx
        have hon := hall e (Array.mem_toList_iff.1 he) hb
        have hlt := R.lt i o' bef hz _ (hedge e he hb).1
        rcases hx with rfl | ⟨p, b, hp, hxb⟩
        · exact hon
        · exact hcl e.on p b hp (up _ (by omega) hon) (by omega) x hxb
      have hin : i < n := by
        rcases Nat.lt_or_ge i n with h | h
        · exact h
        · exfalso
          have hnil : restOf n L = [] := List.filter_eq_nil_iff.2 fun x hx => by
            have hxn := List.mem_range.1 hx
            have := up x (by omega) (hlisted x (R.chain i o' bef h hz x (by omega)))
            simp [this]
          rw [hnil] at hf
          simp at hf
      have hmem : i ∈ restOf n L := List.mem_filter.2 ⟨List.mem_range.2 hin, by simp [hun]⟩
      obtain ⟨l1, l2, hsplit⟩ := List.append_of_mem hmem
      have hfront : ∀ j ∈ l1, ∃ p bj, z[j]? = some (p, bj) ∧ conflict p o' = false ∧ j ≠ i ∧ j < n ∧ j ∉ bef ∧ i ∉ bj := fun j hj => by
        have hjm : j ∈ restOf n L := by rw [hsplit]; exact List.mem_append_left _ hj
        obtain ⟨j1, j2⟩ := List.mem_filter.1 hjm
        have hjn := List.mem_range.1 j1
        have hji : j < i := by
          rw [hsplit] at hsorted
          exact (List.pairwise_append.1 hsorted).2.2 j hj i List.mem_cons_self
        obtain ⟨p, bj, hzj⟩ := hex j (by omega)
        have hnb : j ∉ bef := fun h => by
          have h1 := up j (by omega) (hlisted j h)
          rw [h1] at j2; cases j2
        refine ⟨p, bj, hzj, (R.apart i j o' bef p bj hin hz hzj hji).resolve_right hnb, by omega, hjn, hnb, fun h => ?_⟩
        have := R.lt j p bj hzj i h
        omega
      rw [hsplit] at hact
      obtain ⟨s', hs', hrest⟩ := act_front hz hin hfront hact
      have hrs := restOf_set (by omega) hsplit
      refine rop_ok H R hz hin (by omega) hun C hM hβ hs' fun M' β' a' w' hM' hβ' C' => ?_
      refine any_ok H R fuel (by rw [hrs]; rw [hsplit] at hf; simp at hf ⊢; omega) (by simp [hL]) (fun k ok bk hk hlk hkn x hx => ?_) (fun j hj => by
        rw [Array.getD_eq_getD_getElem?, Array.getElem?_setIfInBounds, if_neg (by omega), ← Array.getD_eq_getD_getElem?]; exact htl j hj) C' hM' hβ' (by rw [hrs]; exact hrest) hQ
      by_cases hki : k = i
      · subst hki
        rw [hz] at hk; cases hk
        exact getD_set_true (hlisted x hx)
      · refine getD_set_true (hcl k ok bk hk ?_ hkn x hx)
        rw [getD_set_ne true (Ne.symm hki)] at hlk; exact hlk

theorem Region'.tidy {ops : Array Oper} {z : List (O × List Nat)} (R : Region' P gl N ops z n) : Tidy (z.take n) n := by
  have get : ∀ (i : Nat) p, (z.take n)[i]? = some p → i < n ∧ z[i]? = some p := fun i p h => by
    rw [List.getElem?_take] at h
    split at h
    · rename_i hi; exact ⟨hi, h⟩
    · cases h
  have hkle := R.kle
  have tr : ∀ (m i : Nat) (p : O × List Nat) (x : Nat) (q : O × List Nat), i < m → z[i]? = some p → x ∈ p.2 → z[x]? = some q → ∀ y ∈ q.2, y ∈ p.2 := by
    intro m
    induction m with
    | zero => intro i p x q h; omega
    | succ m ih =>
      intro i p x q hi hp hx hq y hy
      obtain ⟨o, ho, _, hedge, hback⟩ := R.oper i p.1 p.2 hp
      obtain ⟨e, he, hb, hor⟩ := hback x hx
      obtain ⟨e1, e2⟩ := hedge e he hb
      rcases hor with rfl | ⟨p', b', hp', hxb⟩
      · exact e2 q.1 q.2 hq y hy
      · have hlt := R.lt i p.1 p.2 hp _ e1
        exact e2 p' b' hp' y (ih e.on (p', b') x q (by omega) hp' hxb hq y hy)
  refine ⟨by rw [List.length_take, R.size]; omega, fun i p h => R.lt i p.1 p.2 (get i p h).2, fun i p x q hp hx hq => tr (i + 1) i p x q (Nat.lt_succ_self i) (get i p hp).2 hx (get x q hq).2, fun i j p q hp hq hji => R.apart i j p.1 p.2 q.1 q.2 (get i p hp).1 (get i p hp).2 (get j q hq).2 hji⟩

theorem restOf_mem {L : Array Bool} {i j : Nat} (hi : i < n) (hL : n ≤ L.size) : j ∈ restOf n (L.setIfInBounds i true) ↔ j ∈ restOf n L ∧ j ≠ i := by
  unfold restOf
  rw [List.mem_filter, List.mem_filter, Array.getD_eq_getD_getElem?, Array.getD_eq_getD_getElem?, Array.getElem?_setIfInBounds]
  by_cases hij : i = j
  · subst hij; rw [if_pos rfl, if_pos (by omega)]; simp
  · rw [if_neg hij]
    constructor
    · exact fun h => ⟨h, Ne.symm hij⟩
    · exact fun h => h.1

theorem RCfg.called {M : Mem} {β : Places} {L L' : Array Bool} {s : Env × Heap} {a : Act} {w : World} (C : RCfg gl M β N nid n w0 dfr L s a w) {M' : Mem} {β' : Places} {h' : Heap} {nid' : Nat} {w' : World} (hM : M.le M') (hβ : β.le β') (S : Sim M' β' h'.get w0 w') (hf : ∀ b, nid' ≤ b → β' b = none)
    {d : Option Nat} (hd : ∀ t, d = some t → t < N) {v : V} {c : Value} (hr : Rel M' β' v c) : RCfg gl M' β' N nid' n w0 dfr L' (putDst s.1 d v, h') (a.put d c) w' where
  globs := C.globs.mono hM
  env := (C.env.mono hM hβ).put hd hr
  sim := S
  far b hb := hf b (by omega)
  near k _ _ := hf _ (by omega)
  dfr := by
    have := C.dfr.mono hM hβ
    cases d <;> simpa [Act.put] using this

/-- A call among such operations. -/
theorem rcall_ok {r : Option Nat} {call : CallF} (hcall : CallOk P gl M0 β0 call) {ops : Array Oper} {z : List (O × List Nat)} (R : Region' P gl N ops z n) {i : Nat} {o' : O} {bef : List Nat} (hz : z[i]? = some (o', bef)) {M : Mem} {β : Places} {L : Array Bool}
    {s : Env × Heap} {a : Act} {w : World} (C : RCfg gl M β N nid n w0 dfr L s a w) (hM : M0.on w0.heap.size M) (hβ : β0.le β) {fx : X} {as : List X} (hi : o'.i = .call fx as) (hwt : Abs.wanted s.1 o'.guard = true) {f' : FuncId} {args : List V} (hres : resolve (fx.val s.1) (as.map (X.val s.1)) = some (f', args))
    {Kc : End → Heap → Nat → Prop} (hk : call f' args s.2 (nid + n) Kc) {Q : Exit → Act → World → Prop} {K : Act → World → Prop}
    (hret : ∀ v h nid' M' β' a' w', Kc (.returned v) h nid' → M0.on w0.heap.size M' → β0.le β' → RCfg gl M' β' N nid' n w0 dfr (L.setIfInBounds i true) (putDst s.1 o'.dst v, h) a' w' → K a' w')
    (hpan : ∀ ch h nid' M' β' chain w', Kc (.panicked ch) h nid' → M0.on w0.heap.size M' → β0.le β' → Cfg gl M' β' N w0 { env := s.1, h := h, nid := nid', dfr := dfr } a w' → ChainRel M' β' ch chain → Q (.panic chain) a w') : wpOpIn (fence r) 0 P ops Q i K a w := by
  obtain ⟨o, ho, hc, _, _⟩ := R.oper i o' bef hz
  have hd := R.dst i o' bef hz
  obtain ⟨hop, hdst⟩ := cOper_spec hc
  have hw := wanted_rel C.env hc
  unfold wpOpIn
  simp only [ho, hw]
  rw [if_pos hwt]
  refine ⟨fun _ _ => trivial, ?_⟩
  have hsem : (∀ c, o.op ≠ .defer c) → o.semAt r a.eval = execOp a.eval o := o.semAt_eq r a.eval
  show o.uponIn (fence r) 0 P a _ _ ((o.semAt r a.eval).run P w)
  rw [hi] at hop
  obtain ⟨c, f, hoc, hcal, hfx, has⟩ := cOp_call (hop.resolve_right (fun h => by cases h))
  have hstep : ∀ {e : Ending} {w' : World}, CallPost M β w0 Kc e w' → match e with
      | .returned v => K (a.put o.dst v) w'
      | .panicked chain => Q (.panic chain) a w'
      | .outgrown => LetsOut Q := fun {e w'} he => by
    obtain ⟨M', β', en, h', nid', hM', hβ', S', hf', hen, hK⟩ := he
    cases en with
    | returned v =>
      cases e with
      | returned cv =>
        simp only [EndRel] at hen
        simp only [← hdst]
        exact hret v h' nid' M' β' _ _ hK (hM.trans hM') (hβ.trans hβ') (C.called hM'.1 hβ' S' hf' hd hen)
      | panicked _ => cases hen
      | outgrown => cases hen
    | panicked ch =>
      cases e with
      | returned cv => cases hen
      | panicked chain => exact hpan ch h' nid' M' β' chain w' hK (hM.trans hM') (hβ.trans hβ') ⟨C.globs.mono hM'.1, C.env.mono hM'.1 hβ', S', hf', C.dfr.mono hM'.1 hβ'⟩ hen
      | outgrown => cases hen
  obtain ⟨first, captured, hrun, hrel⟩ := resolve_rel (P := P) C.globs C.env (t := o.type) hfx has hcal hres
  have hc2 := hcall _ _ _ _ _ hk M β w0 w _ hM.1 hβ C.globs C.sim C.far hrel
  simp only [Array.toArray_toList] at hc2
  have hcf : (execOp a.eval o).run P w = (callFunc f' ((first ++ c.args.map a.eval) ++ captured)).run P w := by
    simp only [execOp, hoc, Sem.run_bind, hrun, Result.andThen_ok, invoke]
  rw [hsem (fun c h => by rw [hoc] at h; cases h), hcf]
  rcases hc2 with ⟨⟨fn, hfn, hbody, hname⟩, hcalls⟩ | ⟨cv, w', hrunc, hR⟩
  · have hex : (callFunc f' ((first ++ c.args.map a.eval) ++ captured)).run P w = .ok (.enter f' ((first ++ c.args.map a.eval) ++ captured)) w := by
      simp only [Sem.run_bind, Result.andThen_ok, callFunc, run_program, hfn, hname, hbody, Bool.false_eq_true, if_false, Sem.run_pure]
    rw [hex, Oper.uponIn_enter]
    refine ⟨(fun h => by cases h), callsIn_free (hcalls.mono ?_)⟩
    intro e w' he
    have := hstep he
    cases e <;> exact this
  · rw [hrunc, Oper.uponIn_value]
    exact hstep hR

theorem walk_ok {r : Option Nat} (H : CtxOk P gl cx) {call : CallF} (hcall : CallOk P gl M0 β0 call) {ops : Array Oper} {z : List (O × List Nat)} (R : Region' P gl N ops z n) {t : Nat} {Q : Exit → Act → World → Prop} {K : Ex → FSt → Prop}
    (hpan : ∀ ch (st : FSt) M β chain a w, M0.on w0.heap.size M → β0.le β → Cfg gl M β N w0 st a w → ChainRel M β ch chain → K (.panic ch) st → Q (.panic chain) a w) : ∀ (fuel : Nat) {L : Array Bool} {M : Mem} {β : Places} {s : Env × Heap} {a : Act} {w : World} {b : FSt},
    (restOf n L).length = fuel → L.size = ops.size → (∀ (i : Nat) o bef, z[i]? = some (o, bef) → L.getD i true = true → i < ops.size → ∀ x ∈ bef, L.getD x false = true) → (∀ j, n ≤ j → L.getD j false = false) → RCfg gl M β N b.nid n w0 b.dfr L s a w → M0.on w0.heap.size M → β0.le β → Stage cx call (z.take n) n K (· ∈ restOf n L) s b →
    (∀ M' β' L' a' w' (s' : Env × Heap) (b' : FSt), restOf n L' = [] → L'.size = ops.size → (∀ j, n ≤ j → L'.getD j false = false) → M0.on w0.heap.size M' → β0.le β' → RCfg gl M' β' N b'.nid n w0 b'.dfr L' s' a' w' → K .normal { b' with env := s'.1, h := s'.2, nid := b'.nid + n } → wpAnyIn (fence r) 0 P .any ops Q t L' a' w') → wpAnyIn (fence r) 0 P .any ops Q (fuel + t) L a w
  | 0, L, M, β, s, a, w, b, hf, hL, hcl, htl, C, hM, hβ, hS, hQ => by
    have hr : restOf n L = [] := List.length_eq_zero_iff.1 hf
    rw [Nat.zero_add]
    cases hS with
    | @last l fin h1 h2 h3 h4 h5 h6 =>
      have hl : l = [] := by
        cases l with
        | nil => rfl
        | cons x l =>
          have := (h2 x).2 List.mem_cons_self
          rw [hr] at this
          cases this
      subst hl
      simp only [actIdx, Option.some.injEq] at h5
      subst h5
      exact hQ M β L a w s b hr hL htl hM hβ C h6
    | plain _ _ hrem _ => rw [hr] at hrem; cases hrem
    | two _ _ hrem _ _ _ _ => rw [hr] at hrem; cases hrem
  | fuel + 1, L, M, β, s, a, w, b, hf, hL, hcl, htl, C, hM, hβ, hS, hQ => by
    have hkle := R.kle
    rw [show fuel + 1 + t = (fuel + t) + 1 by omega]
    have hex : ∀ i, i < ops.size → ∃ o bef, z[i]? = some (o, bef) := fun i hi => by
      have : i < z.length := by rw [R.size]; exact hi
      exact ⟨_, _, List.getElem?_eq_getElem this⟩
    have hsorted : (restOf n L).Pairwise (· < ·) := List.Pairwise.filter _ List.pairwise_lt_range
    refine ⟨fun hnone => ?_, fun i hi => ?_⟩
    · -- the first of the rest is ready
      cases hr : restOf n L with
      | nil => rw [hr] at hf; simp at hf
      | cons i l =>
        exfalso
        have hin : i ∈ restOf n L := by rw [hr]; simp
        obtain ⟨h1, h2⟩ := List.mem_filter.1 hin
        have hi := List.mem_range.1 h1
        obtain ⟨o', bef, hz⟩ := hex i (by omega)
        obtain ⟨o, ho, hc, hedge, _⟩ := R.oper i o' bef hz
        have : i ∈ Region.ready .any ops L := by
          rw [mem_ready]
          refine ⟨by simpa using h2, o, ho, fun e he hb => ?_⟩
          obtain ⟨q1, _⟩ := hedge e (Array.mem_toList_iff.2 he) hb
          have hlt := R.lt i o' bef hz _ q1
          cases hq : L.getD e.on true with
          | true =>
            have : e.on < L.size := by omega
            simp [this] at hq ⊢; exact hq
          | false =>
            have hmem : e.on ∈ restOf n L := List.mem_filter.2 ⟨List.mem_range.2 (by omega), by simp [hq]⟩
            rw [hr] at hmem hsorted
            rcases List.mem_cons.1 hmem with h | h
            · omega
            · have := (List.pairwise_cons.1 hsorted).1 _ h; omega
        rw [hnone] at this
        cases this
    · obtain ⟨hun, o, ho, hall⟩ := mem_ready.1 hi
      have hino : i < ops.size := (Array.getElem?_eq_some_iff.1 ho).1
      obtain ⟨o', bef, hz⟩ := hex i hino
      obtain ⟨o2, ho2, hc, hedge, hback⟩ := R.oper i o' bef hz
      rw [ho] at ho2; cases ho2
      have up : ∀ x, x < ops.size → L.getD x false = true → L.getD x true = true := fun x hx h => by
        have : x < L.size := by omega
        simp [this] at h ⊢; exact h
      have hlisted : ∀ x ∈ bef, L.getD x false = true := fun x hx => by
        obtain ⟨e, he, hb, hx⟩ := hback x hx
        have hon := hall e (Array.mem_toList_iff.1 he) hb
        have hlt := R.lt i o' bef hz _ (hedge e he hb).1
        rcases hx with rfl | ⟨p, b, hp, hxb⟩
        · exact hon
        · exact hcl e.on p b hp (up _ (by omega) hon) (by omega) x hxb
      have hin : i < n := by
        rcases Nat.lt_or_ge i n with h | h
        · exact h
        · exfalso
          have hnil : restOf n L = [] := List.filter_eq_nil_iff.2 fun x hx => by
            have hxn := List.mem_range.1 hx
            have := up x (by omega) (hlisted x (R.chain i o' bef h hz x (by omega)))
            simp [this]
          rw [hnil] at hf
          simp at hf
      have hmem : i ∈ restOf n L := List.mem_filter.2 ⟨List.mem_range.2 hin, by simp [hun]⟩
      have hready : ∀ x ∈ bef, ¬ x ∈ restOf n L := fun x hx hxr => by
        have h1 := (List.mem_filter.1 hxr).2
        have hlt := R.lt i o' bef hz x hx
        rw [up x (by omega) (hlisted x hx)] at h1
        cases h1
      have hzt : (z.take n)[i]? = some (o', bef) := by rw [List.getElem?_take, if_pos hin]; exact hz
      have hpred : (fun j => j ∈ restOf n L ∧ j ≠ i) = (· ∈ restOf n (L.setIfInBounds i true)) := by
        funext j
        exact propext (restOf_mem hin (by omega)).symm
      have hlen : (restOf n (L.setIfInBounds i true)).length = fuel := by
        obtain ⟨l1, l2, hsplit⟩ := List.append_of_mem hmem
        rw [restOf_set (by omega) hsplit]
        rw [hsplit] at hf
        simp at hf ⊢
        omega
      have hcl' : ∀ (k : Nat) o bef, z[k]? = some (o, bef) → (L.setIfInBounds i true).getD k true = true → k < ops.size → ∀ x ∈ bef, (L.setIfInBounds i true).getD x false = true := fun k ok bk hk hlk hkn x hx => by
        by_cases hki : k = i
        · subst hki
          rw [hz] at hk; cases hk
          exact getD_set_true (hlisted x hx)
        · refine getD_set_true (hcl k ok bk hk ?_ hkn x hx)
          rw [getD_set_ne true (Ne.symm hki)] at hlk; exact hlk
      have htl' : ∀ j, n ≤ j → (L.setIfInBounds i true).getD j false = false := fun j hj => by
        rw [Array.getD_eq_getD_getElem?, Array.getElem?_setIfInBounds, if_neg (by omega), ← Array.getD_eq_getD_getElem?]; exact htl j hj
      have hL' : (L.setIfInBounds i true).size = ops.size := by simp [hL]
      cases hca : callAt (z.take n) i with
      | false =>
        obtain ⟨s1, k1, S1⟩ := stage_step R.tidy hS hzt hmem hready hca
        rw [hpred] at S1
        exact rop_ok H R hz hin (by omega) hun C hM hβ k1 fun M' β' a' w' hM' hβ' C' => walk_ok H hcall R hpan fuel hlen hL' hcl' htl' C' hM' hβ' S1 hQ
      | true =>
        rcases stage_call R.tidy hS hzt hmem hready hca with ⟨hwt, b', hn, hd, S1⟩ | ⟨hwt, fx, as, f', args, Kc, hcall1, hres, hk, hret, hp⟩
        · rw [hpred] at S1
          have k1 : actOp cx b.nid n i o' bef s = some (putDst s.1 o'.dst V.undef, s.2) := by
            unfold actOp
            simp only [hwt, Bool.false_eq_true, if_false]
          refine rop_ok H R hz hin (by omega) hun C hM hβ k1 fun M' β' a' w' hM' hβ' C' => ?_
          rw [← hn, ← hd] at C'
          exact walk_ok H hcall R hpan fuel hlen hL' hcl' htl' C' hM' hβ' S1 hQ
        · refine rcall_ok hcall R hz C hM hβ hcall1 hwt hres hk (fun v h nid' M' β' a' w' hkc hM' hβ' C' => ?_) (fun ch h nid' M' β' chain w' hkc hM' hβ' C' hch => hpan ch _ M' β' chain a w' hM' hβ' C' hch (hp ch h nid' hkc))
          obtain ⟨b', hn, hd, S1⟩ := hret v h nid' hkc
          rw [hpred] at S1
          rw [← hn, ← hd] at C'
          exact walk_ok H hcall R hpan fuel hlen hL' hcl' htl' C' hM' hβ' S1 hQ

theorem tail_ok {r : Option Nat} {ops : Array Oper} {z : List (O × List Nat)} {k : Nat} (R : Region' P gl N ops z k) {Q : Exit → Act → World → Prop} : ∀ (t i : Nat) {L : Array Bool} {a : Act} {w : World}, i + t = ops.size → k ≤ i → L.size = ops.size → (∀ j, j < i → L.getD j false = true) → (∀ j, i ≤ j → L.getD j false = false) →
    wpOpsIn (fence r) 0 P ops Q (List.range' i t) a w → wpAnyIn (fence r) 0 P .any ops Q t L a w
  | 0, i, L, a, w, hit, hki, hL, hdone, hopen, h => by
    refine ⟨?_, h⟩
    cases hr : Region.ready .any ops L with
    | nil => rfl
    | cons x l =>
      exfalso
      have hx : x ∈ Region.ready .any ops L := by rw [hr]; simp
      obtain ⟨hun, o, ho, _⟩ := mem_ready.1 hx
      have hxo : x < ops.size := (Array.getElem?_eq_some_iff.1 ho).1
      have := hdone x (by omega)
      have hxl : x < L.size := by omega
      simp [hxl] at this hun
      rw [this] at hun
      cases hun
  | t + 1, i, L, a, w, hit, hki, hL, hdone, hopen, h => by
    have hex : ∀ i, i < ops.size → ∃ o bef, z[i]? = some (o, bef) := fun i hi => by
      have : i < z.length := by rw [R.size]; exact hi
      exact ⟨_, _, List.getElem?_eq_getElem this⟩
    have hio : i < ops.size := by omega
    have hil : i < L.size := by omega
    refine ⟨fun hnone => ?_, fun x hx => ?_⟩
    · exfalso
      obtain ⟨o', bef, hz⟩ := hex i hio
      obtain ⟨o, ho, hc, hedge, _⟩ := R.oper i o' bef hz
      have : i ∈ Region.ready .any ops L := by
        rw [mem_ready]
        refine ⟨?_, o, ho, fun e he hb => ?_⟩
        · have := hopen i (Nat.le_refl _)
          simp [hil] at this ⊢
          exact this
        · have q1 := (hedge e (Array.mem_toList_iff.2 he) hb).1
          exact hdone _ (R.lt i o' bef hz _ q1)
      rw [hnone] at this
      cases this
    · obtain ⟨hun, o, ho, hall⟩ := mem_ready.1 hx
      have hxo : x < ops.size := (Array.getElem?_eq_some_iff.1 ho).1
      have hxl : x < L.size := by omega
      have hxi : x = i := by
        rcases Nat.lt_trichotomy x i with h1 | h1 | h1
        · have := hdone x h1
          simp [hxl] at this hun
          rw [this] at hun
          cases hun
        · exact h1
        · exfalso
          obtain ⟨o', bef, hz⟩ := hex x hxo
          obtain ⟨o2, ho2, hc, hedge, hback⟩ := R.oper x o' bef hz
          rw [ho] at ho2; cases ho2
          have hib := R.chain x o' bef (by omega) hz i h1
          obtain ⟨e, he, hb, hor⟩ := hback i hib
          have hon := hall e (Array.mem_toList_iff.1 he) hb
          have hei : i ≤ e.on := by
            rcases hor with rfl | ⟨p, b, hp, hxb⟩
            · exact Nat.le_refl _
            · exact Nat.le_of_lt (R.lt e.on p b hp i hxb)
          have := hopen e.on hei
          rw [this] at hon
          cases hon
      subst hxi
      rw [List.range'_succ, wpOpsIn_cons] at h
      refine wpOpIn_mono (fun a' w' h' => ?_) h
      refine tail_ok R t (x + 1) (by omega) (by omega) (by simp [hL]) (fun j hj => ?_) (fun j hj => ?_) h'
      · rw [Array.getD_eq_getD_getElem?, Array.getElem?_setIfInBounds]
        by_cases e : x = j
        · subst e; rw [if_pos rfl, if_pos hxl]; rfl
        · rw [if_neg e, ← Array.getD_eq_getD_getElem?]; exact hdone j (by omega)
      · rw [Array.getD_eq_getD_getElem?, Array.getElem?_setIfInBounds, if_neg (by omega), ← Array.getD_eq_getD_getElem?]; exact hopen j (by omega)

theorem actIdx_congr {z z' : List (O × List Nat)} : ∀ {l : List Nat} {s : Env × Heap}, (∀ i ∈ l, z[i]? = z'[i]?) → actIdx cx nid n z l s = actIdx cx nid n z' l s
  | [], s, h => rfl
  | i :: l, s, h => by
    simp only [actIdx, h i List.mem_cons_self]
    cases z'[i]? with
    | none => rfl
    | some p =>
      obtain ⟨o, bef⟩ := p
      simp only
      congr 1
      funext s'
      exact actIdx_congr fun j hj => h j (List.mem_cons_of_mem _ hj)

theorem mapM_drop {α γ : Type} {f : α → Option γ} : ∀ {l : List α} {r : List γ} (k : Nat), l.mapM f = some r → (l.drop k).mapM f = some (r.drop k)
  | l, r, 0, h => h
  | [], r, k + 1, h => by simp at h; subst h; simp
  | x :: l, r, k + 1, h => by
    simp only [List.mapM_cons, Option.pure_def, Option.bind_eq_bind, Option.bind_eq_some_iff, Option.some.injEq] at h
    obtain ⟨y, hy, ys, hys, rfl⟩ := h
    simpa using mapM_drop k hys

theorem drawn_ok (hm : P.follows .mixedOrders = true) (H : CtxOk P gl cx) : DrawnOk P gl cx := by
  intro call yld ops z1 t1 id N hc hd M0 M β0 β w0 w st a K env h hcall hyld hM hβ C hact r hdf
  obtain ⟨z, k, rfl, rfl, hlen, hmap, R⟩ := Region'.of hc hd
  have hkle := R.kle
  refine wpIn_region_any hm ?_
  have hrep : ∀ k d, k < ops.size → (Array.replicate ops.size false).getD k d = false := fun k d hk => by simp [hk]
  have hrepf : ∀ j, (Array.replicate ops.size false).getD j false = false := fun j => by
    rw [Array.getD_eq_getD_getElem?, Array.getElem?_replicate]; split <;> rfl
  have hrest : restOf k (Array.replicate ops.size false) = List.range k := List.filter_eq_self.2 fun j hj => by
    rw [hrep j true (by have := List.mem_range.1 hj; omega)]; rfl
  have hops := Ops_of (P := P) (gl := gl) (n := k) (N := N) (ops := ops) (l := ops.toList.drop k) (l' := (z.drop k).map (·.1)) (fun j o hj => by
      rw [List.getElem?_drop] at hj
      simpa using hj) (by rw [List.map_drop]; exact mapM_drop k hmap) (fun d hd' => hd d (List.mem_append_right _ hd'))
  rw [List.length_drop, Array.length_toList] at hops
  have finish : ∀ M' β' L' a' w' (s' : Env × Heap) (b' : FSt), restOf k L' = [] → L'.size = ops.size → (∀ j, k ≤ j → L'.getD j false = false) → M0.on w0.heap.size M' → β0.le β' → RCfg gl M' β' N b'.nid k w0 b'.dfr L' s' a' w' →
      evOps call yld ((z.drop k).map (·.1)) { b' with env := s'.1, h := s'.2, nid := b'.nid + k } K → wpAnyIn (fence r) 0 P .any ops (Post gl N w0 M0 β0 K) (ops.size - k) L' a' w' := by
    intro M' β' L' a' w' s' b' hr hL hopen hM' hβ' C' hK
    have hdone : ∀ j, j < k → L'.getD j true = true := fun j hj => by
      have : j ∉ restOf k L' := by rw [hr]; simp
      unfold restOf at this
      rw [List.mem_filter] at this
      cases hq : L'.getD j true with
      | true => rfl
      | false => exact absurd ⟨List.mem_range.2 hj, by simp [hq]⟩ this
    have hdone' : ∀ j, j < k → L'.getD j false = true := fun j hj => by
      have h1 := hdone j hj
      have h2 : j < L'.size := by omega
      simp [h2] at h1 ⊢
      exact h1
    refine tail_ok R (ops.size - k) k (by omega) (Nat.le_refl _) hL hdone' hopen ?_
    exact evOps_ok (call := call) (yld := yld) (M := M') (β := β') (st := { b' with env := s'.1, h := s'.2, nid := b'.nid + k }) (K := K) hdf hcall hyld hops hM' hβ' ⟨C'.globs, C'.env, C'.sim, C'.far, C'.dfr⟩ hK
  have C0 : RCfg gl M β N st.nid k w0 st.dfr (Array.replicate ops.size false) (st.env, st.h) a { w with drawn := w.drawn + 1 } := ⟨C.globs, C.env, C.sim.drew, fun b hb => C.fresh b (by omega), fun k _ _ => C.fresh _ (by omega), C.dfr⟩
  rcases hact with ⟨hact, hK⟩ | hwk
  · rw [hlen] at hact hK
    have hact' : actIdx cx st.nid k z (restOf k (Array.replicate ops.size false)) (st.env, st.h) = some (env, h) := by
      rw [hrest, List.range_eq_range']
      have e := actAll_idx (cx := cx) (nid := st.nid) (n := k) (z := z.take k) (l := z.take k) (k := 0) (s := (st.env, st.h)) (fun q => by rw [Nat.zero_add])
      rw [hlen] at e
      rw [← actIdx_congr (z := z.take k) fun i hi => ?_, ← e]
      · exact hact
      · have : i < k := by have := List.mem_range'.1 hi; omega
        rw [List.getElem?_take, if_pos this]
    have e := any_ok (dfr := st.dfr) (n := k) (r := r) (M0 := M0) (β0 := β0) (w0 := w0) H R (t := ops.size - k) (Q := Post gl N w0 M0 β0 K) k (by rw [hrest]; simp) (by simp) (fun i o bef hz hl hi => by rw [hrep i true hi] at hl; cases hl) (fun j _ => hrepf j)
      C0 hM hβ hact' fun M' β' L' a' w' hr hL hopen hM' hβ' C' => finish M' β' L' a' w' (env, h) st hr hL hopen hM' hβ' C' hK
    rw [show k + (ops.size - k) = ops.size by omega] at e
    exact e
  · rw [hlen] at hwk
    have S0 := stage_init R.tidy (by rw [List.range_eq_range']; exact List.pairwise_lt_range') (fun i hi => List.mem_range.1 hi) hwk
    rw [← hrest] at S0
    have e := walk_ok (K := fun x s => match x with | .normal => evOps call yld ((z.drop k).map (·.1)) s K | x => K x s) (n := k) (r := r) (M0 := M0) (β0 := β0) (w0 := w0) (b := st) H hcall R (t := ops.size - k) (Q := Post gl N w0 M0 β0 K) (fun ch st' M β chain a w hM hβ C hch hk => ⟨M, β, .panic ch, st', hM, hβ, C, hch, hk⟩) k (by rw [hrest]; simp) (by simp) (fun i o bef hz hl hi => by rw [hrep i true hi] at hl; cases hl) (fun j _ => hrepf j)
      C0 hM hβ S0 fun M' β' L' a' w' s' b' hr hL hopen hM' hβ' C' hk => finish M' β' L' a' w' s' b' hr hL hopen hM' hβ' C' hk
    rw [show k + (ops.size - k) = ops.size by omega] at e
    exact e

end
end Go.Abs
