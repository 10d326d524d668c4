/-
  ABS, part 26: calls are followed.
-/
import Derived.Test.YtfmdgjnjfmgbmaaGreatDoorAbs25
import GoSem.Extern.MapsClone
namespace Go.Abs
open Go Go.RowKit
set_option linter.unusedSectionVars false
variable [Syms]

section
variable {P : Program} {gl : Nat → Option (List V)} {M : Mem} {β : Places} {w0 w : World}

theorem initEnv_at : ∀ (l : List V) (i : Nat) (e : Env) (t : Nat), (initEnv i l e).at t = if t < i then e.at t else match l[t - i]? with | some v => v | none => e.at t
  | [], i, e, t => by simp [initEnv]
  | v :: vs, i, e, t => by
    simp only [initEnv]
    rw [initEnv_at vs (i + 1) _ t]
    by_cases h : t < i
    · rw [if_pos (by omega), if_pos h, at_set, if_neg (by omega)]
    · by_cases h2 : t = i
      · subst h2
        rw [if_pos (by omega), if_neg (by omega), at_set, if_pos rfl]
        simp
      · rw [if_neg (by omega), if_neg h]
        have : t - i = (t - (i + 1)) + 1 := by omega
        rw [this, List.getElem?_cons_succ, at_set, if_neg h2]

theorem initEnv_rel {args : List V} {cargs : List Value} (R : RelL M β args cargs) (n : Nat) : EnvRel M β (cargs.toArray ++ Array.replicate (n - cargs.toArray.size) undef).size (initEnv 0 args .leaf) { tmps := cargs.toArray ++ Array.replicate (n - cargs.toArray.size) undef, defers := [] } where
  size := rfl
  rel t := by
    rw [initEnv_at, if_neg (by omega), Nat.sub_zero]
    have hleaf : Env.at (.leaf : Env) t = V.undef := by simp [Env.at, T.get]
    rw [hleaf, Array.getD_eq_getD_getElem?]
    cases hk : args[t]? with
    | some v =>
      obtain ⟨c, hc, hr⟩ := R.get hk
      have hlt : t < cargs.length := by
        rcases Nat.lt_or_ge t cargs.length with h | h
        · exact h
        · rw [List.getElem?_eq_none h] at hc; cases hc
      rw [Array.getElem?_append_left (by simpa using hlt)]
      simp only [List.getElem?_toArray, hc, Option.getD_some]
      exact hr
    | none =>
      have hge : cargs.length ≤ t := by
        rw [R.length]
        rcases Nat.lt_or_ge t args.length with h | h
        · rw [List.getElem?_eq_getElem h] at hk; cases hk
        · exact h
      rw [Array.getElem?_append_right (by simpa using hge)]
      have : ((Array.replicate (n - cargs.toArray.size) undef)[t - cargs.toArray.size]?).getD undef = undef := by
        rw [Array.getElem?_replicate]; split <;> rfl
      rw [this]
      exact undef_rel M β

theorem readRes_run {e : Env} {hp : Heap} {N : Nat} {a : Act} (E : EnvRel M β N e a) (S : Sim M β hp.get w0 w) {rv : ResultVar} {q : RV} (hc : cRes P rv = some q) {v : V} (hr : readRes e hp q = some v) :
    ∃ c, ((match rv with | .tmp t => pure (a.tmps.getD t undef) | .cell b t => do loadVar t (← asAddr (a.tmps.getD b undef)) : Sem Value)).run P w = .ok c w ∧ Rel M β v c := by
  cases rv with
  | tmp t =>
    simp only [cRes] at hc; cases hc
    simp only [readRes] at hr; cases hr
    exact ⟨_, by simp only [Sem.run_pure], E.rel t⟩
  | cell b t =>
    simp only [cRes, Option.bind_eq_some_iff, Option.map_eq_some_iff] at hc
    obtain ⟨g, hg, n, hn, rfl⟩ := hc
    simp only [readRes, Option.bind_eq_some_iff] at hr
    obtain ⟨cs, hcs, hv⟩ := hr
    obtain ⟨B, O, l, he, hl, hlen, _, hcell⟩ := S.readAt (fun _ _ h => h) (E.rel b) hcs
    obtain ⟨h1, h2⟩ := ofCells_rel hv hl
    have hload := run_loadCells_at (P := P) hcell
    cases g with
    | true =>
      have hln : l.length = n := by rw [hl.length, hlen]; rfl
      rw [hln] at hload
      exact ⟨.agg l.toArray, by simp [he, asAddr, loadVar, tAgg_run hg, tSize_run hn, hload], h1 rfl⟩
    | false =>
      obtain ⟨c, rfl, hcr⟩ := h2 rfl
      have hc0 : w.cell? ⟨B, O, none⟩ = some c := by simpa using hcell 0 c rfl
      exact ⟨c, by simp [he, asAddr, loadVar, tAgg_run hg, hc0], hcr⟩

theorem resList_run {e : Env} {hp : Heap} {N : Nat} {a : Act} (E : EnvRel M β N e a) (S : Sim M β hp.get w0 w) : ∀ {rvs : List ResultVar} {qs : List RV} {vs : List V}, rvs.mapM (cRes P) = some qs → qs.mapM (readRes e hp) = some vs →
    ∃ cs, (rvs.mapM fun rv => (match rv with | .tmp t => pure (a.tmps.getD t undef) | .cell b t => do loadVar t (← asAddr (a.tmps.getD b undef)) : Sem Value)).run P w = .ok cs w ∧ RelL M β vs cs
  | [], qs, vs, h1, h2 => by
    simp at h1; subst h1
    simp at h2; subst h2
    exact ⟨[], by simp, by simp only [RelL]⟩
  | rv :: rvs, qs, vs, h1, h2 => by
    simp only [List.mapM_cons, Option.pure_def, Option.bind_eq_bind, Option.bind_eq_some_iff, Option.some.injEq] at h1
    obtain ⟨q, hq, qs', hqs, rfl⟩ := h1
    simp only [List.mapM_cons, Option.pure_def, Option.bind_eq_bind, Option.bind_eq_some_iff, Option.some.injEq] at h2
    obtain ⟨v, hv, vs', hvs, rfl⟩ := h2
    obtain ⟨c, hc, hr⟩ := readRes_run (P := P) E S hq hv
    obtain ⟨cs, hcs, hrs⟩ := resList_run E S hqs hvs
    refine ⟨c :: cs, ?_, by simp only [RelL]; exact ⟨c, cs, rfl, hr, hrs⟩⟩
    rw [List.mapM_cons, Sem.run_bind, hc, Result.andThen_ok, Sem.run_bind, hcs, Result.andThen_ok, Sem.run_pure]

theorem results_run {e : Env} {hp : Heap} {N : Nat} {a : Act} (E : EnvRel M β N e a) (S : Sim M β hp.get w0 w) {fn : Func} {qs : List RV} (hq : fn.results.toList.mapM (cRes P) = some qs) {v : V} (hv : Abs.results qs e hp = some v) :
    ∃ c, (Go.results fn a.tmps).run P w = .ok c w ∧ Rel M β v c := by
  unfold Abs.results at hv
  simp only [Option.map_eq_some_iff] at hv
  obtain ⟨vs, hvs, hv⟩ := hv
  obtain ⟨cs, hcs, hrs⟩ := resList_run E S hq hvs
  have hlen := hrs.length
  unfold Go.results
  rw [Sem.run_bind, Array.mapM_eq_mapM_toList, Sem.run_map]
  erw [hcs]
  split at hv
  · rename_i v1
    subst hv
    match cs, hlen with
    | [c], _ =>
      simp only [RelL] at hrs
      obtain ⟨c', cs', he, hr, _⟩ := hrs
      cases he
      exact ⟨c, rfl, hr⟩
  · rename_i hne
    subst hv
    have h1 : cs.length ≠ 1 := fun h => by
      rw [hlen] at h
      obtain ⟨x, hx⟩ := List.length_eq_one_iff.1 h
      exact hne x hx
    refine ⟨.tuple cs.toArray, ?_, by simp only [Rel]; exact ⟨_, rfl, hrs⟩⟩
    simp only [Result.andThen_ok, List.size_toArray, h1, dif_neg, not_false_eq_true, Sem.run_pure]

end

structure CtxOk (P : Program) (gl : Nat → Option (List V)) (cx : Ctx) : Prop where
  fn : ∀ f afn, cx.fn f = some afn → ∃ fn, P.funcs[f]? = some fn ∧ cFunc P gl fn = some afn ∧ (fn.name == "runtime.NumGoroutine") = false
  sum : ∀ f F, cx.sum f = some F → PureSpec P gl f F
  clone : ∀ f, cx.clone f = true → ∀ args w, (callFunc f args).run P w = ((Extern.MapsClone.clone args).run P w).andThen fun v w' => .ok (.value v) w' := by intro f h; cases h

section
variable {P : Program} {gl : Nat → Option (List V)} {cx : Ctx}

theorem CtxOk.fnOk (H : CtxOk P gl cx) : ∀ f, (cx.fn f).isSome = true → FnOk P f := fun f hf => by
  cases e : cx.fn f with
  | none => rw [e] at hf; cases hf
  | some afn =>
    obtain ⟨fn, hfn, hcf, hname⟩ := H.fn f afn e
    unfold cFunc at hcf
    simp only [Option.bind_eq_some_iff] at hcf
    obtain ⟨b, hb, _⟩ := hcf
    exact ⟨fn, hfn, by rw [hb]; rfl, hname⟩

/-- In a panic, or not. -/
def ModeRel (M : Mem) (β : Places) : Option (List V) → FrameMode → Prop
  | none, u => u = .returning
  | some ch, u => ∃ c, u = .panicking c ∧ ChainRel M β ch c

theorem ModeRel.mono {M M' : Mem} {β β' : Places} (hM : M.le M') (hβ : β.le β') : ∀ {u : Option (List V)} {u' : FrameMode}, ModeRel M β u u' → ModeRel M' β' u u'
  | none, _, h => h
  | some _, _, ⟨c, h1, h2⟩ => ⟨c, h1, h2.mono hM hβ⟩

theorem ModeRel.settled {M : Mem} {β : Places} : ∀ {u : Option (List V)} {u' : FrameMode}, ModeRel M β u u' → settle u' = u'
  | none, u', h => by have h' : u' = .returning := h; rw [h']; rfl
  | some ch, u', ⟨c, h1, h2⟩ => by
    rw [h1]
    cases ch with
    | nil => have h3 : c = [] := h2; rw [h3]; rfl
    | cons v l =>
      obtain ⟨p, c', rfl, _, hr, _, _⟩ := h2
      obtain ⟨pv, pr, pg⟩ := p
      have hr' : pr = false := hr
      subst hr'
      rfl

theorem ModeRel.ne_run {M : Mem} {β : Places} : ∀ {u : Option (List V)} {u' : FrameMode}, ModeRel M β u u' → u' ≠ .run
  | none, _, h => by have h' : _ = FrameMode.returning := h; rw [h']; intro e; cases e
  | some _, _, ⟨_, h1, _⟩ => by rw [h1]; intro e; cases e

theorem ChainRel.nogo {M : Mem} {β : Places} : ∀ {l : List V} {c : List PanicEntry}, ChainRel M β l c → c.dropWhile (!·.goexit) = []
  | [], _, h => by have h' : _ = [] := h; rw [h']; rfl
  | _ :: _, _, ⟨p, c', h1, _, _, h3, h4⟩ => by
    rw [h1]
    simp [h3, ChainRel.nogo h4]

/-- What a call that was put off finds, and what is behind it. -/
theorem recover_mode {M : Mem} {β : Places} {u : Option (List V)} {u' : FrameMode} (hm : ModeRel M β u u') {v : V} (hv : recovered u = some v) (c₀ : Frame) (cs : List Frame) (hc : c₀.mode = u') :
    ∃ cv um, (recoverD (c₀ :: cs) = some (cv, { c₀ with mode := um } :: cs) ∨ (recoverD (c₀ :: cs) = none ∧ cv = .nilIface ∧ ({ c₀ with mode := um } :: cs : List Frame) = c₀ :: cs)) ∧ Rel M β v cv ∧ settle um = .returning := by
  cases u with
  | none =>
    have h' : u' = .returning := hm
    simp only [recovered] at hv
    cases hv
    refine ⟨.nilIface, .returning, .inr ⟨?_, rfl, ?_⟩, by simp only [Rel], rfl⟩
    · simp only [recoverD, hc, h']
    · rw [← h', ← hc]
  | some ch =>
    obtain ⟨c, h1, h2⟩ := hm
    cases ch with
    | nil => simp [recovered] at hv
    | cons x l =>
      simp only [recovered] at hv
      cases hv
      obtain ⟨p, c', rfl, hr, h3, h4, h5⟩ := h2
      obtain ⟨pv, pr, pg⟩ := p
      have e1 : pr = false := h3
      have e2 : pg = false := h4
      subst e1 e2
      refine ⟨pv, .panicking ({ v := pv, recovered := true } :: c'), .inl ?_, hr, ?_⟩
      · simp only [recoverD, hc, h1]
      · simp only [settle, h5.nogo]

/-- An activation on its way out is followed. -/
theorem leave_ok (H : CtxOk P gl cx) (hdr : DrawnOk P gl cx) (m : Nat) {call : Yld Prop → CallF} (hcall : ∀ M β y, YldOk P gl M β y → CallOk P gl M β (call y)) {fn0 : Func} {tmps : Array Value} {R : Ending → World → Prop} {w0 : World} {M0 : Mem} {β0 : Places} {K : Option (List V) → Heap → Nat → Prop}
    (hK : ∀ {M : Mem} {β : Places} {u : Option (List V)} {u' : FrameMode} {h : Heap} {nid : Nat} {w : World}, M0.on w0.heap.size M → β0.le β → ModeRel M β u u' → Sim M β h.get w0 w → (∀ b, nid ≤ b → β b = none) → K u h nid → LeavesIn (fence none) 0 P fn0 tmps R [] u' w) :
    ∀ (l : List Dfr) {ds : List Deferred} {u : Option (List V)} {u' : FrameMode} {h : Heap} {nid : Nat} {M : Mem} {β : Places} {w : World}, M0.on w0.heap.size M → β0.le β → Globs gl M → DfrRel M β l ds → ModeRel M β u u' → Sim M β h.get w0 w → (∀ b, nid ≤ b → β b = none) →
      leave cx (fun c st K => evC cx call noYld m c st K) l u h nid K → LeavesInM (fence none) 0 P fn0 tmps R ds u' w
  | [], ds, u, u', h, nid, M, β, w, hM, hβ, G, hd, hm, S, hf, hk => by
    have hd' : ds = [] := hd
    subst hd'
    exact hK hM hβ hm S hf hk
  | .mark d :: l, ds, u, u', h, nid, M, β, w, hM, hβ, G, hd, hm, S, hf, hk => by
    obtain ⟨i, rest, hi, rfl, hd'⟩ := hd
    simp only [leave] at hk
    split at hk
    · rename_i hs
      obtain ⟨hw, hMo⟩ := S.shut (isShut_eq hs) hi
      refine ⟨hm.ne_run, .inl ⟨i.blk, _, rfl, run_takeDeferred hw, leave_ok H hdr m hcall hK l hM hβ G hd' hm ?_ hf hk⟩⟩
      rw [get_put]
      exact S.gone (isShut_eq hs) rfl hi (Keeps.putObj hw (fun _ _ _ h => by cases h) hMo)
    · exact hk.elim
  | .call f args :: l, ds, u, u', h, nid, M, β, w, hM, hβ, G, hd, hm, S, hf, hk => by
    obtain ⟨dargs, captured, rest, rfl, hr, hd'⟩ := hd
    simp only [leave] at hk
    split at hk
    · exact hk.elim
    · rename_i afn hafn
      obtain ⟨fn, hfn, hcf, hname⟩ := H.fn f afn hafn
      unfold cFunc at hcf
      simp only [Option.bind_eq_some_iff] at hcf
      obtain ⟨b, hb, c, hc, rs, hrs, hcf⟩ := hcf
      split at hcf
      · rename_i hcond
        cases hcf
        have hE := initEnv_rel hr fn.ntmps
        simp only [Array.toArray_toList] at hE
        have hdst : ∀ d ∈ c.dsts, d < ((dargs ++ captured) ++ Array.replicate (fn.ntmps - (dargs ++ captured).size) undef).size := fun d hd => by
          have := List.all_eq_true.1 hcond.2 d hd
          simp at this ⊢
          omega
        have hinv : (invoke (.fn (.func f) captured) dargs).run P w = .ok (.enter f (dargs ++ captured)) w := by
          simp only [invoke, Sem.run_bind, Result.andThen_ok, callFunc, run_program, hfn, hname, hb, Option.isNone_some, Bool.false_eq_true, if_false, Sem.run_pure]
        refine ⟨hm.ne_run, .inr ⟨(fun h => by cases h), .func f, captured, f, dargs ++ captured, rfl, hinv, (fun _ _ => trivial), ?_⟩⟩
        split at hk
        · rename_i p hp
          split at hk
          · rename_i v hv
            refine callsDIn_of_wpSIn hfn hb trivial fun c₀ cs hc₀ => ?_
            obtain ⟨cv, um, hrec, hrel, hset⟩ := recover_mode hm hv c₀ cs hc₀
            have hs := rec_sound (N := ((dargs ++ captured) ++ Array.replicate (fn.ntmps - (dargs ++ captured).size) undef).size) (w0 := w0) (M0 := M) (β0 := β) hcall hdr H.fnOk m hrec b c p.1 p.2 hc hp hdst (.refl _ M) (.refl β) (st := { env := initEnv 0 args .leaf, h, nid, dfr := [] }) ⟨G, hE, S, hf, rfl⟩ hrel hk
            refine wpSIn_mono' hs ?_
            rintro x a cs' w' ⟨rfl, M', β', ex, st, h1, h2, C, hx, hK'⟩
            have hret : (ex = .normal ∨ ex = .ret) → a.defers = [] ∧ ∃ u2, ({ c₀ with mode := um } :: cs : List Frame) = { c₀ with mode := u2 } :: cs ∧ ∃ v, (Go.results fn a.tmps).run P w' = .ok v w' ∧ LeavesInM (fence none) 0 P fn0 tmps R rest (settle u2) w' := fun he => by
              have hK2 : (match st.dfr with
                | [] => match Abs.results rs st.env st.h with
                  | some _ => leave cx (fun c st K => evC cx call noYld m c st K) l none st.h st.nid K
                  | none => Ans.ff
                | _ => (Ans.ff : Prop)) := by rcases he with rfl | rfl <;> exact hK'
              split at hK2
              · rename_i hdf
                split at hK2
                · rename_i v hv
                  obtain ⟨cv', hc', _⟩ := results_run C.env C.sim hrs hv
                  have hdd := C.dfr
                  rw [hdf] at hdd
                  refine ⟨hdd, um, rfl, cv', hc', ?_⟩
                  rw [hset]
                  exact leave_ok H hdr m hcall hK l (hM.trans h1) (hβ.trans h2) (G.mono h1.1) (hd'.mono h1.1 h2) (u := none) rfl C.sim C.fresh hK2
                · exact hK2.elim
              · exact hK2.elim
            cases x with
            | normal => cases ex <;> first | exact False.elim hx | exact hret (.inl rfl)
            | ret => cases ex <;> first | exact False.elim hx | exact hret (.inr rfl)
            | panic ch => cases ex <;> first | exact False.elim hx | exact hK'.elim
            | exit id => cases ex <;> first | exact False.elim hx | exact hK'.elim
            | goto id => cases ex <;> first | exact False.elim hx | exact hK'.elim
            | outgrown => cases ex <;> exact False.elim hx
          · exact hk.elim
        · have hs := (sound hcall hdr H.fnOk m b _ w0 M β none noYld (YldOk.none P gl M β) (.inl rfl)).1 c hc hdst (.refl _ M) (.refl β) (st := { env := initEnv 0 args .leaf, h, nid, dfr := [] }) ⟨G, hE, S, hf, rfl⟩ hk
          refine (callsDIn_of_wp (R := fun e w' => match e with | .returned _ => LeavesInM (fence none) 0 P fn0 tmps R rest u' w' | _ => False) hfn hb trivial (wpIn_mono hs ?_)).mono ?_
          · rintro x a w' ⟨M', β', ex, st, h1, h2, C, hx, hK'⟩
            have hret : (ex = .normal ∨ ex = .ret) → a.defers = [] ∧ ∃ v, (Go.results fn a.tmps).run P w' = .ok v w' ∧ LeavesInM (fence none) 0 P fn0 tmps R rest u' w' := fun he => by
              have hK2 : (match st.dfr with
                | [] => match Abs.results rs st.env st.h with
                  | some _ => leave cx (fun c st K => evC cx call noYld m c st K) l u st.h st.nid K
                  | none => Ans.ff
                | _ => (Ans.ff : Prop)) := by rcases he with rfl | rfl <;> exact hK'
              split at hK2
              · rename_i hdf
                split at hK2
                · rename_i v hv
                  obtain ⟨cv', hc', _⟩ := results_run C.env C.sim hrs hv
                  have hdd := C.dfr
                  rw [hdf] at hdd
                  exact ⟨hdd, cv', hc', leave_ok H hdr m hcall hK l (hM.trans h1) (hβ.trans h2) (G.mono h1.1) (hd'.mono h1.1 h2) (hm.mono h1.1 h2) C.sim C.fresh hK2⟩
                · exact hK2.elim
              · exact hK2.elim
            cases x with
            | normal => cases ex <;> first | exact False.elim hx | exact hret (.inl rfl)
            | ret => cases ex <;> first | exact False.elim hx | exact hret (.inr rfl)
            | panic ch => cases ex <;> first | exact False.elim hx | exact hK'.elim
            | exit id => cases ex <;> first | exact False.elim hx | exact hK'.elim
            | goto id => cases ex <;> first | exact False.elim hx | exact hK'.elim
            | outgrown => cases ex <;> exact False.elim hx
          · rintro e u2 w' ⟨rfl, he⟩
            cases e with
            | returned _ => show LeavesInM (fence none) 0 P fn0 tmps R rest (settle u2) w'; rw [hm.settled]; exact he
            | panicked _ => exact he.elim
            | outgrown => exact he.elim
      · cases hcf

theorem cloneMap_ok (H : CtxOk P gl cx) {f : FuncId} (hc : cx.clone f = true) {args : List V} {h : Heap} {nid : Nat} {K : End → Heap → Nat → Prop} (hk : cloneMap args h nid K) {M : Mem} {β : Places} {w0 w : World} {cargs : List Value} (S : Sim M β h.get w0 w) (hf : ∀ b, nid ≤ b → β b = none) (R : RelL M β args cargs) :
    OpCall P f cargs.toArray w (CallPost M β w0 K) := by
  unfold cloneMap at hk
  split at hk
  · rename_i t b
    split at hk
    · rename_i es clock fz hb
      simp only [RelL] at R
      obtain ⟨c, cs, rfl, hr, rfl⟩ := R
      simp only [Rel] at hr
      obtain ⟨d, rfl, i, hi, rfl⟩ := hr
      obtain ⟨i', hi', _, ho⟩ := S.obj b _ hb
      rw [hi] at hi'; cases hi'
      obtain ⟨ces, hces, hrel, hborn, hnd, _, _⟩ := ho
      have hno : M.o w.heap.size = none := by
        cases e : M.o w.heap.size with
        | none => rfl
        | some o => exact absurd (lt_of_get? (S.memo _ _ e)) (Nat.lt_irrefl _)
      have hn : β nid = none := hf _ (Nat.le_refl _)
      have hle := β.le_set ⟨w.heap.size, 0, 0, 0, 0, none⟩ hn
      have S1 : Sim M (β.set nid ⟨w.heap.size, 0, 0, 0, 0, none⟩) (upd h.get nid (some (.map es clock false))) w0 (w.alloc (.map ces clock)) := by
        refine (S.alloc _).add hn S.base (by simp) ⟨ces, heap_new _ _, hrel.mono (.refl M) hle, hborn, hnd, (fun h => by cases h), fun _ => hno⟩ (fun b' o' i' hb' hi' _ => ?_)
        have := S.sane _ _ hi'
        show i'.blk ≠ w.heap.size
        omega
      refine .inr ⟨.iface t (.map (some w.heap.size)), w.alloc (.map ces clock), ?_, M, _, .returned (.iface t (.map nid)), _, nid + 1, .refl _ M, hle, ?_, fun b hb => ?_, ?_, hk⟩
      · rw [H.clone f hc]
        have hg : (getObj i.blk).run P w = .ok (.map ces clock) w := by simp [getObj, Sem.run, hces]
        have e : (Extern.MapsClone.clone #[.iface t (.map (some i.blk))]).run P w = .ok (.iface t (.map (some w.heap.size))) (w.alloc (.map ces clock)) := by
          show ((do
            let .map entries clock ← getObj i.blk | stuck "maps.clone: a map expected"
            pure (.iface t (.map (some (← newObj (.map entries clock))))) : Sem Value)).run P w = _
          simp only [Sem.run_bind, hg, Result.andThen_ok, run_newObj_alloc, Sem.run_pure]
        show ((Extern.MapsClone.clone #[.iface t (.map (some i.blk))]).run P w).andThen _ = _
        rw [e]
        rfl
      · rw [get_set]; exact S1
      · rw [Places.set_ne _ _ (by omega)]; exact hf b (by omega)
      · simp only [EndRel, Rel]
        exact ⟨_, rfl, _, Places.set_eq _ _ _, rfl⟩
    · exact hk.elim
  · exact hk.elim

theorem callF_ok (H : CtxOk P gl cx) (hdr : DrawnOk P gl cx) (m : Nat) : ∀ n M1 β1 yld, YldOk P gl M1 β1 yld → CallOk P gl M1 β1 (callF cx m n yld)
  | 0 => fun M1 β1 yld hy f args h nid K hk => hk.elim
  | n + 1 => fun M1 β1 yld hy f args h nid K hk => by
    simp only [callF] at hk
    split at hk
    · rename_i F hF
      have h2 := H.sum f F hF
      intro M β w0 w cargs _ _ G S hf R
      split at hk
      · rename_i v hp' hc
        refine (callSumF_ok h2 G S R hc).mono ?_
        rintro e w' ⟨M', c, rfl, k1, k2, k3, k4⟩
        exact ⟨M', β, .returned v, hp', nid, ⟨k1, k2⟩, .refl β, k3, hf, k4, hk⟩
      · exact hk.elim
    · split at hk
      · rename_i hcl
        intro M β w0 w cargs _ _ G S hf R
        exact cloneMap_ok H hcl hk S hf R
      · split at hk
        · rename_i afn hafn
          obtain ⟨fn, hfn, hcf, hname⟩ := H.fn f afn hafn
          unfold cFunc at hcf
          simp only [Option.bind_eq_some_iff] at hcf
          obtain ⟨b, hb, c, hc, rs, hrs, hcf⟩ := hcf
          split at hcf
          · rename_i hcond
            cases hcf
            intro M β w0 w cargs hM1 hβ1 G S hf R
            refine .inl ⟨⟨fn, hfn, by rw [hb]; rfl, hname⟩, calls_free (r := none) (n := 0) (callsIn_of_wp_marks hfn hb trivial ?_)⟩
            have hE := initEnv_rel R fn.ntmps
            have hd : ∀ d ∈ c.dsts, d < (cargs.toArray ++ Array.replicate (fn.ntmps - cargs.toArray.size) undef).size := fun d hd => by
              have := List.all_eq_true.1 hcond.2 d hd
              simp at this ⊢
              omega
            have hs := (sound (callF_ok H hdr m n) hdr H.fnOk m b _ w0 M β none yld (hy.mono hM1 hβ1) (.inl rfl)).1 c hc hd (.refl _ M) (.refl β) (st := { env := initEnv 0 args .leaf, h, nid, dfr := [] }) ⟨G, hE, S, hf, rfl⟩ hk
            refine wpIn_mono hs ?_
            rintro x a w' ⟨M', β', ex, st, h1, h2, C, hx, hK⟩
            have hend : ∀ {u : Option (List V)} {u' : FrameMode}, ModeRel M' β' u u' → leave cx (fun c st K => evC cx (callF cx m n) noYld m c st K) st.dfr u st.h st.nid (ends ⟨fn.params.size + fn.nfree, c, rs⟩ st.env K) → LeavesInM (fence none) 0 P fn a.tmps (CallPost M β w0 K) a.defers u' w' := fun {u u'} hm hl => by
              refine leave_ok H hdr m (callF_ok H hdr m n) (M0 := M') (β0 := β') (w0 := w0) ?_ st.dfr (.refl _ M') (.refl β') C.globs C.dfr hm C.sim C.fresh hl
              intro M2 β2 u2 u2' h2' nid2 w2 k1 k2 hm2 S2 hf2 hk2
              cases u2 with
              | none =>
                have e : u2' = .returning := hm2
                subst e
                simp only [ends] at hk2
                split at hk2
                · rename_i v hv
                  obtain ⟨c', hc', hr⟩ := results_run (C.env.mono k1.1 k2) S2 hrs hv
                  exact ⟨c', hc', M2, β2, .returned v, h2', nid2, h1.trans k1, h2.trans k2, S2, hf2, hr, hk2⟩
                · exact hk2.elim
              | some ch =>
                obtain ⟨cc, rfl, hcc⟩ := hm2
                exact ⟨M2, β2, .panicked ch, h2', nid2, h1.trans k1, h2.trans k2, S2, hf2, hcc, hk2⟩
            cases x with
            | normal => cases ex <;> first | exact False.elim hx | exact hend (u := none) rfl hK
            | ret => cases ex <;> first | exact False.elim hx | exact hend (u := none) rfl hK
            | panic ch =>
              cases ex <;> first | exact False.elim hx | skip
              rename_i ch'
              exact hend (u := some ch') ⟨ch, rfl, hx⟩ hK
            | exit id => cases ex <;> first | exact False.elim hx | exact hK.elim
            | goto id => cases ex <;> first | exact False.elim hx | exact hK.elim
            | outgrown => cases ex <;> exact False.elim hx
          · cases hcf
        · exact hk.elim

/-- A function that answers on values as F says. -/
theorem PureSpec.of_tells (H : CtxOk P gl cx) (hdr : DrawnOk P gl cx) {f : FuncId} {F : List V → Option V} (hF : ∀ args r, V.imm.imms args = true → F args = some r → Tells cx f args r) : PureSpec P gl f F := by
  intro M args cargs r w G hok himm R hr
  obtain ⟨m, n, hk⟩ := hF args r himm hr
  have hcalls := callF_ok H hdr m n M nowhere _ (YldOk.none P gl M nowhere) f args .leaf 0 _ hk
  have S : Sim M nowhere (T.leaf : Heap).get w w := {
    below := .refl _ w
    mem := hok.mem
    memo := hok.memo
    maps := hok.maps
    sane := fun b i h => by cases h
    obj := fun b o h => by simp [T.get] at h
    sep := fun b b' o o' i i' _ h => by simp [T.get] at h }
  refine (hcalls M nowhere w w cargs (.refl M) (.refl _) G S (fun _ _ => rfl) R).mono ?_
  rintro e w' ⟨M', β', en, h', nid', hM, hβ, S', hf, hen, hK⟩
  cases en with
  | panicked ch => exact hK.elim
  | returned v =>
    cases e with
    | panicked _ => exact False.elim hen
    | outgrown => exact False.elim hen
    | returned c =>
      simp only [EndRel] at hen
      simp only at hK
      obtain ⟨M2, h1, h2, S2, h4⟩ := Sim.freezeAll (touched h'.get deep v) S'
      exact ⟨M2, c, rfl, hM.1.trans h1, hM.2.trans h2, S2.memOk, S2.below, (reify_one hK).2, reify_rel (β := β') h4 hK (hen.mono h1 (.refl β')) nowhere⟩

end
end Go.Abs
