/-
  Abs26, Abs27, Abs28, AbsW, Abs29, put together in one file.
-/
import Derived.Test.YtfmdgjnjfmgbmaaGreatDoorAbsGe
import GoSem.Extern.MapsClone
import Derived.OrdersIn
/-
  ABS, part 26: calls are followed.
-/
namespace Go.Abs
open Go Go.RowKit
set_option linter.unusedSectionVars false
variable [Syms]

section
variable {P : Program} {gl : Nat → Option (List V)} {M : Mem} {β : Places} {w0 w : World}

theorem initEnv_at : ∀ (l : List V) (i : Nat) (e : Env) (t : Nat), (initEnv i l e).at t = if t < i then e.at t else match l[t - i]? with | some v => v | none => e.at t
  | [], i, e, t => by simp [initEnv]
  | v :: vs, i, e, t => by
    simp only [initEnv]
    rw [initEnv_at vs (i + 1) _ t]
    by_cases h : t < i
    · rw [if_pos (by omega), if_pos h, at_set, if_neg (by omega)]
    · by_cases h2 : t = i
      · subst h2
        rw [if_pos (by omega), if_neg (by omega), at_set, if_pos rfl]
        simp
      · rw [if_neg (by omega), if_neg h]
        have : t - i = (t - (i + 1)) + 1 := by omega
        rw [this, List.getElem?_cons_succ, at_set, if_neg h2]

theorem initEnv_rel {args : List V} {cargs : List Value} (R : RelL M β args cargs) (n : Nat) : EnvRel M β (cargs.toArray ++ Array.replicate (n - cargs.toArray.size) undef).size (initEnv 0 args .leaf) { tmps := cargs.toArray ++ Array.replicate (n - cargs.toArray.size) undef, defers := [] } where
  size := rfl
  rel t := by
    rw [initEnv_at, if_neg (by omega), Nat.sub_zero]
    have hleaf : Env.at (.leaf : Env) t = V.undef := by simp [Env.at, T.get]
    rw [hleaf, Array.getD_eq_getD_getElem?]
    cases hk : args[t]? with
    | some v =>
      obtain ⟨c, hc, hr⟩ := R.get hk
      have hlt : t < cargs.length := by
        rcases Nat.lt_or_ge t cargs.length with h | h
        · exact h
        · rw [List.getElem?_eq_none h] at hc; cases hc
      rw [Array.getElem?_append_left (by simpa using hlt)]
      simp only [List.getElem?_toArray, hc, Option.getD_some]
      exact hr
    | none =>
      have hge : cargs.length ≤ t := by
        rw [R.length]
        rcases Nat.lt_or_ge t args.length with h | h
        · rw [List.getElem?_eq_getElem h] at hk; cases hk
        · exact h
      rw [Array.getElem?_append_right (by simpa using hge)]
      have : ((Array.replicate (n - cargs.toArray.size) undef)[t - cargs.toArray.size]?).getD undef = undef := by
        rw [Array.getElem?_replicate]; split <;> rfl
      rw [this]
      exact undef_rel M β

theorem readRes_run {e : Env} {hp : Heap} {N : Nat} {a : Act} (E : EnvRel M β N e a) (S : Sim M β hp.get w0 w) {rv : ResultVar} {q : RV} (hc : cRes P rv = some q) {v : V} (hr : readRes e hp q = some v) :
    ∃ c, ((match rv with | .tmp t => pure (a.tmps.getD t undef) | .cell b t => do loadVar t (← asAddr (a.tmps.getD b undef)) : Sem Value)).run P w = .ok c w ∧ Rel M β v c := by
  cases rv with
  | tmp t =>
    simp only [cRes] at hc; cases hc
    simp only [readRes] at hr; cases hr
    exact ⟨_, by simp only [Sem.run_pure], E.rel t⟩
  | cell b t =>
    simp only [cRes, Option.bind_eq_some_iff, Option.map_eq_some_iff] at hc
    obtain ⟨g, hg, n, hn, rfl⟩ := hc
    simp only [readRes, Option.bind_eq_some_iff] at hr
    obtain ⟨cs, hcs, hv⟩ := hr
    obtain ⟨B, O, l, he, hl, hlen, _, hcell⟩ := S.readAt (fun _ _ h => h) (E.rel b) hcs
    obtain ⟨h1, h2⟩ := ofCells_rel hv hl
    have hload := run_loadCells_at (P := P) hcell
    cases g with
    | true =>
      have hln : l.length = n := by rw [hl.length, hlen]; rfl
      rw [hln] at hload
      exact ⟨.agg l.toArray, by simp [he, asAddr, loadVar, tAgg_run hg, tSize_run hn, hload], h1 rfl⟩
    | false =>
      obtain ⟨c, rfl, hcr⟩ := h2 rfl
      have hc0 : w.cell? ⟨B, O, none⟩ = some c := by simpa using hcell 0 c rfl
      exact ⟨c, by simp [he, asAddr, loadVar, tAgg_run hg, hc0], hcr⟩

theorem resList_run {e : Env} {hp : Heap} {N : Nat} {a : Act} (E : EnvRel M β N e a) (S : Sim M β hp.get w0 w) : ∀ {rvs : List ResultVar} {qs : List RV} {vs : List V}, rvs.mapM (cRes P) = some qs → qs.mapM (readRes e hp) = some vs →
    ∃ cs, (rvs.mapM fun rv => (match rv with | .tmp t => pure (a.tmps.getD t undef) | .cell b t => do loadVar t (← asAddr (a.tmps.getD b undef)) : Sem Value)).run P w = .ok cs w ∧ RelL M β vs cs
  | [], qs, vs, h1, h2 => by
    simp at h1; subst h1
    simp at h2; subst h2
    exact ⟨[], by simp, by simp only [RelL]⟩
  | rv :: rvs, qs, vs, h1, h2 => by
    simp only [List.mapM_cons, Option.pure_def, Option.bind_eq_bind, Option.bind_eq_some_iff, Option.some.injEq] at h1
    obtain ⟨q, hq, qs', hqs, rfl⟩ := h1
    simp only [List.mapM_cons, Option.pure_def, Option.bind_eq_bind, Option.bind_eq_some_iff, Option.some.injEq] at h2
    obtain ⟨v, hv, vs', hvs, rfl⟩ := h2
    obtain ⟨c, hc, hr⟩ := readRes_run (P := P) E S hq hv
    obtain ⟨cs, hcs, hrs⟩ := resList_run E S hqs hvs
    refine ⟨c :: cs, ?_, by simp only [RelL]; exact ⟨c, cs, rfl, hr, hrs⟩⟩
    rw [List.mapM_cons, Sem.run_bind, hc, Result.andThen_ok, Sem.run_bind, hcs, Result.andThen_ok, Sem.run_pure]

theorem results_run {e : Env} {hp : Heap} {N : Nat} {a : Act} (E : EnvRel M β N e a) (S : Sim M β hp.get w0 w) {fn : Func} {qs : List RV} (hq : fn.results.toList.mapM (cRes P) = some qs) {v : V} (hv : Abs.results qs e hp = some v) :
    ∃ c, (Go.results fn a.tmps).run P w = .ok c w ∧ Rel M β v c := by
  unfold Abs.results at hv
  simp only [Option.map_eq_some_iff] at hv
  obtain ⟨vs, hvs, hv⟩ := hv
  obtain ⟨cs, hcs, hrs⟩ := resList_run E S hq hvs
  have hlen := hrs.length
  unfold Go.results
  rw [Sem.run_bind, Array.mapM_eq_mapM_toList, Sem.run_map]
  erw [hcs]
  split at hv
  · rename_i v1
    subst hv
    match cs, hlen with
    | [c], _ =>
      simp only [RelL] at hrs
      obtain ⟨c', cs', he, hr, _⟩ := hrs
      cases he
      exact ⟨c, rfl, hr⟩
  · rename_i hne
    subst hv
    have h1 : cs.length ≠ 1 := fun h => by
      rw [hlen] at h
      obtain ⟨x, hx⟩ := List.length_eq_one_iff.1 h
      exact hne x hx
    refine ⟨.tuple cs.toArray, ?_, by simp only [Rel]; exact ⟨_, rfl, hrs⟩⟩
    simp only [Result.andThen_ok, List.size_toArray, h1, dif_neg, not_false_eq_true, Sem.run_pure]

end

structure CtxOk (P : Program) (gl : Nat → Option (List V)) (cx : Ctx) : Prop where
  fn : ∀ f afn, cx.fn f = some afn → ∃ fn, P.funcs[f]? = some fn ∧ cFunc P gl fn = some afn ∧ (fn.name == "runtime.NumGoroutine") = false
  sum : ∀ f F, cx.sum f = some F → PureSpec P gl f F
  clone : ∀ f, cx.clone f = true → ∀ args w, (callFunc f args).run P w = ((Extern.MapsClone.clone args).run P w).andThen fun v w' => .ok (.value v) w' := by intro f h; cases h

section
variable {P : Program} {gl : Nat → Option (List V)} {cx : Ctx}

theorem CtxOk.fnOk (H : CtxOk P gl cx) : ∀ f, (cx.fn f).isSome = true → FnOk P f := fun f hf => by
  cases e : cx.fn f with
  | none => rw [e] at hf; cases hf
  | some afn =>
    obtain ⟨fn, hfn, hcf, hname⟩ := H.fn f afn e
    unfold cFunc at hcf
    simp only [Option.bind_eq_some_iff] at hcf
    obtain ⟨b, hb, _⟩ := hcf
    exact ⟨fn, hfn, by rw [hb]; rfl, hname⟩

/-- In a panic, or not. -/
def ModeRel (M : Mem) (β : Places) : Option (List V) → FrameMode → Prop
  | none, u => u = .returning
  | some ch, u => ∃ c, u = .panicking c ∧ ChainRel M β ch c

theorem ModeRel.mono {M M' : Mem} {β β' : Places} (hM : M.le M') (hβ : β.le β') : ∀ {u : Option (List V)} {u' : FrameMode}, ModeRel M β u u' → ModeRel M' β' u u'
  | none, _, h => h
  | some _, _, ⟨c, h1, h2⟩ => ⟨c, h1, h2.mono hM hβ⟩

theorem ModeRel.settled {M : Mem} {β : Places} : ∀ {u : Option (List V)} {u' : FrameMode}, ModeRel M β u u' → settle u' = u'
  | none, u', h => by have h' : u' = .returning := h; rw [h']; rfl
  | some ch, u', ⟨c, h1, h2⟩ => by
    rw [h1]
    cases ch with
    | nil => have h3 : c = [] := h2; rw [h3]; rfl
    | cons v l =>
      obtain ⟨p, c', rfl, _, hr, _, _⟩ := h2
      obtain ⟨pv, pr, pg⟩ := p
      have hr' : pr = false := hr
      subst hr'
      rfl

theorem ModeRel.ne_run {M : Mem} {β : Places} : ∀ {u : Option (List V)} {u' : FrameMode}, ModeRel M β u u' → u' ≠ .run
  | none, _, h => by have h' : _ = FrameMode.returning := h; rw [h']; intro e; cases e
  | some _, _, ⟨_, h1, _⟩ => by rw [h1]; intro e; cases e

theorem ChainRel.nogo {M : Mem} {β : Places} : ∀ {l : List V} {c : List PanicEntry}, ChainRel M β l c → c.dropWhile (!·.goexit) = []
  | [], _, h => by have h' : _ = [] := h; rw [h']; rfl
  | _ :: _, _, ⟨p, c', h1, _, _, h3, h4⟩ => by
    rw [h1]
    simp [h3, ChainRel.nogo h4]

/-- What a call that was put off finds, and what is behind it. -/
theorem recover_mode {M : Mem} {β : Places} {u : Option (List V)} {u' : FrameMode} (hm : ModeRel M β u u') {v : V} (hv : recovered u = some v) (c₀ : Frame) (cs : List Frame) (hc : c₀.mode = u') :
    ∃ cv um, (recoverD (c₀ :: cs) = some (cv, { c₀ with mode := um } :: cs) ∨ (recoverD (c₀ :: cs) = none ∧ cv = .nilIface ∧ ({ c₀ with mode := um } :: cs : List Frame) = c₀ :: cs)) ∧ Rel M β v cv ∧ settle um = .returning := by
  cases u with
  | none =>
    have h' : u' = .returning := hm
    simp only [recovered] at hv
    cases hv
    refine ⟨.nilIface, .returning, .inr ⟨?_, rfl, ?_⟩, by simp only [Rel], rfl⟩
    · simp only [recoverD, hc, h']
    · rw [← h', ← hc]
  | some ch =>
    obtain ⟨c, h1, h2⟩ := hm
    cases ch with
    | nil => simp [recovered] at hv
    | cons x l =>
      simp only [recovered] at hv
      cases hv
      obtain ⟨p, c', rfl, hr, h3, h4, h5⟩ := h2
      obtain ⟨pv, pr, pg⟩ := p
      have e1 : pr = false := h3
      have e2 : pg = false := h4
      subst e1 e2
      refine ⟨pv, .panicking ({ v := pv, recovered := true } :: c'), .inl ?_, hr, ?_⟩
      · simp only [recoverD, hc, h1]
      · simp only [settle, h5.nogo]

/-- An activation on its way out is followed. -/
theorem leave_ok (H : CtxOk P gl cx) (hdr : DrawnOk P gl cx) (m : Nat) {call : Yld Prop → CallF} (hcall : ∀ M β y, YldOk P gl M β y → CallOk P gl M β (call y)) {fn0 : Func} {tmps : Array Value} {R : Ending → World → Prop} {w0 : World} {M0 : Mem} {β0 : Places} {K : Option (List V) → Heap → Nat → Prop}
    (hK : ∀ {M : Mem} {β : Places} {u : Option (List V)} {u' : FrameMode} {h : Heap} {nid : Nat} {w : World}, M0.on w0.heap.size M → β0.le β → ModeRel M β u u' → Sim M β h.get w0 w → (∀ b, nid ≤ b → β b = none) → K u h nid → LeavesIn (fence none) 0 P fn0 tmps R [] u' w) :
    ∀ (l : List Dfr) {ds : List Deferred} {u : Option (List V)} {u' : FrameMode} {h : Heap} {nid : Nat} {M : Mem} {β : Places} {w : World}, M0.on w0.heap.size M → β0.le β → Globs gl M → DfrRel M β l ds → ModeRel M β u u' → Sim M β h.get w0 w → (∀ b, nid ≤ b → β b = none) →
      leave cx (fun c st K => evC cx call noYld m c st K) l u h nid K → LeavesInM (fence none) 0 P fn0 tmps R ds u' w
  | [], ds, u, u', h, nid, M, β, w, hM, hβ, G, hd, hm, S, hf, hk => by
    have hd' : ds = [] := hd
    subst hd'
    exact hK hM hβ hm S hf hk
  | .mark d :: l, ds, u, u', h, nid, M, β, w, hM, hβ, G, hd, hm, S, hf, hk => by
    obtain ⟨i, rest, hi, rfl, hd'⟩ := hd
    simp only [leave] at hk
    split at hk
    · rename_i hs
      obtain ⟨hw, hMo⟩ := S.shut (isShut_eq hs) hi
      refine ⟨hm.ne_run, .inl ⟨i.blk, _, rfl, run_takeDeferred hw, leave_ok H hdr m hcall hK l hM hβ G hd' hm ?_ hf hk⟩⟩
      rw [get_put]
      exact S.gone (isShut_eq hs) rfl hi (Keeps.putObj hw (fun _ _ _ h => by cases h) hMo)
    · exact hk.elim
  | .call f args :: l, ds, u, u', h, nid, M, β, w, hM, hβ, G, hd, hm, S, hf, hk => by
    obtain ⟨dargs, captured, rest, rfl, hr, hd'⟩ := hd
    simp only [leave] at hk
    split at hk
    · exact hk.elim
    · rename_i afn hafn
      obtain ⟨fn, hfn, hcf, hname⟩ := H.fn f afn hafn
      unfold cFunc at hcf
      simp only [Option.bind_eq_some_iff] at hcf
      obtain ⟨b, hb, c, hc, rs, hrs, hcf⟩ := hcf
      split at hcf
      · rename_i hcond
        cases hcf
        have hE := initEnv_rel hr fn.ntmps
        simp only [Array.toArray_toList] at hE
        have hdst : ∀ d ∈ c.dsts, d < ((dargs ++ captured) ++ Array.replicate (fn.ntmps - (dargs ++ captured).size) undef).size := fun d hd => by
          have := List.all_eq_true.1 hcond.2 d hd
          simp at this ⊢
          omega
        have hinv : (invoke (.fn (.func f) captured) dargs).run P w = .ok (.enter f (dargs ++ captured)) w := by
          simp only [invoke, Sem.run_bind, Result.andThen_ok, callFunc, run_program, hfn, hname, hb, Option.isNone_some, Bool.false_eq_true, if_false, Sem.run_pure]
        refine ⟨hm.ne_run, .inr ⟨(fun h => by cases h), .func f, captured, f, dargs ++ captured, rfl, hinv, (fun _ _ => trivial), ?_⟩⟩
        split at hk
        · rename_i p hp
          split at hk
          · rename_i v hv
            refine callsDIn_of_wpSIn hfn hb trivial fun c₀ cs hc₀ => ?_
            obtain ⟨cv, um, hrec, hrel, hset⟩ := recover_mode hm hv c₀ cs hc₀
            have hs := rec_sound (N := ((dargs ++ captured) ++ Array.replicate (fn.ntmps - (dargs ++ captured).size) undef).size) (w0 := w0) (M0 := M) (β0 := β) hcall hdr H.fnOk m hrec b c p.1 p.2 hc hp hdst (.refl _ M) (.refl β) (st := { env := initEnv 0 args .leaf, h, nid, dfr := [] }) ⟨G, hE, S, hf, rfl⟩ hrel hk
            refine wpSIn_mono' hs ?_
            rintro x a cs' w' ⟨rfl, M', β', ex, st, h1, h2, C, hx, hK'⟩
            have hret : (ex = .normal ∨ ex = .ret) → a.defers = [] ∧ ∃ u2, ({ c₀ with mode := um } :: cs : List Frame) = { c₀ with mode := u2 } :: cs ∧ ∃ v, (Go.results fn a.tmps).run P w' = .ok v w' ∧ LeavesInM (fence none) 0 P fn0 tmps R rest (settle u2) w' := fun he => by
              have hK2 : (match st.dfr with
                | [] => match Abs.results rs st.env st.h with
                  | some _ => leave cx (fun c st K => evC cx call noYld m c st K) l none st.h st.nid K
                  | none => Ans.ff
                | _ => (Ans.ff : Prop)) := by rcases he with rfl | rfl <;> exact hK'
              split at hK2
              · rename_i hdf
                split at hK2
                · rename_i v hv
                  obtain ⟨cv', hc', _⟩ := results_run C.env C.sim hrs hv
                  have hdd := C.dfr
                  rw [hdf] at hdd
                  refine ⟨hdd, um, rfl, cv', hc', ?_⟩
                  rw [hset]
                  exact leave_ok H hdr m hcall hK l (hM.trans h1) (hβ.trans h2) (G.mono h1.1) (hd'.mono h1.1 h2) (u := none) rfl C.sim C.fresh hK2
                · exact hK2.elim
              · exact hK2.elim
            cases x with
            | normal => cases ex <;> first | exact False.elim hx | exact hret (.inl rfl)
            | ret => cases ex <;> first | exact False.elim hx | exact hret (.inr rfl)
            | panic ch => cases ex <;> first | exact False.elim hx | exact hK'.elim
            | exit id => cases ex <;> first | exact False.elim hx | exact hK'.elim
            | goto id => cases ex <;> first | exact False.elim hx | exact hK'.elim
            | outgrown => cases ex <;> exact False.elim hx
          · exact hk.elim
        · have hs := (sound hcall hdr H.fnOk m b _ w0 M β none noYld (YldOk.none P gl M β) (.inl rfl)).1 c hc hdst (.refl _ M) (.refl β) (st := { env := initEnv 0 args .leaf, h, nid, dfr := [] }) ⟨G, hE, S, hf, rfl⟩ hk
          refine (callsDIn_of_wp (R := fun e w' => match e with | .returned _ => LeavesInM (fence none) 0 P fn0 tmps R rest u' w' | _ => False) hfn hb trivial (wpIn_mono hs ?_)).mono ?_
          · rintro x a w' ⟨M', β', ex, st, h1, h2, C, hx, hK'⟩
            have hret : (ex = .normal ∨ ex = .ret) → a.defers = [] ∧ ∃ v, (Go.results fn a.tmps).run P w' = .ok v w' ∧ LeavesInM (fence none) 0 P fn0 tmps R rest u' w' := fun he => by
              have hK2 : (match st.dfr with
                | [] => match Abs.results rs st.env st.h with
                  | some _ => leave cx (fun c st K => evC cx call noYld m c st K) l u st.h st.nid K
                  | none => Ans.ff
                | _ => (Ans.ff : Prop)) := by rcases he with rfl | rfl <;> exact hK'
              split at hK2
              · rename_i hdf
                split at hK2
                · rename_i v hv
                  obtain ⟨cv', hc', _⟩ := results_run C.env C.sim hrs hv
                  have hdd := C.dfr
                  rw [hdf] at hdd
                  exact ⟨hdd, cv', hc', leave_ok H hdr m hcall hK l (hM.trans h1) (hβ.trans h2) (G.mono h1.1) (hd'.mono h1.1 h2) (hm.mono h1.1 h2) C.sim C.fresh hK2⟩
                · exact hK2.elim
              · exact hK2.elim
            cases x with
            | normal => cases ex <;> first | exact False.elim hx | exact hret (.inl rfl)
            | ret => cases ex <;> first | exact False.elim hx | exact hret (.inr rfl)
            | panic ch => cases ex <;> first | exact False.elim hx | exact hK'.elim
            | exit id => cases ex <;> first | exact False.elim hx | exact hK'.elim
            | goto id => cases ex <;> first | exact False.elim hx | exact hK'.elim
            | outgrown => cases ex <;> exact False.elim hx
          · rintro e u2 w' ⟨rfl, he⟩
            cases e with
            | returned _ => show LeavesInM (fence none) 0 P fn0 tmps R rest (settle u2) w'; rw [hm.settled]; exact he
            | panicked _ => exact he.elim
            | outgrown => exact he.elim
      · cases hcf

theorem cloneMap_ok (H : CtxOk P gl cx) {f : FuncId} (hc : cx.clone f = true) {args : List V} {h : Heap} {nid : Nat} {K : End → Heap → Nat → Prop} (hk : cloneMap args h nid K) {M : Mem} {β : Places} {w0 w : World} {cargs : List Value} (S : Sim M β h.get w0 w) (hf : ∀ b, nid ≤ b → β b = none) (R : RelL M β args cargs) :
    OpCall P f cargs.toArray w (CallPost M β w0 K) := by
  unfold cloneMap at hk
  split at hk
  · rename_i t b
    split at hk
    · rename_i es clock fz hb
      simp only [RelL] at R
      obtain ⟨c, cs, rfl, hr, rfl⟩ := R
      simp only [Rel] at hr
      obtain ⟨d, rfl, i, hi, rfl⟩ := hr
      obtain ⟨i', hi', _, ho⟩ := S.obj b _ hb
      rw [hi] at hi'; cases hi'
      obtain ⟨ces, hces, hrel, hborn, hnd, _, _⟩ := ho
      have hno : M.o w.heap.size = none := by
        cases e : M.o w.heap.size with
        | none => rfl
        | some o => exact absurd (lt_of_get? (S.memo _ _ e)) (Nat.lt_irrefl _)
      have hn : β nid = none := hf _ (Nat.le_refl _)
      have hle := β.le_set ⟨w.heap.size, 0, 0, 0, 0, none⟩ hn
      have S1 : Sim M (β.set nid ⟨w.heap.size, 0, 0, 0, 0, none⟩) (upd h.get nid (some (.map es clock false))) w0 (w.alloc (.map ces clock)) := by
        refine (S.alloc _).add hn S.base (by simp) ⟨ces, heap_new _ _, hrel.mono (.refl M) hle, hborn, hnd, (fun h => by cases h), fun _ => hno⟩ (fun b' o' i' hb' hi' _ => ?_)
        have := S.sane _ _ hi'
        show i'.blk ≠ w.heap.size
        omega
      refine .inr ⟨.iface t (.map (some w.heap.size)), w.alloc (.map ces clock), ?_, M, _, .returned (.iface t (.map nid)), _, nid + 1, .refl _ M, hle, ?_, fun b hb => ?_, ?_, hk⟩
      · rw [H.clone f hc]
        have hg : (getObj i.blk).run P w = .ok (.map ces clock) w := by simp [getObj, Sem.run, hces]
        have e : (Extern.MapsClone.clone #[.iface t (.map (some i.blk))]).run P w = .ok (.iface t (.map (some w.heap.size))) (w.alloc (.map ces clock)) := by
          show ((do
            let .map entries clock ← getObj i.blk | stuck "maps.clone: a map expected"
            pure (.iface t (.map (some (← newObj (.map entries clock))))) : Sem Value)).run P w = _
          simp only [Sem.run_bind, hg, Result.andThen_ok, run_newObj_alloc, Sem.run_pure]
        show ((Extern.MapsClone.clone #[.iface t (.map (some i.blk))]).run P w).andThen _ = _
        rw [e]
        rfl
      · rw [get_set]; exact S1
      · rw [Places.set_ne _ _ (by omega)]; exact hf b (by omega)
      · simp only [EndRel, Rel]
        exact ⟨_, rfl, _, Places.set_eq _ _ _, rfl⟩
    · exact hk.elim
  · exact hk.elim

theorem callF_ok (H : CtxOk P gl cx) (hdr : DrawnOk P gl cx) (m : Nat) : ∀ n M1 β1 yld, YldOk P gl M1 β1 yld → CallOk P gl M1 β1 (callF cx m n yld)
  | 0 => fun M1 β1 yld hy f args h nid K hk => hk.elim
  | n + 1 => fun M1 β1 yld hy f args h nid K hk => by
    simp only [callF] at hk
    split at hk
    · rename_i F hF
      have h2 := H.sum f F hF
      intro M β w0 w cargs _ _ G S hf R
      split at hk
      · rename_i v hp' hc
        refine (callSumF_ok h2 G S R hc).mono ?_
        rintro e w' ⟨M', c, rfl, k1, k2, k3, k4⟩
        exact ⟨M', β, .returned v, hp', nid, ⟨k1, k2⟩, .refl β, k3, hf, k4, hk⟩
      · exact hk.elim
    · split at hk
      · rename_i hcl
        intro M β w0 w cargs _ _ G S hf R
        exact cloneMap_ok H hcl hk S hf R
      · split at hk
        · rename_i afn hafn
          obtain ⟨fn, hfn, hcf, hname⟩ := H.fn f afn hafn
          unfold cFunc at hcf
          simp only [Option.bind_eq_some_iff] at hcf
          obtain ⟨b, hb, c, hc, rs, hrs, hcf⟩ := hcf
          split at hcf
          · rename_i hcond
            cases hcf
            intro M β w0 w cargs hM1 hβ1 G S hf R
            refine .inl ⟨⟨fn, hfn, by rw [hb]; rfl, hname⟩, calls_free (r := none) (n := 0) (callsIn_of_wp_marks hfn hb trivial ?_)⟩
            have hE := initEnv_rel R fn.ntmps
            have hd : ∀ d ∈ c.dsts, d < (cargs.toArray ++ Array.replicate (fn.ntmps - cargs.toArray.size) undef).size := fun d hd => by
              have := List.all_eq_true.1 hcond.2 d hd
              simp at this ⊢
              omega
            have hs := (sound (callF_ok H hdr m n) hdr H.fnOk m b _ w0 M β none yld (hy.mono hM1 hβ1) (.inl rfl)).1 c hc hd (.refl _ M) (.refl β) (st := { env := initEnv 0 args .leaf, h, nid, dfr := [] }) ⟨G, hE, S, hf, rfl⟩ hk
            refine wpIn_mono hs ?_
            rintro x a w' ⟨M', β', ex, st, h1, h2, C, hx, hK⟩
            have hend : ∀ {u : Option (List V)} {u' : FrameMode}, ModeRel M' β' u u' → leave cx (fun c st K => evC cx (callF cx m n) noYld m c st K) st.dfr u st.h st.nid (ends ⟨fn.params.size + fn.nfree, c, rs⟩ st.env K) → LeavesInM (fence none) 0 P fn a.tmps (CallPost M β w0 K) a.defers u' w' := fun {u u'} hm hl => by
              refine leave_ok H hdr m (callF_ok H hdr m n) (M0 := M') (β0 := β') (w0 := w0) ?_ st.dfr (.refl _ M') (.refl β') C.globs C.dfr hm C.sim C.fresh hl
              intro M2 β2 u2 u2' h2' nid2 w2 k1 k2 hm2 S2 hf2 hk2
              cases u2 with
              | none =>
                have e : u2' = .returning := hm2
                subst e
                simp only [ends] at hk2
                split at hk2
                · rename_i v hv
                  obtain ⟨c', hc', hr⟩ := results_run (C.env.mono k1.1 k2) S2 hrs hv
                  exact ⟨c', hc', M2, β2, .returned v, h2', nid2, h1.trans k1, h2.trans k2, S2, hf2, hr, hk2⟩
                · exact hk2.elim
              | some ch =>
                obtain ⟨cc, rfl, hcc⟩ := hm2
                exact ⟨M2, β2, .panicked ch, h2', nid2, h1.trans k1, h2.trans k2, S2, hf2, hcc, hk2⟩
            cases x with
            | normal => cases ex <;> first | exact False.elim hx | exact hend (u := none) rfl hK
            | ret => cases ex <;> first | exact False.elim hx | exact hend (u := none) rfl hK
            | panic ch =>
              cases ex <;> first | exact False.elim hx | skip
              rename_i ch'
              exact hend (u := some ch') ⟨ch, rfl, hx⟩ hK
            | exit id => cases ex <;> first | exact False.elim hx | exact hK.elim
            | goto id => cases ex <;> first | exact False.elim hx | exact hK.elim
            | outgrown => cases ex <;> exact False.elim hx
          · cases hcf
        · exact hk.elim

/-- A function that answers on values as F says. -/
theorem PureSpec.of_tells (H : CtxOk P gl cx) (hdr : DrawnOk P gl cx) {f : FuncId} {F : List V → Option V} (hF : ∀ args r, V.imm.imms args = true → F args = some r → Tells cx f args r) : PureSpec P gl f F := by
  intro M args cargs r w G hok himm R hr
  obtain ⟨m, n, hk⟩ := hF args r himm hr
  have hcalls := callF_ok H hdr m n M nowhere _ (YldOk.none P gl M nowhere) f args .leaf 0 _ hk
  have S : Sim M nowhere (T.leaf : Heap).get w w := {
    below := .refl _ w
    mem := hok.mem
    memo := hok.memo
    maps := hok.maps
    sane := fun b i h => by cases h
    obj := fun b o h => by simp [T.get] at h
    sep := fun b b' o o' i i' _ h => by simp [T.get] at h }
  refine (hcalls M nowhere w w cargs (.refl M) (.refl _) G S (fun _ _ => rfl) R).mono ?_
  rintro e w' ⟨M', β', en, h', nid', hM, hβ, S', hf, hen, hK⟩
  cases en with
  | panicked ch => exact hK.elim
  | returned v =>
    cases e with
    | panicked _ => exact False.elim hen
    | outgrown => exact False.elim hen
    | returned c =>
      simp only [EndRel] at hen
      simp only at hK
      obtain ⟨M2, h1, h2, S2, h4⟩ := Sim.freezeAll (touched h'.get deep v) S'
      exact ⟨M2, c, rfl, hM.1.trans h1, hM.2.trans h2, S2.memOk, S2.below, (reify_one hK).2, reify_rel (β := β') h4 hK (hen.mono h1 (.refl β')) nowhere⟩

end
end Go.Abs

/-
  ABS, part 27: what an operation looks at.
-/
namespace Go.Abs
open Go Go.RowKit
set_option linter.unusedSectionVars false
variable [Syms]

section
variable {g g' : View} {id id' : Nat} {e e' : Env}

theorem val_congr {x : X} (h : ∀ t ∈ x.tmps, e.at t = e'.at t) : x.val e = x.val e' := by
  cases x with
  | tmp t => exact h t (by simp [X.tmps])
  | const v => rfl

theorem vals_congr : ∀ {xs : List X}, (∀ t ∈ xsTmps xs, e.at t = e'.at t) → xs.map (X.val e) = xs.map (X.val e')
  | [], _ => rfl
  | x :: xs, h => by
    simp only [xsTmps, List.flatMap_cons, List.mem_append] at h
    simp only [List.map_cons, val_congr (x := x) fun t ht => h t (.inl ht), vals_congr (xs := xs) fun t ht => h t (.inr ht)]

theorem parts_congr : ∀ {ps : List (Nat × Nat × X)}, (∀ t ∈ xsTmps (ps.map (·.2.2)), e.at t = e'.at t) → (ps.map fun p => (p.1, p.2.1, p.2.2.val e)) = ps.map fun p => (p.1, p.2.1, p.2.2.val e')
  | [], _ => rfl
  | p :: ps, h => by
    simp only [xsTmps, List.map_cons, List.flatMap_cons, List.mem_append] at h
    simp only [List.map_cons, val_congr (x := p.2.2) fun t ht => h t (.inl ht), parts_congr (ps := ps) fun t ht => h t (.inr ht)]

theorem bound_congr {x : Option X} {d most : Nat} (h : ∀ t ∈ xoTmps x, e.at t = e'.at t) : bound e x d most = bound e' x d most := by
  cases x with
  | none => rfl
  | some x => simp only [bound, val_congr (x := x) fun t ht => h t ht]

theorem evSlice_congr {esz : Nat} {x : V} {lo hi mx : Option X} (h1 : ∀ t ∈ xoTmps lo, e.at t = e'.at t) (h2 : ∀ t ∈ xoTmps hi, e.at t = e'.at t) (h3 : ∀ t ∈ xoTmps mx, e.at t = e'.at t) : evSlice g e esz x lo hi mx = evSlice g e' esz x lo hi mx := by
  have a : ∀ d m, bound e lo d m = bound e' lo d m := fun d m => bound_congr h1
  have b : ∀ d m, bound e hi d m = bound e' hi d m := fun d m => bound_congr h2
  have c : ∀ d m, bound e mx d m = bound e' mx d m := fun d m => bound_congr h3
  unfold evSlice
  simp only [a, b, c]

theorem hint_congr {x : Option X} (h : ∀ t ∈ xoTmps x, e.at t = e'.at t) : x.map (X.val e) = x.map (X.val e') := by
  cases x with
  | none => rfl
  | some x => simp only [Option.map_some, val_congr (x := x) fun t ht => h t ht]

/-- What it comes to hangs on the slots that it looks at. -/
theorem evI_env : ∀ {i : I}, (∀ t ∈ i.tmps, e.at t = e'.at t) → evI g id e i = evI g id e' i
  | .mov x, h => by simp only [evI, val_congr (x := x) (e := e) (e' := e') (fun t ht => h t (by simp [I.tmps, ht]))]
  | .pick c a b, h => by simp only [evI, val_congr (x := c) (e := e) (e' := e') (fun t ht => h t (by simp [I.tmps, ht])), val_congr (x := a) (e := e) (e' := e') (fun t ht => h t (by simp [I.tmps, ht])), val_congr (x := b) (e := e) (e' := e') (fun t ht => h t (by simp [I.tmps, ht]))]
  | .new cs, h => by simp only [evI]
  | .box x, h => by simp only [evI, val_congr (x := x) (e := e) (e' := e') (fun t ht => h t (by simp [I.tmps, ht]))]
  | .build zero parts, h => by simp only [evI, parts_congr (ps := parts) (e := e) (e' := e') (fun t ht => h t (by simp [I.tmps, ht]))]
  | .buildSlice cells esz len parts, h => by simp only [evI, parts_congr (ps := parts) (e := e) (e' := e') (fun t ht => h t (by simp [I.tmps, ht]))]
  | .load agg n a, h => by simp only [evI, val_congr (x := a) (e := e) (e' := e') (fun t ht => h t (by simp [I.tmps, ht]))]
  | .store n a x, h => by simp only [evI, val_congr (x := a) (e := e) (e' := e') (fun t ht => h t (by simp [I.tmps, ht])), val_congr (x := x) (e := e) (e' := e') (fun t ht => h t (by simp [I.tmps, ht]))]
  | .nilCheck x, h => by simp only [evI, val_congr (x := x) (e := e) (e' := e') (fun t ht => h t (by simp [I.tmps, ht]))]
  | .bin op x y, h => by simp only [evI, val_congr (x := x) (e := e) (e' := e') (fun t ht => h t (by simp [I.tmps, ht])), val_congr (x := y) (e := e) (e' := e') (fun t ht => h t (by simp [I.tmps, ht]))]
  | .eq k neg x y, h => by simp only [evI, val_congr (x := x) (e := e) (e' := e') (fun t ht => h t (by simp [I.tmps, ht])), val_congr (x := y) (e := e) (e' := e') (fun t ht => h t (by simp [I.tmps, ht]))]
  | .un op x, h => by simp only [evI, val_congr (x := x) (e := e) (e' := e') (fun t ht => h t (by simp [I.tmps, ht]))]
  | .convI k x, h => by simp only [evI, val_congr (x := x) (e := e) (e' := e') (fun t ht => h t (by simp [I.tmps, ht]))]
  | .convId x, h => by simp only [evI, val_congr (x := x) (e := e) (e' := e') (fun t ht => h t (by simp [I.tmps, ht]))]
  | .bytesOf x, h => by simp only [evI, val_congr (x := x) (e := e) (e' := e') (fun t ht => h t (by simp [I.tmps, ht]))]
  | .strOf x, h => by simp only [evI, val_congr (x := x) (e := e) (e' := e') (fun t ht => h t (by simp [I.tmps, ht]))]
  | .iface t x, h => by simp only [evI, val_congr (x := x) (e := e) (e' := e') (fun t ht => h t (by simp [I.tmps, ht]))]
  | .func fn first captured, h => by simp only [evI, vals_congr (xs := first) (e := e) (e' := e') (fun t ht => h t (by simp [I.tmps, ht])), vals_congr (xs := captured) (e := e) (e' := e') (fun t ht => h t (by simp [I.tmps, ht]))]
  | .mkMap hint, h => by
    cases hint with
    | none => rfl
    | some x => simp only [evI, val_congr (x := x) (e := e) (e' := e') (fun t ht => h t (by simp [I.tmps, xoTmps, ht]))]
  | .mkSlice zero esz bytes len cap, h => by simp only [evI, val_congr (x := len) (e := e) (e' := e') (fun t ht => h t (by simp [I.tmps, ht])), val_congr (x := cap) (e := e) (e' := e') (fun t ht => h t (by simp [I.tmps, ht]))]
  | .sliceS x lo hi, h => by
    have a : ∀ d m, bound e lo d m = bound e' lo d m := fun d m => bound_congr (fun t ht => h t (by simp [I.tmps, ht]))
    have b : ∀ d m, bound e hi d m = bound e' hi d m := fun d m => bound_congr (fun t ht => h t (by simp [I.tmps, ht]))
    simp only [evI, a, b, val_congr (x := x) (e := e) (e' := e') (fun t ht => h t (by simp [I.tmps, ht]))]
  | .sliceL esz x lo hi mx, h => by
    simp only [evI, val_congr (x := x) (e := e) (e' := e') (fun t ht => h t (by simp [I.tmps, ht]))]
    rw [evSlice_congr (fun t ht => h t (by simp [I.tmps, ht])) (fun t ht => h t (by simp [I.tmps, ht])) (fun t ht => h t (by simp [I.tmps, ht]))]
  | .fieldAddr off x, h => by simp only [evI, val_congr (x := x) (e := e) (e' := e') (fun t ht => h t (by simp [I.tmps, ht]))]
  | .field agg n off x, h => by simp only [evI, val_congr (x := x) (e := e) (e' := e') (fun t ht => h t (by simp [I.tmps, ht]))]
  | .indexAddrS esz x i, h => by simp only [evI, val_congr (x := x) (e := e) (e' := e') (fun t ht => h t (by simp [I.tmps, ht])), val_congr (x := i) (e := e) (e' := e') (fun t ht => h t (by simp [I.tmps, ht]))]
  | .indexAddrA esz len x i, h => by simp only [evI, val_congr (x := x) (e := e) (e' := e') (fun t ht => h t (by simp [I.tmps, ht])), val_congr (x := i) (e := e) (e' := e') (fun t ht => h t (by simp [I.tmps, ht]))]
  | .indexA agg esz len x i, h => by simp only [evI, val_congr (x := x) (e := e) (e' := e') (fun t ht => h t (by simp [I.tmps, ht])), val_congr (x := i) (e := e) (e' := e') (fun t ht => h t (by simp [I.tmps, ht]))]
  | .indexStr x i, h => by simp only [evI, val_congr (x := x) (e := e) (e' := e') (fun t ht => h t (by simp [I.tmps, ht])), val_congr (x := i) (e := e) (e' := e') (fun t ht => h t (by simp [I.tmps, ht]))]
  | .lookup kt zero ok x k, h => by simp only [evI, val_congr (x := x) (e := e) (e' := e') (fun t ht => h t (by simp [I.tmps, ht])), val_congr (x := k) (e := e) (e' := e') (fun t ht => h t (by simp [I.tmps, ht]))]
  | .mapSet kt m k v, h => by simp only [evI, val_congr (x := m) (e := e) (e' := e') (fun t ht => h t (by simp [I.tmps, ht])), val_congr (x := k) (e := e) (e' := e') (fun t ht => h t (by simp [I.tmps, ht])), val_congr (x := v) (e := e) (e' := e') (fun t ht => h t (by simp [I.tmps, ht]))]
  | .rangeM x, h => by simp only [evI, val_congr (x := x) (e := e) (e' := e') (fun t ht => h t (by simp [I.tmps, ht]))]
  | .rangeS x, h => by simp only [evI, val_congr (x := x) (e := e) (e' := e') (fun t ht => h t (by simp [I.tmps, ht]))]
  | .nextS it, h => by simp only [evI, val_congr (x := it) (e := e) (e' := e') (fun t ht => h t (by simp [I.tmps, ht]))]
  | .nextM it, h => by simp only [evI]
  | .entry it, h => by simp only [evI, val_congr (x := it) (e := e) (e' := e') (fun t ht => h t (by simp [I.tmps, ht]))]
  | .assertC t zero ok x, h => by simp only [evI, val_congr (x := x) (e := e) (e' := e') (fun t ht => h t (by simp [I.tmps, ht]))]
  | .extract i x, h => by simp only [evI, val_congr (x := x) (e := e) (e' := e') (fun t ht => h t (by simp [I.tmps, ht]))]
  | .lenStr x, h => by simp only [evI, val_congr (x := x) (e := e) (e' := e') (fun t ht => h t (by simp [I.tmps, ht]))]
  | .lenSlice x, h => by simp only [evI, val_congr (x := x) (e := e) (e' := e') (fun t ht => h t (by simp [I.tmps, ht]))]
  | .lenMap x, h => by simp only [evI, val_congr (x := x) (e := e) (e' := e') (fun t ht => h t (by simp [I.tmps, ht]))]
  | .append esz bytes s x, h => by simp only [evI, val_congr (x := s) (e := e) (e' := e') (fun t ht => h t (by simp [I.tmps, ht])), val_congr (x := x) (e := e) (e' := e') (fun t ht => h t (by simp [I.tmps, ht]))]
  | .copy esz d s, h => by simp only [evI, val_congr (x := d) (e := e) (e' := e') (fun t ht => h t (by simp [I.tmps, ht])), val_congr (x := s) (e := e) (e' := e') (fun t ht => h t (by simp [I.tmps, ht]))]
  | .delete kt m k, h => by simp only [evI, val_congr (x := m) (e := e) (e' := e') (fun t ht => h t (by simp [I.tmps, ht])), val_congr (x := k) (e := e) (e' := e') (fun t ht => h t (by simp [I.tmps, ht]))]
  | .minmax max x y, h => by simp only [evI, val_congr (x := x) (e := e) (e' := e') (fun t ht => h t (by simp [I.tmps, ht])), val_congr (x := y) (e := e) (e' := e') (fun t ht => h t (by simp [I.tmps, ht]))]
  | .call f args, h => by simp only [evI]
  | .recover, h => by simp only [evI]
  | .defer f args, h => by simp only [evI]
  | .bad, h => by simp only [evI]
  | .runeS x, h => by simp only [evI, val_congr (x := x) (e := e) (e' := e') (fun t ht => h t (by simp [I.tmps, ht]))]
  | .panic x, h => by simp only [evI]

/-- Pure operations look at no object, and make and write none. -/
theorem evI_pure {i : I} (hc : i.cls = .pure) : evI g id e i = evI g' id' e i ∧ ∀ eff, evI g id e i = some eff → eff.upd = none ∧ eff.new = none := by
  cases i <;> simp only [I.cls] at hc <;> first | (cases hc; done) | skip
  all_goals (refine ⟨by simp only [evI], fun eff h => ?_⟩)
  all_goals simp only [evI] at h
  all_goals (repeat' split at h)
  all_goals first
    | (cases h; done)
    | (cases h; exact ⟨rfl, rfl⟩)
    | (simp only [Option.map_eq_some_iff] at h; obtain ⟨_, _, rfl⟩ := h; exact ⟨rfl, rfl⟩)
    | (simp only [Option.bind_eq_some_iff, Option.map_eq_some_iff] at h; obtain ⟨_, _, _, _, rfl⟩ := h; exact ⟨rfl, rfl⟩)
    | (simp only [Option.bind_eq_some_iff, Option.some.injEq] at h; obtain ⟨_, _, _, _, rfl⟩ := h; exact ⟨rfl, rfl⟩)

theorem evI_read {i : I} (hc : i.cls = .read) : evI g id e i = evI g id' e i ∧ ∀ eff, evI g id e i = some eff → eff.upd = none ∧ eff.new = none := by
  cases i <;> simp only [I.cls] at hc <;> first | (cases hc; done) | skip
  all_goals (refine ⟨by simp only [evI], fun eff h => ?_⟩)
  all_goals simp only [evI] at h
  all_goals (repeat' split at h)
  all_goals first
    | (cases h; done)
    | (cases h; exact ⟨rfl, rfl⟩)
    | (simp only [Option.map_eq_some_iff] at h; obtain ⟨_, _, rfl⟩ := h; exact ⟨rfl, rfl⟩)
    | (simp only [Option.bind_eq_some_iff, Option.map_eq_some_iff] at h; obtain ⟨_, _, _, _, rfl⟩ := h; exact ⟨rfl, rfl⟩)
    | (simp only [Option.bind_eq_some_iff, Option.some.injEq] at h; obtain ⟨_, _, _, _, rfl⟩ := h; exact ⟨rfl, rfl⟩)

theorem evI_make {i : I} (hc : i.cls = .make) : ∀ eff, evI g id e i = some eff → eff.upd = none := by
  cases i <;> simp only [I.cls] at hc <;> first | (cases hc; done) | skip
  all_goals (intro eff h)
  all_goals simp only [evI] at h
  all_goals (repeat' split at h)
  all_goals first
    | (cases h; done)
    | (cases h; exact rfl)
    | (simp only [Option.map_eq_some_iff] at h; obtain ⟨_, _, rfl⟩ := h; exact rfl)
    | (simp only [Option.bind_eq_some_iff, Option.map_eq_some_iff] at h; obtain ⟨_, _, _, _, rfl⟩ := h; exact rfl)
    | (simp only [Option.bind_eq_some_iff, Option.some.injEq] at h; obtain ⟨_, _, _, _, rfl⟩ := h; exact rfl)

end
end Go.Abs

/-
  ABS, part 28: operations that may change places.
-/
namespace Go.Abs
open Go Go.RowKit
set_option linter.unusedSectionVars false
variable [Syms]

/-- What an operation of an open region comes to. -/
def effOf (cx : Ctx) (o : O) (e : Env) (g : View) (id : Nat) : Option Eff :=
  if wanted e o.guard then
    match o.i with
    | .call f args => match resolve (f.val e) (args.map (X.val e)) with
      | some (f, args) => match cx.sum f with
        | some F => (callSum g F args).map fun v => { val := v }
        | none => none
      | none => none
    | .panic _ | .defer _ _ | .recover | .nextM _ => none
    | op => evI g id e op
  else some { val := V.undef }

section
variable {cx : Ctx} {nid n : Nat}

theorem actOp_eff {i : Nat} {o : O} {bef : List Nat} {s : Env × Heap} : actOp cx nid n i o bef s = (effOf cx o s.1 (seen s.2 nid n bef) (nid + i)).map fun eff => (putDst s.1 o.dst eff.val, eff.heap (nid + i) s.2) := by
  obtain ⟨dst, op, guard⟩ := o
  unfold actOp effOf
  by_cases hw : wanted s.1 guard = true
  · simp only [hw, if_true]
    cases op <;> first | rfl | skip
    rename_i f args
    simp only
    cases resolve (f.val s.1) (args.map (X.val s.1)) with
    | none => rfl
    | some q =>
      obtain ⟨f', as⟩ := q
      simp only
      cases cx.sum f' with
      | none => rfl
      | some F => simp only [Option.map_map]; rfl
  · simp only [hw]; rfl

theorem wanted_congr {e e' : Env} {g : Option (Nat × Bool)} (h : ∀ t w, g = some (t, w) → e.at t = e'.at t) : wanted e g = wanted e' g := by
  cases g with
  | none => rfl
  | some p => obtain ⟨t, w⟩ := p; simp only [wanted, h t w rfl]

theorem effOf_env {o : O} {e e' : Env} {g : View} {id : Nat} (h : ∀ t ∈ o.looks, e.at t = e'.at t) : effOf cx o e g id = effOf cx o e' g id := by
  have h1 : ∀ t ∈ o.i.tmps, e.at t = e'.at t := fun t ht => h t (by simp [O.looks, ht])
  have h2 : wanted e o.guard = wanted e' o.guard := wanted_congr fun t w hw => h t (by simp [O.looks, hw])
  unfold effOf
  rw [h2]
  have h3 := evI_env (g := g) (id := id) h1
  generalize o.i = i at *
  split
  · cases i <;> first | exact h3 | rfl | skip
    rename_i f args
    have h4 : f.val e = f.val e' := val_congr fun t ht => h1 t (by simp [I.tmps, ht])
    have h5 : args.map (X.val e) = args.map (X.val e') := vals_congr fun t ht => h1 t (by simp [I.tmps, ht])
    simp only [h4, h5]
  · rfl

theorem effOf_pure {o : O} {e : Env} {g g' : View} {id id' : Nat} (hc : o.i.cls = .pure) : effOf cx o e g id = effOf cx o e g' id' ∧ ∀ eff, effOf cx o e g id = some eff → eff.upd = none ∧ eff.new = none := by
  have h3 := evI_pure (g := g) (g' := g') (id := id) (id' := id') (e := e) hc
  unfold effOf
  generalize o.i = i at *
  split
  · cases i <;> first | exact h3 | exact ⟨rfl, fun _ h => by cases h⟩ | (simp only [I.cls] at hc; cases hc)
  · exact ⟨rfl, fun eff h => by cases h; exact ⟨rfl, rfl⟩⟩

theorem effOf_read {o : O} {e : Env} {g : View} {id : Nat} (hc : o.i.cls = .read) : ∀ eff, effOf cx o e g id = some eff → eff.upd = none ∧ eff.new = none := by
  have h3 := evI_read (g := g) (id := id) (id' := id) (e := e) hc
  unfold effOf
  generalize o.i = i at *
  split
  · cases i <;> first | exact h3.2 | exact (fun _ h => by cases h) | (simp only [I.cls] at hc; cases hc; done) | skip
    intro eff h
    simp only at h
    split at h
    · split at h
      · simp only [Option.map_eq_some_iff] at h
        obtain ⟨_, _, rfl⟩ := h
        exact ⟨rfl, rfl⟩
      · cases h
    · cases h
  · exact fun eff h => by cases h; exact ⟨rfl, rfl⟩

theorem effOf_make {o : O} {e : Env} {g : View} {id : Nat} (hc : o.i.cls = .make) : ∀ eff, effOf cx o e g id = some eff → eff.upd = none := by
  have h3 := evI_make (g := g) (id := id) (e := e) hc
  unfold effOf
  generalize o.i = i at *
  split
  · cases i <;> first | exact h3 | exact (fun _ h => by cases h) | (simp only [I.cls] at hc; cases hc)
  · exact fun eff h => by cases h; rfl

theorem putDst_at {e : Env} {d : Option Nat} {v : V} {t : Nat} (h : d ≠ some t) : (putDst e d v).at t = e.at t := by
  cases d with
  | none => rfl
  | some d => simp only [putDst, at_set]; rw [if_neg (fun he => h (by rw [he]))]

theorem putDst_comm {e : Env} {d d' : Option Nat} {v v' : V} (h : ∀ a, d = some a → d' ≠ some a) : putDst (putDst e d v) d' v' = putDst (putDst e d' v') d v := by
  cases d with
  | none => rfl
  | some d =>
    cases d' with
    | none => rfl
    | some d' =>
      exact T.put_comm e _ _ (fun he => h d rfl (by rw [he]))

theorem seen_make {h : Heap} {j : Nat} {bef : List Nat} (hj : j < n) (hb : j ∉ bef) (o : AObj) : seen (h.set (nid + j) o) nid n bef = seen h nid n bef := by
  funext b
  unfold seen
  by_cases hbj : b = nid + j
  · subst hbj
    have h1 : (decide (nid ≤ nid + j) && Nat.blt (nid + j) (nid + n) && !bef.contains (nid + j - nid)) = true := by
      have : nid + j - nid = j := by omega
      rw [this]
      have h2 : bef.contains j = false := by simpa using hb
      rw [h2]
      simp [hj]
    rw [h1]; rfl
  · rw [get_set, upd_ne _ _ hbj]

theorem conflict_false {x y : O} (h : conflict x y = false) : (∀ a, x.dst = some a → a ∉ y.looks) ∧ (∀ a, y.dst = some a → a ∉ x.looks) ∧ (∀ a, x.dst = some a → y.dst ≠ some a) ∧
    (x.i.cls = .write → y.i.cls = .pure) ∧ (y.i.cls = .write → x.i.cls = .pure) := by
  simp only [conflict, Bool.or_eq_false_iff] at h
  obtain ⟨⟨⟨⟨h1, h2⟩, h3⟩, h4⟩, h5⟩ := h
  refine ⟨fun a ha => ?_, fun a ha => ?_, fun a ha hb => ?_, fun hw => ?_, fun hw => ?_⟩
  · rw [ha] at h1; simpa [hits] using h1
  · rw [ha] at h2; simpa [hits] using h2
  · rw [ha, hb] at h3; simp at h3
  · rw [hw] at h4
    cases hy : y.i.cls <;> rw [hy] at h4 <;> first | rfl | (exact absurd h4 (by decide))
  · rw [hw] at h5
    cases hx : x.i.cls <;> rw [hx] at h5 <;> first | rfl | (exact absurd h5 (by decide))

/-- What one of two sees is the same after the other. -/
theorem eff_after {x y : O} {i j : Nat} {bef : List Nat} {s : Env × Heap} {ex : Eff} (hj : j < n) (hbi : j ∉ bef) (hx : ∀ a, x.dst = some a → a ∉ y.looks) (hw : x.i.cls = .write → y.i.cls = .pure) {gx : View} (he : effOf cx x s.1 gx (nid + j) = some ex) :
    effOf cx y (putDst s.1 x.dst ex.val) (seen (ex.heap (nid + j) s.2) nid n bef) (nid + i) = effOf cx y s.1 (seen s.2 nid n bef) (nid + i) := by
  rw [effOf_env (e' := s.1) fun t ht => putDst_at fun hd => hx t hd ht]
  cases hxc : x.i.cls with
  | pure =>
    obtain ⟨h1, h2⟩ := (effOf_pure (g' := gx) (id' := nid + j) hxc).2 ex he
    simp only [Eff.heap, h1, h2]
  | read =>
    obtain ⟨h1, h2⟩ := effOf_read hxc ex he
    simp only [Eff.heap, h1, h2]
  | make =>
    have h1 := effOf_make hxc ex he
    simp only [Eff.heap, h1]
    cases ex.new with
    | none => rfl
    | some o => simp only; rw [seen_make hj hbi o]
  | write => exact (effOf_pure (hw hxc)).1

theorem heaps_comm {x y : O} {i j : Nat} (hij : j ≠ i) {ex ey : Eff} {e e' : Env} {gx gy : View} (h1 : x.i.cls = .write → y.i.cls = .pure) (h2 : y.i.cls = .write → x.i.cls = .pure)
    (hx : effOf cx x e gx (nid + j) = some ex) (hy : effOf cx y e' gy (nid + i) = some ey) (h : Heap) : ex.heap (nid + j) (ey.heap (nid + i) h) = ey.heap (nid + i) (ex.heap (nid + j) h) := by
  have idle : ∀ {o : O} {e : Env} {g : View} {id : Nat} {eff : Eff}, (o.i.cls = .pure ∨ o.i.cls = .read) → effOf cx o e g id = some eff → ∀ k h, eff.heap k h = h := fun {o e g id eff} hc he k h => by
    have h3 : eff.upd = none ∧ eff.new = none := by
      rcases hc with hc | hc
      · exact (effOf_pure (g' := g) (id' := id) hc).2 eff he
      · exact effOf_read hc eff he
    simp only [Eff.heap, h3.1, h3.2]
  cases hxc : x.i.cls with
  | pure => rw [idle (.inl hxc) hx, idle (.inl hxc) hx]
  | read => rw [idle (.inr hxc) hx, idle (.inr hxc) hx]
  | write => rw [idle (.inl (h1 hxc)) hy, idle (.inl (h1 hxc)) hy]
  | make =>
    cases hyc : y.i.cls with
    | pure => rw [idle (.inl hyc) hy, idle (.inl hyc) hy]
    | read => rw [idle (.inr hyc) hy, idle (.inr hyc) hy]
    | write => rw [h2 hyc] at hxc; cases hxc
    | make =>
      have k1 := effOf_make hxc ex hx
      have k2 := effOf_make hyc ey hy
      simp only [Eff.heap, k1, k2]
      cases ex.new <;> cases ey.new <;> first | rfl | skip
      exact T.put_comm h _ _ (by omega)

theorem act_swap {x y : O} {i j : Nat} {bi bj : List Nat} {s s1 s2 : Env × Heap} (hc : conflict x y = false) (hij : j ≠ i) (hj : j < n) (hi : i < n) (hbi : j ∉ bi) (hbj : i ∉ bj)
    (h1 : actOp cx nid n j x bj s = some s1) (h2 : actOp cx nid n i y bi s1 = some s2) : ∃ s1', actOp cx nid n i y bi s = some s1' ∧ actOp cx nid n j x bj s1' = some s2 := by
  obtain ⟨c1, c2, c3, c4, c5⟩ := conflict_false hc
  rw [actOp_eff] at h1 h2
  simp only [Option.map_eq_some_iff] at h1 h2
  obtain ⟨ex, hex, rfl⟩ := h1
  obtain ⟨ey, hey, rfl⟩ := h2
  simp only at hey
  rw [eff_after hj hbi c1 c4 hex] at hey
  refine ⟨(putDst s.1 y.dst ey.val, ey.heap (nid + i) s.2), by rw [actOp_eff, hey]; rfl, ?_⟩
  rw [actOp_eff]
  simp only
  rw [eff_after hi hbj c2 c5 hey, hex]
  simp only [Option.map_some, Option.some.injEq, Prod.mk.injEq]
  exact ⟨(putDst_comm c3).symm, heaps_comm hij c4 c5 hex hey s.2⟩

theorem actAll_idx {z : List (O × List Nat)} : ∀ {l : List (O × List Nat)} {k : Nat} {s : Env × Heap}, (∀ q : Nat, l[q]? = z[k + q]?) → actAll cx nid n k l s = actIdx cx nid n z (List.range' k l.length) s
  | [], k, s, h => rfl
  | (o, bef) :: l, k, s, h => by
    have h0 := h 0
    simp only [List.getElem?_cons_zero, Nat.add_zero] at h0
    simp only [actAll, List.length_cons, List.range'_succ, actIdx, ← h0]
    congr 1
    funext s'
    refine actAll_idx fun q => ?_
    have := h (q + 1)
    rw [List.getElem?_cons_succ] at this
    rw [this]
    congr 1
    omega

/-- One that may change places with all that stand ahead of it comes first. -/
theorem act_front {z : List (O × List Nat)} {i : Nat} {o : O} {bef : List Nat} (hz : z[i]? = some (o, bef)) (hi : i < n) : ∀ {l1 l2 : List Nat} {s fin : Env × Heap},
    (∀ j ∈ l1, ∃ p bj, z[j]? = some (p, bj) ∧ conflict p o = false ∧ j ≠ i ∧ j < n ∧ j ∉ bef ∧ i ∉ bj) → actIdx cx nid n z (l1 ++ i :: l2) s = some fin →
    ∃ s', actOp cx nid n i o bef s = some s' ∧ actIdx cx nid n z (l1 ++ l2) s' = some fin
  | [], l2, s, fin, _, h => by
    simp only [List.nil_append, actIdx, hz, Option.bind_eq_some_iff] at h
    exact h
  | j :: l1, l2, s, fin, H, h => by
    obtain ⟨p, bj, hj, hc, hne, hjn, hb1, hb2⟩ := H j List.mem_cons_self
    simp only [List.cons_append, actIdx, hj, Option.bind_eq_some_iff] at h
    obtain ⟨s1, hs1, h⟩ := h
    obtain ⟨s2, hs2, hrest⟩ := act_front hz hi (fun q hq => H q (List.mem_cons_of_mem _ hq)) h
    obtain ⟨s1', h1, h2⟩ := act_swap hc hne hjn hi hb1 hb2 hs1 hs2
    refine ⟨s1', h1, ?_⟩
    simp only [List.cons_append, actIdx, hj, h2, Option.bind_some]
    exact hrest
end
end Go.Abs

/-
  ABS, part W: a region that holds calls which are not told by values: what is free of a call may be done ahead of it or behind it.
-/
namespace Go.Abs
set_option maxHeartbeats 1000000
open Go Go.RowKit
set_option linter.unusedSectionVars false
variable [Syms]

/-! Equality of values. -/
mutual
theorem V.eqA_eq : ∀ (a b : V), V.eqA a b = true → a = b
  | .bool a, .bool b, h => by simp only [V.eqA, beq_iff_eq] at h; rw [h]
  | .int k a, .int l b, h => by simp only [V.eqA, Bool.and_eq_true, decide_eq_true_eq] at h; rw [h.1, h.2]
  | .str a, .str b, h => by simp only [V.eqA, beq_iff_eq] at h; rw [h]
  | .ptr a i, .ptr b j, h => by
    simp only [V.eqA, Bool.and_eq_true] at h
    rw [Nat.eq_of_beq_eq_true h.1, Nat.eq_of_beq_eq_true h.2]
  | .slice a o l c, .slice b p m d, h => by
    simp only [V.eqA, Bool.and_eq_true, decide_eq_true_eq] at h
    obtain ⟨⟨⟨h1, h2⟩, h3⟩, h4⟩ := h
    rw [Nat.eq_of_beq_eq_true h1, Nat.eq_of_beq_eq_true h2, Nat.eq_of_beq_eq_true h3, h4]
  | .map a, .map b, h => by simp only [V.eqA] at h; rw [Nat.eq_of_beq_eq_true h]
  | .func f a b, w, h => by
    cases f with
    | func f =>
      cases w with
      | func g c d =>
        cases g with
        | func g =>
          simp only [V.eqA, Bool.and_eq_true] at h
          rw [Nat.eq_of_beq_eq_true h.1.1, V.eqAs_eq a c h.1.2, V.eqAs_eq b d h.2]
        | _ => simp only [V.eqA] at h; cases h
      | _ => simp only [V.eqA] at h; cases h
    | _ => cases w <;> (simp only [V.eqA] at h; cases h)
  | .agg a, .agg b, h => by simp only [V.eqA] at h; rw [V.eqAs_eq a b h]
  | .tuple a, .tuple b, h => by simp only [V.eqA] at h; rw [V.eqAs_eq a b h]
  | .iface t a, .iface u b, h => by simp only [V.eqA, Bool.and_eq_true, decide_eq_true_eq] at h; rw [h.1, V.eqA_eq a b h.2]
  | .rslice a o l c, .rslice b p m d, h => by
    simp only [V.eqA, Bool.and_eq_true, decide_eq_true_eq] at h
    obtain ⟨⟨⟨h1, h2⟩, h3⟩, h4⟩ := h
    rw [V.eqAs_eq a b h1, h2, h3, h4]
  | .sym a, b, h => by cases b <;> first | (simp only [V.eqA, decide_eq_true_eq] at h; rw [h]; done) | (simp only [V.eqA] at h; cases h)
  | .sstr a, b, h => by cases b <;> first | (simp only [V.eqA, beq_iff_eq] at h; rw [h]; done) | (simp only [V.eqA] at h; cases h)
  | .nilPtr, b, h => by cases b <;> first | rfl | (simp only [V.eqA] at h; cases h)
  | .nilSlice, b, h => by cases b <;> first | rfl | (simp only [V.eqA] at h; cases h)
  | .nilMap, b, h => by cases b <;> first | rfl | (simp only [V.eqA] at h; cases h)
  | .nilFunc, b, h => by cases b <;> first | rfl | (simp only [V.eqA] at h; cases h)
  | .nilIface, b, h => by cases b <;> first | rfl | (simp only [V.eqA] at h; cases h)
  | .rptr .., b, h => by cases b <;> (simp only [V.eqA] at h; cases h)
  | .rmap .., b, h => by cases b <;> (simp only [V.eqA] at h; cases h)
theorem V.eqAs_eq : ∀ (a b : List V), V.eqAs a b = true → a = b
  | [], [], _ => rfl
  | a :: as, b :: bs, h => by
    simp only [V.eqAs, Bool.and_eq_true] at h
    rw [V.eqA_eq a b h.1, V.eqAs_eq as bs h.2]
  | [], _ :: _, h => by simp only [V.eqAs] at h; cases h
  | _ :: _, [], h => by simp only [V.eqAs] at h; cases h
end

theorem calm_cls {i : I} (h : i.calm = true) : i.cls = .pure ∨ i.cls = .read := by
  cases i <;> first | (cases h; done) | exact .inl rfl | exact .inr rfl

theorem conflict_comm {x y : O} (h : conflict x y = false) : conflict y x = false := by
  simp only [conflict, Bool.or_eq_false_iff] at h ⊢
  obtain ⟨⟨⟨⟨h1, h2⟩, h3⟩, h4⟩, h5⟩ := h
  refine ⟨⟨⟨⟨h2, h1⟩, ?_⟩, ?_⟩, ?_⟩
  · cases hx : x.dst <;> cases hy : y.dst <;> first | rfl | skip
    rw [hx, hy] at h3
    simp only [beq_eq_false_iff_ne, ne_eq] at h3 ⊢
    exact fun e => h3 e.symm
  · rw [Bool.and_comm]; exact h5
  · rw [Bool.and_comm]; exact h4

/-- What such a region's text is like. -/
structure Tidy (z : List (O × List Nat)) (n : Nat) : Prop where
  len : z.length = n
  lt : ∀ (i : Nat) p, z[i]? = some p → ∀ x ∈ p.2, x < i
  trans : ∀ (i : Nat) p x q, z[i]? = some p → x ∈ p.2 → z[x]? = some q → ∀ y ∈ q.2, y ∈ p.2
  apart : ∀ (i j : Nat) p q, z[i]? = some p → z[j]? = some q → j < i → conflict q.1 p.1 = false ∨ j ∈ p.2

theorem befOf_eq {z : List (O × List Nat)} {i : Nat} {p : O × List Nat} (h : z[i]? = some p) : befOf z i = p.2 := by simp only [befOf, h]
theorem callAt_eq {z : List (O × List Nat)} {i : Nat} {p : O × List Nat} (h : z[i]? = some p) : callAt z i = p.1.i.isCall := by simp only [callAt, h]
theorem dstOf_eq {z : List (O × List Nat)} {i : Nat} {p : O × List Nat} (h : z[i]? = some p) : dstOf z i = p.1.dst := by simp only [dstOf, h]

section
variable {cx : Ctx} {nid n : Nat} {z : List (O × List Nat)}

theorem Tidy.at (Z : Tidy z n) {i : Nat} (h : i < n) : ∃ p, z[i]? = some p := by
  have : i < z.length := by rw [Z.len]; exact h
  exact ⟨_, List.getElem?_eq_getElem this⟩

theorem Tidy.free (Z : Tidy z n) {i j : Nat} {p q : O × List Nat} (hi : z[i]? = some p) (hj : z[j]? = some q) (hne : j ≠ i) (h1 : j ∉ p.2) (h2 : i ∉ q.2) : conflict q.1 p.1 = false := by
  rcases Nat.lt_or_gt_of_ne hne with h | h
  · exact (Z.apart i j p q hi hj h).resolve_right h1
  · exact conflict_comm ((Z.apart j i q p hj hi h).resolve_right h2)

theorem actIdx_append {l1 l2 : List Nat} {s : Env × Heap} : actIdx cx nid n z (l1 ++ l2) s = (actIdx cx nid n z l1 s).bind (actIdx cx nid n z l2) := by
  induction l1 generalizing s with
  | nil => rfl
  | cons i l ih =>
    simp only [List.cons_append, actIdx]
    cases z[i]? with
    | none => rfl
    | some p =>
      simp only
      cases actOp cx nid n i p.1 p.2 s with
      | none => rfl
      | some s1 => simp only [Option.bind_some]; exact ih

theorem actIdx_cons {i : Nat} {l : List Nat} {p : O × List Nat} (h : z[i]? = some p) {s : Env × Heap} : actIdx cx nid n z (i :: l) s = (actOp cx nid n i p.1 p.2 s).bind (actIdx cx nid n z l) := by
  simp only [actIdx, h]

theorem pull_at (Z : Tidy z n) {i : Nat} {p : O × List Nat} (hz : z[i]? = some p) {l1 l2 : List Nat} {s fin : Env × Heap} (H : ∀ j ∈ l1, j < n ∧ j ≠ i ∧ j ∉ p.2 ∧ i ∉ befOf z j) (h : actIdx cx nid n z (l1 ++ i :: l2) s = some fin) :
    ∃ s', actOp cx nid n i p.1 p.2 s = some s' ∧ actIdx cx nid n z (l1 ++ l2) s' = some fin := by
  have hi : i < n := by
    rw [← Z.len]
    exact (List.getElem?_eq_some_iff.1 hz).1
  refine act_front (o := p.1) (bef := p.2) hz hi (fun j hj => ?_) h
  obtain ⟨h1, h2, h3, h4⟩ := H j hj
  obtain ⟨q, hq⟩ := Z.at h1
  rw [befOf_eq hq] at h4
  exact ⟨q.1, q.2, hq, Z.free hz hq h2 h3 h4, h2, h1, h3, h4⟩

theorem pull (Z : Tidy z n) {i : Nat} {p : O × List Nat} (hz : z[i]? = some p) {l : List Nat} {s fin : Env × Heap} (hs : l.Pairwise (· < ·)) (hin : i ∈ l) (hn : ∀ j ∈ l, j < n) (hr : ∀ j ∈ l, j ∉ p.2) (h : actIdx cx nid n z l s = some fin) :
    ∃ s', actOp cx nid n i p.1 p.2 s = some s' ∧ actIdx cx nid n z (l.erase i) s' = some fin := by
  obtain ⟨l1, l2, hni, hl, he⟩ := List.exists_erase_eq hin
  rw [he]
  rw [hl] at h
  refine pull_at Z hz (fun j hj => ?_) h
  have hjl : j ∈ l := by rw [hl]; exact List.mem_append_left _ hj
  have hji : j < i := by
    rw [hl] at hs
    exact (List.pairwise_append.1 hs).2.2 j hj i List.mem_cons_self
  refine ⟨hn j hjl, by omega, hr j hjl, fun hb => ?_⟩
  obtain ⟨q, hq⟩ := Z.at (hn j hjl)
  rw [befOf_eq hq] at hb
  have := Z.lt j q hq i hb
  omega

theorem sorted_nodup {l : List Nat} (h : l.Pairwise (· < ·)) : l.Nodup := h.imp fun h => Nat.ne_of_lt h

theorem mem_erase {l : List Nat} (h : l.Nodup) {i j : Nat} : j ∈ l.erase i ↔ j ≠ i ∧ j ∈ l := List.Nodup.mem_erase_iff h

/-- All of a list taken out. -/
def eraseAll : List Nat → List Nat → List Nat
  | W, [] => W
  | W, x :: l => eraseAll (W.erase x) l

theorem eraseAll_snoc : ∀ {W l : List Nat} {i : Nat}, eraseAll W (l ++ [i]) = (eraseAll W l).erase i
  | _, [], _ => rfl
  | W, x :: l, _ => eraseAll_snoc (W := W.erase x) (l := l)

theorem eraseAll_sorted : ∀ {W l : List Nat}, W.Pairwise (· < ·) → (eraseAll W l).Pairwise (· < ·)
  | _, [], h => h
  | _, _ :: l, h => eraseAll_sorted (l := l) (h.sublist List.erase_sublist)

theorem eraseAll_mem : ∀ {W l : List Nat}, W.Nodup → ∀ {j : Nat}, j ∈ eraseAll W l ↔ j ∉ l ∧ j ∈ W
  | W, [], h, j => by simp [eraseAll]
  | W, x :: l, h, j => by
    show j ∈ eraseAll (W.erase x) l ↔ _
    rw [eraseAll_mem (h.erase x), mem_erase h, List.mem_cons]
    constructor
    · rintro ⟨h1, h2, h3⟩; exact ⟨fun h => h.elim h2 h1, h3⟩
    · rintro ⟨h1, h2⟩; exact ⟨fun h => h1 (.inr h), fun h => h1 (.inl h), h2⟩

/-- An order in which some of a list may be done. -/
def okSeq (z : List (O × List Nat)) : List Nat → List Nat → Prop
  | _, [] => True
  | W, x :: l => x ∈ W ∧ (∀ y ∈ befOf z x, y ∉ W) ∧ okSeq z (W.erase x) l

theorem okSeq_snoc : ∀ {W l : List Nat} {i : Nat}, okSeq z W l → i ∈ eraseAll W l → (∀ y ∈ befOf z i, y ∉ eraseAll W l) → okSeq z W (l ++ [i])
  | _, [], _, _, h1, h2 => ⟨h1, h2, trivial⟩
  | W, x :: _, _, ⟨a, b, c⟩, h1, h2 => ⟨a, b, okSeq_snoc (W := W.erase x) c h1 h2⟩

theorem okSeq_mem : ∀ {W l : List Nat}, okSeq z W l → ∀ x ∈ l, x ∈ W
  | W, y :: l, ⟨a, b, c⟩, x, hx => by
    rcases List.mem_cons.1 hx with rfl | hx
    · exact a
    · exact List.mem_of_mem_erase (okSeq_mem c x hx)

/-- What is not written stays. -/
theorem actIdx_keeps {t : Nat} : ∀ {l : List Nat} {s s' : Env × Heap}, (∀ j ∈ l, dstOf z j ≠ some t) → actIdx cx nid n z l s = some s' → s'.1.at t = s.1.at t
  | [], s, s', _, h => by cases h; rfl
  | i :: l, s, s', H, h => by
    cases hz : z[i]? with
    | none => simp [actIdx, hz] at h
    | some p =>
      rw [actIdx_cons hz] at h
      simp only [Option.bind_eq_some_iff] at h
      obtain ⟨s1, h1, h2⟩ := h
      rw [actIdx_keeps (fun j hj => H j (List.mem_cons_of_mem _ hj)) h2]
      rw [actOp_eff] at h1
      simp only [Option.map_eq_some_iff] at h1
      obtain ⟨eff, _, rfl⟩ := h1
      exact putDst_at fun hd => H i List.mem_cons_self (by rw [dstOf_eq hz, hd])

theorem calm_act {i : Nat} {p : O × List Nat} (hz : z[i]? = some p) (hc : calmAt z i = true) {s s' : Env × Heap} (h : actOp cx nid n i p.1 p.2 s = some s') : ∃ v, s' = (putDst s.1 p.1.dst v, s.2) := by
  rw [actOp_eff] at h
  simp only [Option.map_eq_some_iff] at h
  obtain ⟨eff, he, rfl⟩ := h
  simp only [calmAt, hz] at hc
  have : eff.upd = none ∧ eff.new = none := by
    rcases calm_cls hc with hc | hc
    · exact (effOf_pure (g' := fun _ => none) (id' := 0) hc).2 eff he
    · exact effOf_read hc eff he
  exact ⟨eff.val, by simp only [Eff.heap, this.1, this.2]⟩

theorem calm_heap : ∀ {l : List Nat} {s s' : Env × Heap}, (∀ j ∈ l, calmAt z j = true) → actIdx cx nid n z l s = some s' → s'.2 = s.2
  | [], s, s', _, h => by cases h; rfl
  | i :: l, s, s', H, h => by
    cases hz : z[i]? with
    | none => simp [actIdx, hz] at h
    | some p =>
      rw [actIdx_cons hz] at h
      simp only [Option.bind_eq_some_iff] at h
      obtain ⟨s1, h1, h2⟩ := h
      obtain ⟨v, rfl⟩ := calm_act hz (H i List.mem_cons_self) h1
      rw [calm_heap (fun j hj => H j (List.mem_cons_of_mem _ hj)) h2]

theorem distinct_spec : ∀ {U : List Nat}, U.Nodup → distinct (U.filterMap (dstOf z)) = true → ∀ x ∈ U, ∀ y ∈ U, x ≠ y → ∀ d, dstOf z x = some d → dstOf z y ≠ some d
  | [], _, _, x, hx, _, _, _, _, _ => by cases hx
  | u :: U, hnd, h, x, hx, y, hy, hne, d, hd => by
    have hnd := List.nodup_cons.1 hnd
    have ht : distinct (U.filterMap (dstOf z)) = true := by
      rw [List.filterMap_cons] at h
      cases hu : dstOf z u with
      | none => rw [hu] at h; exact h
      | some e => rw [hu] at h; simp only [distinct, Bool.and_eq_true] at h; exact h.2
    have hh : ∀ d, dstOf z u = some d → ∀ y ∈ U, dstOf z y ≠ some d := fun d hu y hy hyd => by
      rw [List.filterMap_cons, hu] at h
      simp only [distinct, Bool.and_eq_true, Bool.not_eq_true'] at h
      have : d ∈ U.filterMap (dstOf z) := List.mem_filterMap.2 ⟨y, hy, hyd⟩
      have h1 := h.1
      rw [List.contains_iff_mem.2 this] at h1
      cases h1
    rcases List.mem_cons.1 hx with e1 | hx1
    · rcases List.mem_cons.1 hy with e2 | hy1
      · exact absurd (e1.trans e2.symm) hne
      · exact hh d (e1 ▸ hd) y hy1
    · rcases List.mem_cons.1 hy with e2 | hy1
      · exact fun h' => hh d (e2 ▸ h') x hx1 hd
      · exact distinct_spec hnd.2 ht x hx1 y hy1 hne d hd

/-- The same again behind the call. -/
theorem replay (Z : Tidy z n) {nid1 : Nat} {d : Option Nat} {v : V} {h1 : Heap} {sB sF s' : Env × Heap} : ∀ (lx W : List Nat) (s : Env × Heap), W.Pairwise (· < ·) → (∀ j ∈ W, j < n) → okSeq z W lx → (∀ j ∈ W, calmAt z j = true) →
    (∀ x ∈ W, ∀ y ∈ W, x ≠ y → ∀ d, dstOf z x = some d → dstOf z y ≠ some d) → (∀ x ∈ W, ∀ a, d = some a → dstOf z x ≠ some a) → actIdx cx nid n z lx s = some s' → actIdx cx nid n z (eraseAll W lx) s' = some sB →
    actIdx cx nid1 n z W (putDst s.1 d v, h1) = some sF → (∀ x ∈ W, ∀ t, dstOf z x = some t → sB.1.at t = sF.1.at t) → actIdx cx nid1 n z lx (putDst s.1 d v, h1) = some (putDst s'.1 d v, h1)
  | [], W, s, _, _, _, _, _, _, hb, _, _, _ => by cases hb; rfl
  | x :: l, W, s, hs, hn, hok, hcalm, hdst, hd, hb, hB, hF, hsame => by
    obtain ⟨hxW, hready, hok⟩ := hok
    obtain ⟨p, hz⟩ := Z.at (hn x hxW)
    rw [befOf_eq hz] at hready
    rw [actIdx_cons hz] at hb ⊢
    simp only [Option.bind_eq_some_iff] at hb
    obtain ⟨sx, hsx, hb⟩ := hb
    obtain ⟨tx, htx, hF'⟩ := pull Z hz hs hxW hn (fun j hj hb => hready j hb hj) hF
    have hnd := sorted_nodup hs
    have sub : ∀ {j}, j ∈ W.erase x → j ∈ W ∧ j ≠ x := fun hj => ⟨((mem_erase hnd).1 hj).2, ((mem_erase hnd).1 hj).1⟩
    obtain ⟨vb, rfl⟩ := calm_act hz (hcalm x hxW) hsx
    obtain ⟨va, rfl⟩ := calm_act hz (hcalm x hxW) htx
    have hx := dstOf_eq hz
    have heq : putDst (putDst s.1 d v) p.1.dst va = putDst (putDst s.1 p.1.dst vb) d v := by
      cases hpd : p.1.dst with
      | none => rfl
      | some t =>
        have hxd : dstOf z x = some t := by rw [hx, hpd]
        have e1 := hsame x hxW t hxd
        have k1 : sB.1.at t = vb := by
          have hl : ∀ j ∈ l, j ∈ W.erase x := okSeq_mem hok
          have a1 := actIdx_keeps (t := t) (fun j hj => hdst x hxW j (sub (hl j hj)).1 (Ne.symm (sub (hl j hj)).2) t hxd) hb
          have hin : ∀ j ∈ eraseAll (W.erase x) l, j ∈ W.erase x := fun j hj => ((eraseAll_mem (hnd.erase x)).1 hj).2
          have a2 := actIdx_keeps (t := t) (fun j hj => hdst x hxW j (sub (hin j hj)).1 (Ne.symm (sub (hin j hj)).2) t hxd) hB
          rw [a2, a1, hpd]
          simp [putDst, at_set]
        have k2 : sF.1.at t = va := by
          have a1 := actIdx_keeps (t := t) (fun j hj => hdst x hxW j (sub hj).1 (Ne.symm (sub hj).2) t hxd) hF'
          rw [a1, hpd]
          simp [putDst, at_set]
        rw [k1, k2] at e1
        subst e1
        exact putDst_comm fun a ha hb => hd x hxW a ha (by rw [hxd]; exact hb)
    rw [htx, heq]
    rw [heq] at hF'
    exact replay Z l (W.erase x) _ (hs.sublist List.erase_sublist) (fun j hj => hn j (sub hj).1) hok (fun j hj => hcalm j (sub hj).1) (fun a ha b hb => hdst a (sub ha).1 b (sub hb).1) (fun a ha => hd a (sub ha).1) hb hB hF' (fun a ha => hsame a (sub ha).1)

/-- What is to come when the call is made with E ahead of it and G behind it. -/
inductive Sub (cx : Ctx) (call : CallF) (z : List (O × List Nat)) (n : Nat) (K : Ex → FSt → Prop) (rem : Nat → Prop) (s : Env × Heap) (b : FSt) (c : Nat) (p : O × List Nat) (E G : List Nat) : Prop
  | mk {fuel : Nat} {la U lx lb R1 : List Nat} {sA s' sB : Env × Heap} : la.Pairwise (· < ·) → U.Pairwise (· < ·) → R1.Pairwise (· < ·) →
      (∀ i, rem i ↔ i ∈ la ∨ i ∈ eraseAll U lx ∨ i = c ∨ i ∈ lb) → (∀ i ∈ la, (i ∈ p.2 ∨ i ∈ E) ∧ callAt z i = false ∧ i ≠ c ∧ i < n ∧ ∀ y ∈ befOf z i, y ∈ p.2 ∨ y ∈ E) →
      (∀ i ∈ U, i ≠ c ∧ ¬ (i ∈ p.2 ∨ i ∈ E) ∧ c ∉ befOf z i ∧ calmAt z i = true ∧ i ∉ G ∧ ∀ g ∈ G, g ∉ befOf z i) → (∀ i ∈ lb, i ≠ c ∧ (c ∈ befOf z i ∨ i ∈ G ∨ ∃ g ∈ G, g ∈ befOf z i)) →
      (∀ i, i ∈ R1 ↔ i ∈ U ∨ i ∈ lb) → (∀ i ∈ R1, i < n) → (∀ x ∈ U, ∀ y ∈ U, x ≠ y → ∀ d, dstOf z x = some d → dstOf z y ≠ some d) → okSeq z U lx →
      actIdx cx b.nid n z la s = some s' → actIdx cx b.nid n z lx sA = some s' → actIdx cx b.nid n z (eraseAll U lx) s' = some sB →
      callOp call n p.1 { b with env := sA.1, h := sA.2 } (fun st1 => ∃ sF, actIdx cx st1.nid n z U (st1.env, st1.h) = some sF ∧ sameAt z U sB.1 sF.1 = true ∧ walk cx call z n K fuel R1 st1) (fun x s => U = [] ∧ K x s) → Sub cx call z n K rem s b c p E G

/-- Where a region stands: what is left, what the states are, and what the run says of what is to come. -/
inductive Stage (cx : Ctx) (call : CallF) (z : List (O × List Nat)) (n : Nat) (K : Ex → FSt → Prop) (rem : Nat → Prop) (s : Env × Heap) (b : FSt) : Prop
  | last {l : List Nat} {fin : Env × Heap} : l.Pairwise (· < ·) → (∀ i, rem i ↔ i ∈ l) → (∀ i ∈ l, i < n) → (∀ i ∈ l, callAt z i = false) → actIdx cx b.nid n z l s = some fin → K .normal { b with env := fin.1, h := fin.2, nid := b.nid + n } → Stage cx call z n K rem s b
  | plain {c : Nat} {p : O × List Nat} : z[c]? = some p → callAt z c = true → rem c → Sub cx call z n K rem s b c p [] [] → Stage cx call z n K rem s b
  | two {c u : Nat} {p : O × List Nat} : z[c]? = some p → callAt z c = true → rem c → callAt z u = false → (¬ rem u → ∀ y ∈ befOf z u, ¬ rem y) → (rem u → Sub cx call z n K rem s b c p [] [u]) → Sub cx call z n K rem s b c p (u :: befOf z u) [] → Stage cx call z n K rem s b

theorem calm_call {i : Nat} (h : calmAt z i = true) : callAt z i = false := by
  unfold calmAt at h
  unfold callAt
  cases hz : z[i]? with
  | none => rfl
  | some p =>
    rw [hz] at h
    simp only at h ⊢
    generalize p.1.i = o at h
    cases o <;> first | rfl | cases h

variable {call : CallF} {K : Ex → FSt → Prop}

theorem sub_step (Z : Tidy z n) {rem : Nat → Prop} {s : Env × Heap} {b : FSt} {c : Nat} {q : O × List Nat} {E G : List Nat} (hcc : callAt z c = true) (hremc : rem c) (S : Sub cx call z n K rem s b c q E G) {i : Nat} {p : O × List Nat} (hz : z[i]? = some p) (hi : rem i) (hr : ∀ x ∈ p.2, ¬ rem x) (hc : callAt z i = false)
    (hG : ∀ g ∈ G, rem g ∧ g ≠ i) : ∃ s1, actOp cx b.nid n i p.1 p.2 s = some s1 ∧ Sub cx call z n K (fun j => rem j ∧ j ≠ i) s1 b c q E G := by
  cases S with
  | @mk fuel la U lx lb R1 sA s' sB hla hU hR1 hrem hA hUf hlb hR hRn hd hok e1 e2 e3 hcall =>
    have hnU := sorted_nodup hU
    have hnA := sorted_nodup hla
    have hnE : (eraseAll U lx).Nodup := sorted_nodup (eraseAll_sorted hU)
    have inU : ∀ {j}, j ∈ eraseAll U lx → j ∈ U := fun hj => ((eraseAll_mem hnU).1 hj).2
    have hic : i ≠ c := fun e => by rw [e, hcc] at hc; cases hc
    have hbi := befOf_eq hz
    have ltA : ∀ j ∈ la, j < n := fun j hj => (hA j hj).2.2.2.1
    have ltU : ∀ j ∈ U, j < n := fun j hj => hRn j ((hR j).2 (.inl hj))
    have hilb : i ∉ lb := fun h' => by
      rcases (hlb i h').2 with h | h | ⟨g, hg, h⟩
      · rw [hbi] at h; exact hr c h hremc
      · exact (hG i h).2 rfl
      · rw [hbi] at h; exact hr g h (hG g hg).1
    rcases (hrem i).1 hi with h | h | h | h
    · -- ahead of the call
      obtain ⟨s1, k1, k2⟩ := pull Z hz hla h ltA (fun j hj hb => hr j hb ((hrem j).2 (.inl hj))) e1
      have hiU : i ∉ eraseAll U lx := fun h' => (hUf i (inU h')).2.1 (hA i h).1
      refine ⟨s1, k1, .mk (fuel := fuel) (la := la.erase i) (U := U) (lx := lx) (lb := lb) (R1 := R1) (sA := sA) (hla.sublist List.erase_sublist) hU hR1 (fun j => ?_) (fun j hj => hA j (List.mem_of_mem_erase hj)) hUf hlb hR hRn hd hok k2 e2 e3 hcall⟩
      rw [hrem j, mem_erase hnA]
      constructor
      · rintro ⟨h1 | h1 | h1 | h1, h2⟩
        · exact .inl ⟨h2, h1⟩
        · exact .inr (.inl h1)
        · exact .inr (.inr (.inl h1))
        · exact .inr (.inr (.inr h1))
      · rintro (h1 | h1 | h1 | h1)
        · exact ⟨.inl h1.2, h1.1⟩
        · exact ⟨.inr (.inl h1), fun e => hiU (e ▸ h1)⟩
        · exact ⟨.inr (.inr (.inl h1)), fun e => hic (e ▸ h1)⟩
        · exact ⟨.inr (.inr (.inr h1)), fun e => hilb (e ▸ h1)⟩
    · -- free of the call
      have hrE : ∀ j ∈ eraseAll U lx, j ∉ p.2 := fun j hj hb => hr j hb ((hrem j).2 (.inr (.inl hj)))
      obtain ⟨s2, k1, k2⟩ := pull Z hz (eraseAll_sorted hU) h (fun j hj => ltU j (inU hj)) hrE e3
      obtain ⟨_, ip, icb, _, _, _⟩ := hUf i (inU h)
      have happ : actIdx cx b.nid n z (la ++ [i]) s = some s2 := by
        rw [actIdx_append, e1, Option.bind_some, actIdx_cons hz, k1]
        rfl
      obtain ⟨s1, m1, m2⟩ := pull_at Z hz (l1 := la) (l2 := []) (fun j hj => ⟨ltA j hj, fun e => ip (e ▸ (hA j hj).1), fun hb => hr j hb ((hrem j).2 (.inl hj)), fun hb => ip ((hA j hj).2.2.2.2 i hb)⟩) happ
      rw [List.append_nil] at m2
      have hiA : i ∉ la := fun h' => ip (hA i h').1
      refine ⟨s1, m1, .mk (fuel := fuel) (la := la) (U := U) (lx := lx ++ [i]) (lb := lb) (R1 := R1) (sA := sA) hla hU hR1 (fun j => ?_) hA hUf hlb hR hRn hd (okSeq_snoc hok h fun y hy hyE => hrE y hyE (by rw [hbi] at hy; exact hy)) m2 (by rw [actIdx_append, e2, Option.bind_some, actIdx_cons hz, k1]; rfl) (by rw [eraseAll_snoc]; exact k2) hcall⟩
      rw [hrem j, eraseAll_snoc, mem_erase hnE]
      constructor
      · rintro ⟨h1 | h1 | h1 | h1, h2⟩
        · exact .inl h1
        · exact .inr (.inl ⟨h2, h1⟩)
        · exact .inr (.inr (.inl h1))
        · exact .inr (.inr (.inr h1))
      · rintro (h1 | h1 | h1 | h1)
        · exact ⟨.inl h1, fun e => hiA (e ▸ h1)⟩
        · exact ⟨.inr (.inl h1.2), h1.1⟩
        · exact ⟨.inr (.inr (.inl h1)), fun e => hic (e ▸ h1)⟩
        · exact ⟨.inr (.inr (.inr h1)), fun e => hilb (e ▸ h1)⟩
    · exact absurd h hic
    · exact absurd h hilb

/-- One that is ready is done. -/
theorem stage_step (Z : Tidy z n) {rem : Nat → Prop} {s : Env × Heap} {b : FSt} (S : Stage cx call z n K rem s b) {i : Nat} {p : O × List Nat} (hz : z[i]? = some p) (hi : rem i) (hr : ∀ x ∈ p.2, ¬ rem x) (hc : callAt z i = false) :
    ∃ s1, actOp cx b.nid n i p.1 p.2 s = some s1 ∧ Stage cx call z n K (fun j => rem j ∧ j ≠ i) s1 b := by
  cases S with
  | @last l fin h1 h2 h3 h4 h5 h6 =>
    obtain ⟨s1, e1, e2⟩ := pull Z hz h1 ((h2 i).1 hi) h3 (fun j hj hb => hr j hb ((h2 j).2 hj)) h5
    have hnd := sorted_nodup h1
    exact ⟨s1, e1, .last (h1.sublist List.erase_sublist) (fun j => by rw [mem_erase hnd, h2 j, and_comm]) (fun j hj => h3 j (List.mem_of_mem_erase hj)) (fun j hj => h4 j (List.mem_of_mem_erase hj)) e2 h6⟩
  | @plain c q hzc hcc hremc S =>
    obtain ⟨s1, e1, S1⟩ := sub_step Z hcc hremc S hz hi hr hc (fun g hg => by cases hg)
    exact ⟨s1, e1, .plain hzc hcc ⟨hremc, fun e => by rw [e, hc] at hcc; cases hcc⟩ S1⟩
  | @two c u q hzc hcc hremc hcu hdown S T =>
    obtain ⟨s1, e1, T1⟩ := sub_step Z hcc hremc T hz hi hr hc (fun g hg => by cases hg)
    refine ⟨s1, e1, .two (u := u) hzc hcc ⟨hremc, fun e => by rw [e, hc] at hcc; cases hcc⟩ hcu (fun hnu y hy hry => ?_) (fun hu => ?_) T1⟩
    · by_cases h : rem u
      · have hui : u = i := Classical.byContradiction fun hne => hnu ⟨h, hne⟩
        subst hui
        rw [befOf_eq hz] at hy
        exact hr y hy hry.1
      · exact hdown h y hy hry.1
    · obtain ⟨s2, e2, S1⟩ := sub_step Z hcc hremc (S hu.1) hz hi hr hc (fun g hg => by
        rcases List.mem_singleton.1 hg with rfl
        exact hu)
      rw [e1] at e2
      cases e2
      exact S1

/-- Some that may be done in this order are done. -/
theorem stage_run (Z : Tidy z n) {b : FSt} : ∀ (lx W : List Nat) {rem : Nat → Prop} {t : Env × Heap}, Stage cx call z n K rem t b → W.Nodup → (∀ x ∈ W, rem x) → (∀ x ∈ W, x < n) → okSeq z W lx → (∀ x ∈ W, ∀ y ∈ befOf z x, rem y → y ∈ W) → (∀ x ∈ W, callAt z x = false) →
    ∃ t', actIdx cx b.nid n z lx t = some t' ∧ Stage cx call z n K (fun j => rem j ∧ j ∉ lx) t' b
  | [], W, rem, t, S, _, _, _, _, _, _ => ⟨t, rfl, by
      have : (fun j => rem j ∧ j ∉ ([] : List Nat)) = rem := by funext j; simp
      rw [this]; exact S⟩
  | x :: l, W, rem, t, S, hnd, hW, hn, hok, hcl, hca => by
    obtain ⟨hx, hready, hok⟩ := hok
    obtain ⟨p, hz⟩ := Z.at (hn x hx)
    obtain ⟨t1, k1, S1⟩ := stage_step Z S hz (hW x hx) (fun y hy hry => hready y (by rw [befOf_eq hz]; exact hy) (hcl x hx y (by rw [befOf_eq hz]; exact hy) hry)) (hca x hx)
    have sub : ∀ {j}, j ∈ W.erase x → j ≠ x ∧ j ∈ W := fun hj => (mem_erase hnd).1 hj
    obtain ⟨t', k2, S2⟩ := stage_run Z l (W.erase x) S1 (hnd.erase x) (fun j hj => ⟨hW j (sub hj).2, (sub hj).1⟩) (fun j hj => hn j (sub hj).2) hok (fun a ha y hy hry => (mem_erase hnd).2 ⟨hry.2, hcl a (sub ha).2 y hy hry.1⟩) (fun j hj => hca j (sub hj).2)
    refine ⟨t', by rw [actIdx_cons hz, k1]; exact k2, ?_⟩
    have : (fun j => rem j ∧ j ∉ x :: l) = fun j => (rem j ∧ j ≠ x) ∧ j ∉ l := by
      funext j
      refine propext ⟨fun ⟨h1, h2⟩ => ⟨⟨h1, fun e => h2 (e ▸ List.mem_cons_self)⟩, fun e => h2 (List.mem_cons_of_mem _ e)⟩, fun ⟨⟨h1, h2⟩, h3⟩ => ⟨h1, fun e => (List.mem_cons.1 e).elim h2 h3⟩⟩
    rw [this]; exact S2

theorem mem_ahead {c : Nat} {p : O × List Nat} (hp : z[c]? = some p) {R E : List Nat} (i : Nat) : i ∈ R.filter (aheadC z c E) ↔ i ∈ R ∧ (i ∈ p.2 ∨ i ∈ E) := by
  rw [List.mem_filter, aheadC, befOf_eq hp, Bool.or_eq_true, List.contains_iff_mem, List.contains_iff_mem]
theorem mem_left {c : Nat} {p : O × List Nat} (hp : z[c]? = some p) {R E : List Nat} (i : Nat) : i ∈ R.filter (leftC z c E) ↔ i ∈ R ∧ i ≠ c ∧ ¬ (i ∈ p.2 ∨ i ∈ E) := by
  rw [List.mem_filter, leftC, aheadC, befOf_eq hp, Bool.and_eq_true, Bool.not_eq_true', Bool.not_eq_true', Bool.or_eq_false_iff]
  simp only [List.contains_eq_mem, decide_eq_false_iff_not, not_or]
  constructor
  · rintro ⟨h1, h2, h3⟩; exact ⟨h1, Nat.ne_of_beq_eq_false h2, h3⟩
  · rintro ⟨h1, h2, h3⟩
    refine ⟨h1, ?_, h3⟩
    cases e : Nat.beq i c with
    | false => rfl
    | true => exact absurd (Nat.eq_of_beq_eq_true e) h2
theorem mem_free {c : Nat} {R E G : List Nat} (i : Nat) : i ∈ R.filter (freeC z c E G) ↔ i ∈ R.filter (leftC z c E) ∧ c ∉ befOf z i ∧ i ∉ G ∧ ∀ g ∈ G, g ∉ befOf z i := by
  rw [List.mem_filter, List.mem_filter, freeC, Bool.and_eq_true, Bool.and_eq_true, Bool.and_eq_true]
  simp only [Bool.not_eq_true', List.contains_eq_mem, decide_eq_false_iff_not, List.any_eq_false, decide_eq_true_eq, and_assoc]
  exact ⟨fun ⟨a, b, c, d, e⟩ => ⟨a, b, c, d, fun g hg hb => e g hb hg⟩, fun ⟨a, b, c, d, e⟩ => ⟨a, b, c, d, fun x hx hg => e x hg hx⟩⟩

theorem sub_init (Z : Tidy z n) {fuel : Nat} {R : List Nat} {b : FSt} {c : Nat} {p : O × List Nat} {E G : List Nat} (hp : z[c]? = some p) (hcR : c ∈ R) (hs : R.Pairwise (· < ·)) (hn : ∀ i ∈ R, i < n) (hcE : c ∉ E) (hE : ∀ i ∈ E, ∀ y ∈ befOf z i, y ∈ E) (h : walkOne cx call z n K (walk cx call z n K fuel) R b c (E, G)) :
    Sub cx call z n K (· ∈ R) (b.env, b.h) b c p E G := by
  unfold walkOne at h
  split at h
  · rename_i hcond
    simp only [Bool.and_eq_true] at hcond
    obtain ⟨⟨hA, hU⟩, hd⟩ := hcond
    split at h
    · rename_i p' sA hp' hsA
      rw [hp] at hp'
      cases hp'
      split at h
      · rename_i sB hsB
        have hcp : c ∉ p.2 := fun h => by have := Z.lt c p hp c h; omega
        refine .mk (fuel := fuel) (la := R.filter (aheadC z c E)) (U := R.filter (freeC z c E G)) (lx := []) (lb := R.filter fun i => leftC z c E i && !freeC z c E G i) (R1 := R.filter (leftC z c E)) (hs.filter _) (hs.filter _) (hs.filter _) (fun i => ?_) (fun i hi => ?_) (fun i hi => ?_) (fun i hi => ?_) (fun i => ?_) (fun i hi => hn i ((mem_left hp i).1 hi).1) (distinct_spec (sorted_nodup (hs.filter _)) hd) trivial hsA rfl hsB ?_
        · rw [mem_ahead hp, show eraseAll (R.filter (freeC z c E G)) [] = R.filter (freeC z c E G) from rfl]
          constructor
          · intro hi
            by_cases h1 : i ∈ p.2 ∨ i ∈ E
            · exact .inl ⟨hi, h1⟩
            by_cases h2 : i = c
            · exact .inr (.inr (.inl h2))
            have h3 := (mem_left hp i).2 ⟨hi, h2, h1⟩
            by_cases h5 : freeC z c E G i = true
            · exact .inr (.inl (List.mem_filter.2 ⟨hi, h5⟩))
            · exact .inr (.inr (.inr (List.mem_filter.2 ⟨hi, by rw [(List.mem_filter.1 h3).2]; simpa using h5⟩)))
          · rintro (h1 | h1 | h1 | h1)
            · exact h1.1
            · exact (List.mem_filter.1 h1).1
            · exact h1 ▸ hcR
            · exact (List.mem_filter.1 h1).1
        · obtain ⟨h1, h2⟩ := (mem_ahead hp i).1 hi
          refine ⟨h2, by simpa using List.all_eq_true.1 hA i hi, fun e => by subst e; exact h2.elim hcp hcE, hn i h1, fun y hy => ?_⟩
          rcases h2 with h2 | h2
          · obtain ⟨q, hq⟩ := Z.at (hn i h1)
            rw [befOf_eq hq] at hy
            exact .inl (Z.trans c p i q hp h2 hq y hy)
          · exact .inr (hE i h2 y hy)
        · obtain ⟨h1, h2, h3, h4⟩ := (mem_free i).1 hi
          obtain ⟨_, h5, h6⟩ := (mem_left hp i).1 h1
          exact ⟨h5, h6, h2, List.all_eq_true.1 hU i hi, h3, h4⟩
        · obtain ⟨h1, h2⟩ := List.mem_filter.1 hi
          rw [Bool.and_eq_true] at h2
          have h3 := (mem_left hp i).1 (List.mem_filter.2 ⟨h1, h2.1⟩)
          refine ⟨h3.2.1, Classical.byContradiction fun hno => ?_⟩
          simp only [not_or, not_exists, not_and] at hno
          have := (mem_free (G := G) i).2 ⟨List.mem_filter.2 ⟨h1, h2.1⟩, hno.1, hno.2.1, hno.2.2⟩
          have h4 := h2.2
          rw [(List.mem_filter.1 this).2] at h4
          cases h4
        · rw [List.mem_filter, List.mem_filter, List.mem_filter]
          constructor
          · rintro ⟨h1, h2⟩
            by_cases h5 : freeC z c E G i = true
            · exact .inl ⟨h1, h5⟩
            · exact .inr ⟨h1, by simp [h2, h5]⟩
          · rintro (⟨h1, h2⟩ | ⟨h1, h2⟩)
            · refine ⟨h1, ?_⟩
              rw [freeC, Bool.and_eq_true, Bool.and_eq_true, Bool.and_eq_true] at h2
              exact h2.1.1.1
            · rw [Bool.and_eq_true] at h2
              exact ⟨h1, h2.1⟩
        · refine cast ?_ h
          congr 1
          · funext st1
            refine propext ⟨fun h => ?_, fun h => ?_⟩
            · split at h
              · rename_i sF hsF
                split at h
                · rename_i hsm; exact ⟨sF, hsF, hsm, h⟩
                · exact h.elim
              · exact h.elim
            · obtain ⟨sF, hsF, hsm, hw⟩ := h
              simp only [hsF, hsm, if_true]
              exact hw
          · funext x st
            refine propext ⟨fun h => ?_, fun h => ?_⟩
            · split at h
              · rename_i he; exact ⟨List.isEmpty_iff.1 he, h⟩
              · exact h.elim
            · rw [if_pos (List.isEmpty_iff.2 h.1)]; exact h.2
      · exact h.elim
    · exact h.elim
  · exact h.elim

/-- At first. -/
theorem stage_init (Z : Tidy z n) : ∀ {fuel : Nat} {R : List Nat} {b : FSt}, R.Pairwise (· < ·) → (∀ i ∈ R, i < n) → walk cx call z n K fuel R b → Stage cx call z n K (· ∈ R) (b.env, b.h) b
  | 0, R, b, _, _, h => h.elim
  | fuel + 1, R, b, hs, hn, h => by
    simp only [walk] at h
    split at h
    · rename_i hf
      split at h
      · rename_i fin hfin
        exact .last hs (fun _ => .rfl) hn (fun i hi => by simpa using List.find?_eq_none.1 hf i hi) hfin h
      · exact h.elim
    · rename_i c hf
      split at h
      · exact h.elim
      · rename_i hne
        have hcall : callAt z c = true := by simpa using List.find?_some hf
        have hcR : c ∈ R := List.mem_of_find?_eq_some hf
        obtain ⟨p, hp⟩ := Z.at (hn c hcR)
        unfold optsC at h hne
        split at h
        · exact .plain hp hcall hcR (sub_init Z hp hcR hs hn (by simp) (fun i hi => by cases hi) (h _ (List.mem_map.2 ⟨_, List.mem_singleton.2 rfl, rfl⟩)))
        · rename_i u hu
          have hmem : u ∈ R.filter fun i => freeC z c [] [] i && !calmAt z i := by rw [hu]; simp
          obtain ⟨m1, m2⟩ := List.mem_filter.1 hmem
          rw [Bool.and_eq_true] at m2
          obtain ⟨k1, k2, _, _⟩ := (mem_free u).1 (List.mem_filter.2 ⟨m1, m2.1⟩)
          obtain ⟨_, k3, k4⟩ := (mem_left hp u).1 k1
          split at h
          · rename_i hcu
            simp only [hu, if_pos hcu] at hne
            exact absurd rfl hne
          · rename_i hcu
            obtain ⟨q, hq⟩ := Z.at (hn u m1)
            refine .two (u := u) hp hcall hcR (by simpa using hcu) (fun hnu => absurd m1 hnu) (fun _ => sub_init Z hp hcR hs hn (by simp) (fun i hi => by cases hi) (h _ (List.mem_map.2 ⟨([], [u]), by simp, rfl⟩)))
              (sub_init Z hp hcR hs hn (fun hc => ?_) (fun i hi y hy => ?_) (h _ (List.mem_map.2 ⟨(u :: befOf z u, []), by simp, rfl⟩)))
            · rcases List.mem_cons.1 hc with e | hc
              · exact k3 e.symm
              · exact k2 hc
            · rcases List.mem_cons.1 hi with rfl | hi
              · exact List.mem_cons_of_mem _ hy
              · refine List.mem_cons_of_mem _ ?_
                rw [befOf_eq hq] at hi ⊢
                have hlt := Z.lt u q hq i hi
                obtain ⟨r, hr⟩ := Z.at (i := i) (by have := hn u m1; omega)
                rw [befOf_eq hr] at hy
                exact Z.trans u q i r hq hi hr y hy
        · rename_i h1 h2
          split at hne
          · rename_i he; exact absurd he h1
          · rename_i u he; exact absurd he (h2 u)
          · exact absurd rfl hne

/-- The call is made. -/
theorem sub_call (Z : Tidy z n) {rem : Nat → Prop} {s : Env × Heap} {b : FSt} {c : Nat} {p : O × List Nat} {E G : List Nat} (hz : z[c]? = some p) (S : Sub cx call z n K rem s b c p E G) (hr : ∀ x ∈ p.2, ¬ rem x) (hE : ∀ x ∈ E, ¬ rem x) :
    (wanted s.1 p.1.guard = false ∧ ∃ b' : FSt, b'.nid = b.nid ∧ b'.dfr = b.dfr ∧ Stage cx call z n K (fun j => rem j ∧ j ≠ c) (putDst s.1 p.1.dst V.undef, s.2) b') ∨
    (wanted s.1 p.1.guard = true ∧ ∃ f args f' args' Kc, p.1.i = .call f args ∧ resolve (f.val s.1) (args.map (X.val s.1)) = some (f', args') ∧ call f' args' s.2 (b.nid + n) Kc ∧
      (∀ v h nid, Kc (.returned v) h nid → ∃ b' : FSt, b'.nid = nid ∧ b'.dfr = b.dfr ∧ Stage cx call z n K (fun j => rem j ∧ j ≠ c) (putDst s.1 p.1.dst v, h) b') ∧
      (∀ ch h nid, Kc (.panicked ch) h nid → K (.panic ch) { b with env := s.1, h, nid })) := by
  cases S with
  | @mk fuel la U lx lb R1 sA s' sB hla hU hR1 hrem hA hUf hlb hR hRn hd hok e1 e2 e3 hcall =>
    have hnU := sorted_nodup hU
    have hla0 : la = [] := by
      cases la with
      | nil => rfl
      | cons x l =>
        have h1 := (hrem x).2 (.inl List.mem_cons_self)
        exact absurd h1 ((hA x List.mem_cons_self).1.elim (hr x) (hE x))
    subst hla0
    simp only [actIdx, Option.some.injEq] at e1
    subst e1
    have lxU : ∀ x ∈ lx, x ∈ U := okSeq_mem hok
    have ltU : ∀ j ∈ U, j < n := fun j hj => hRn j ((hR j).2 (.inl hj))
    have hconf : ∀ j ∈ U, ∃ r, z[j]? = some r ∧ conflict r.1 p.1 = false := fun j hj => by
      obtain ⟨r, hr⟩ := Z.at (ltU j hj)
      obtain ⟨k1, k2, k3, _⟩ := hUf j hj
      rw [befOf_eq hr] at k3
      exact ⟨r, hr, Z.free hz hr k1 (fun h => k2 (.inl h)) k3⟩
    have hlook : ∀ t ∈ p.1.looks, s.1.at t = sA.1.at t := fun t ht => actIdx_keeps (fun j hj hd' => by
      obtain ⟨r, hr, hcf⟩ := hconf j (lxU j hj)
      rw [dstOf_eq hr] at hd'
      exact (conflict_false hcf).1 t hd' ht) e2
    have hheap : s.2 = sA.2 := calm_heap (fun j hj => (hUf j (lxU j hj)).2.2.2.1) e2
    have hdst : ∀ x ∈ U, ∀ a, p.1.dst = some a → dstOf z x ≠ some a := fun x hx a ha hd' => by
      obtain ⟨r, hr, hcf⟩ := hconf x hx
      rw [dstOf_eq hr] at hd'
      exact (conflict_false hcf).2.2.1 a hd' ha
    have notlb : ∀ j ∈ U, j ∉ lb := fun j hj hl => by
      obtain ⟨_, _, k3, _, k5, k6⟩ := hUf j hj
      rcases (hlb j hl).2 with h | h | ⟨g, hg, h⟩
      · exact k3 h
      · exact k5 h
      · exact k6 g hg h
    have next : ∀ (st1 : FSt) (v : V) (h1 : Heap), st1.env = putDst sA.1 p.1.dst v → st1.h = h1 → (∃ sF, actIdx cx st1.nid n z U (st1.env, st1.h) = some sF ∧ sameAt z U sB.1 sF.1 = true ∧ walk cx call z n K fuel R1 st1) →
        Stage cx call z n K (fun j => rem j ∧ j ≠ c) (putDst s.1 p.1.dst v, h1) st1 := fun st1 v h1 he hh ⟨sF, hF, hsm, hw⟩ => by
      have S0 := stage_init Z hR1 hRn hw
      obtain ⟨t', k1, k2⟩ := stage_run Z lx U S0 hnU (fun x hx => (hR x).2 (.inl hx)) ltU hok (fun x hx y hy hry => by
        rcases (hR y).1 hry with h | h
        · exact h
        · exfalso
          obtain ⟨qx, hqx⟩ := Z.at (ltU x hx)
          obtain ⟨qy, hqy⟩ := Z.at (hRn y hry)
          obtain ⟨_, _, k3, _, _, k6⟩ := hUf x hx
          rw [befOf_eq hqx] at k3 k6 hy
          rcases (hlb y h).2 with k4 | k4 | ⟨g, hg, k4⟩
          · rw [befOf_eq hqy] at k4
            exact k3 (Z.trans x qx y qy hqx hy hqy c k4)
          · exact k6 y k4 hy
          · rw [befOf_eq hqy] at k4
            exact k6 g hg (Z.trans x qx y qy hqx hy hqy g k4)) (fun x hx => calm_call (hUf x hx).2.2.2.1)
      rw [he, hh] at hF k1
      have := replay Z lx U sA hU ltU hok (fun j hj => (hUf j hj).2.2.2.1) hd hdst e2 e3 hF (fun x hx t ht => by
        have := List.all_eq_true.1 hsm x hx
        simp only [ht] at this
        exact V.eqA_eq _ _ this)
      rw [k1] at this
      cases this
      have hpred : (fun j => j ∈ R1 ∧ j ∉ lx) = fun j => rem j ∧ j ≠ c := by
        funext j
        refine propext ?_
        rw [hR j, hrem j, eraseAll_mem hnU]
        constructor
        · rintro ⟨h1 | h1, h2⟩
          · exact ⟨.inr (.inl ⟨h2, h1⟩), (hUf j h1).1⟩
          · exact ⟨.inr (.inr (.inr h1)), (hlb j h1).1⟩
        · rintro ⟨h1 | h1 | h1 | h1, h2⟩
          · cases h1
          · exact ⟨.inl h1.2, h1.1⟩
          · exact absurd h1 h2
          · exact ⟨.inr h1, fun hj => notlb j (lxU j hj) h1⟩
      rw [← hpred]
      exact k2
    unfold callOp at hcall
    have hw : wanted s.1 p.1.guard = wanted sA.1 p.1.guard := wanted_congr fun t w hg => hlook t (by simp [O.looks, hg])
    simp only at hcall
    split at hcall
    · rename_i hwt
      refine .inr ⟨by rw [hw]; exact hwt, ?_⟩
      split at hcall
      · rename_i f args hi
        split at hcall
        · rename_i f' args' hres
          have h4 : f.val s.1 = f.val sA.1 := val_congr fun t ht => hlook t (by simp [O.looks, hi, I.tmps, ht])
          have h5 : args.map (X.val s.1) = args.map (X.val sA.1) := vals_congr fun t ht => hlook t (by simp [O.looks, hi, I.tmps, ht])
          refine ⟨f, args, f', args', _, hi, by rw [h4, h5]; exact hres, by rw [hheap]; exact hcall, fun v h nid hk => ?_, fun ch h nid hk => ?_⟩
          · exact ⟨{ env := putDst sA.1 p.1.dst v, h := h, nid := nid, dfr := b.dfr }, rfl, rfl, next _ v h rfl rfl hk⟩
          · obtain ⟨hU0, hk⟩ := hk
            subst hU0
            have : lx = [] := by
              cases lx with
              | nil => rfl
              | cons x l => exact absurd (lxU x List.mem_cons_self) (by simp)
            subst this
            simp only [actIdx, Option.some.injEq] at e2
            subst e2
            exact hk
        · exact hcall.elim
      · exact hcall.elim
    · rename_i hwt
      refine .inl ⟨by rw [hw]; exact Bool.eq_false_iff.2 hwt, { b with env := putDst sA.1 p.1.dst V.undef, h := sA.2 }, rfl, rfl, ?_⟩
      rw [hheap]
      exact next { b with env := putDst sA.1 p.1.dst V.undef, h := sA.2 } V.undef sA.2 rfl rfl hcall

theorem sub_same {rem : Nat → Prop} {s : Env × Heap} {b : FSt} {c : Nat} {p : O × List Nat} {E G : List Nat} (S : Sub cx call z n K rem s b c p E G) (hG : ∀ g ∈ G, rem g ∧ callAt z g = false) (hremc : rem c) {c' : Nat} {q : O × List Nat} (hz : z[c']? = some q) (hc : rem c') (hr : ∀ x ∈ q.2, ¬ rem x) (hcc : callAt z c' = true) : c' = c := by
  cases S with
  | @mk fuel la U lx lb R1 sA s' sB hla hU hR1 hrem hA hUf hlb hR hRn hd hok e1 e2 e3 hcall =>
    rcases (hrem c').1 hc with h | h | h | h
    · rw [(hA c' h).2.1] at hcc; cases hcc
    · have := calm_call (hUf c' ((eraseAll_mem (sorted_nodup hU)).1 h).2).2.2.2.1
      rw [hcc] at this; cases this
    · exact h
    · exfalso
      rcases (hlb c' h).2 with h | h | ⟨g, hg, h⟩
      · rw [befOf_eq hz] at h; exact hr c h hremc
      · rw [(hG c' h).2] at hcc; cases hcc
      · rw [befOf_eq hz] at h; exact hr g h (hG g hg).1

theorem stage_call (Z : Tidy z n) {rem : Nat → Prop} {s : Env × Heap} {b : FSt} (S : Stage cx call z n K rem s b) {c : Nat} {p : O × List Nat} (hz : z[c]? = some p) (hc : rem c) (hr : ∀ x ∈ p.2, ¬ rem x) (hcc : callAt z c = true) :
    (wanted s.1 p.1.guard = false ∧ ∃ b' : FSt, b'.nid = b.nid ∧ b'.dfr = b.dfr ∧ Stage cx call z n K (fun j => rem j ∧ j ≠ c) (putDst s.1 p.1.dst V.undef, s.2) b') ∨
    (wanted s.1 p.1.guard = true ∧ ∃ f args f' args' Kc, p.1.i = .call f args ∧ resolve (f.val s.1) (args.map (X.val s.1)) = some (f', args') ∧ call f' args' s.2 (b.nid + n) Kc ∧
      (∀ v h nid, Kc (.returned v) h nid → ∃ b' : FSt, b'.nid = nid ∧ b'.dfr = b.dfr ∧ Stage cx call z n K (fun j => rem j ∧ j ≠ c) (putDst s.1 p.1.dst v, h) b') ∧
      (∀ ch h nid, Kc (.panicked ch) h nid → K (.panic ch) { b with env := s.1, h, nid })) := by
  cases S with
  | @last l fin h1 h2 h3 h4 h5 h6 =>
    have := h4 c ((h2 c).1 hc)
    rw [hcc] at this
    cases this
  | @plain c' q hzc hcc' hremc S =>
    have := sub_same S (fun g hg => by cases hg) hremc hz hc hr hcc
    subst this
    rw [hz] at hzc
    cases hzc
    exact sub_call Z hz S hr (fun x hx => by cases hx)
  | @two c' u q hzc hcc' hremc hcu hdown S T =>
    by_cases hu : rem u
    · have := sub_same (S hu) (fun g hg => by rcases List.mem_singleton.1 hg with rfl; exact ⟨hu, hcu⟩) hremc hz hc hr hcc
      subst this
      rw [hz] at hzc
      cases hzc
      exact sub_call Z hz (S hu) hr (fun x hx => by cases hx)
    · have := sub_same T (fun g hg => by cases hg) hremc hz hc hr hcc
      subst this
      rw [hz] at hzc
      cases hzc
      exact sub_call Z hz T hr (fun x hx => by
        rcases List.mem_cons.1 hx with rfl | hx
        · exact hu
        · exact hdown hu x hx)
end
end Go.Abs

/-
  ABS, part 29: regions whose order is open are followed.
-/
namespace Go.Abs
open Go Go.RowKit
set_option linter.unusedSectionVars false
variable [Syms]

/-! What comes ahead. -/
theorem befs_spec : ∀ {l : List Oper} {acc bs : List (List Nat)}, befs l acc = some bs → bs.length = acc.length + l.length ∧ (∀ k : Nat, k < acc.length → bs[k]? = acc[k]?) ∧
    ∀ (k : Nat) (o : Oper), l[k]? = some o → ∃ bef, bs[acc.length + k]? = some bef ∧ (∀ e ∈ o.after.toList, Region.binds .any e = true → e.on < acc.length + k ∧ e.on ∈ bef ∧ (∀ x ∈ bs.getD e.on [], x ∈ bef)) ∧
      ∀ x ∈ bef, ∃ e ∈ o.after.toList, Region.binds .any e = true ∧ (x = e.on ∨ x ∈ bs.getD e.on [])
  | [], acc, bs, h => by
    simp only [befs] at h; cases h
    exact ⟨rfl, fun _ _ => rfl, fun k o h => by simp at h⟩
  | o :: l, acc, bs, h => by
    simp only [befs] at h
    split at h
    · rename_i hon
      obtain ⟨h1, h2, h3⟩ := befs_spec h
      simp only [List.length_append, List.length_cons, List.length_nil, Nat.zero_add] at h1 h2 h3
      refine ⟨by simp only [List.length_cons]; omega, fun k hk => ?_, fun k o' hk => ?_⟩
      · rw [h2 k (by omega), List.getElem?_append_left hk]
      · cases k with
        | zero =>
          simp only [List.getElem?_cons_zero, Option.some.injEq] at hk
          subst hk
          refine ⟨_, by rw [Nat.add_zero, h2 _ (by omega), List.getElem?_append_right (Nat.le_refl _), Nat.sub_self]; rfl, fun e he hb => ?_, fun x hx => ?_⟩
          rotate_left
          · rw [List.mem_eraseDups] at hx
            rcases List.mem_append.1 hx with hx | hx
            · obtain ⟨e, he, rfl⟩ := List.mem_map.1 hx
              obtain ⟨he1, he2⟩ := List.mem_filter.1 he
              exact ⟨e, he1, he2, .inl rfl⟩
            · obtain ⟨y, hy, hxy⟩ := List.mem_flatMap.1 hx
              have hlt : y < acc.length := by simpa using List.all_eq_true.1 hon _ hy
              obtain ⟨e, he, rfl⟩ := List.mem_map.1 hy
              obtain ⟨he1, he2⟩ := List.mem_filter.1 he
              refine ⟨e, he1, he2, .inr ?_⟩
              have : bs[e.on]? = acc[e.on]? := by rw [h2 _ (by omega), List.getElem?_append_left hlt]
              simpa [List.getD, this] using hxy
          have hmem : e.on ∈ (o.after.toList.filter fun e => Region.binds .any e).map (·.on) := List.mem_map.2 ⟨e, List.mem_filter.2 ⟨he, hb⟩, rfl⟩
          have hlt : e.on < acc.length := by simpa using List.all_eq_true.1 hon _ hmem
          refine ⟨by omega, ?_, fun x hx => ?_⟩
          · rw [List.mem_eraseDups]; exact List.mem_append_left _ hmem
          · rw [List.mem_eraseDups]
            refine List.mem_append_right _ (List.mem_flatMap.2 ⟨_, hmem, ?_⟩)
            have : bs[e.on]? = acc[e.on]? := by rw [h2 _ (by omega), List.getElem?_append_left hlt]
            simpa [List.getD, this] using hx
        | succ k =>
          simp only [List.getElem?_cons_succ] at hk
          obtain ⟨bef, hb, hall, hback⟩ := h3 k o' hk
          refine ⟨bef, by rw [← hb]; congr 1; omega, fun e he hbe => ?_, hback⟩
          obtain ⟨k1, k2, k3⟩ := hall e he hbe
          exact ⟨by omega, k2, k3⟩
    · cases h

/-- Only what comes ahead comes ahead. -/
theorem befs_lt : ∀ {l : List Oper} {acc bs : List (List Nat)}, befs l acc = some bs → (∀ (k : Nat) bef, acc[k]? = some bef → ∀ x ∈ bef, x < k) → ∀ (k : Nat) bef, bs[k]? = some bef → ∀ x ∈ bef, x < k
  | [], acc, bs, h, H => by simp only [befs] at h; cases h; exact H
  | o :: l, acc, bs, h, H => by
    simp only [befs] at h
    split at h
    · rename_i hon
      refine befs_lt h fun k bef hk x hx => ?_
      rcases Nat.lt_or_ge k acc.length with hlt | hge
      · rw [List.getElem?_append_left hlt] at hk; exact H k bef hk x hx
      · rw [List.getElem?_append_right hge] at hk
        have hk0 : k - acc.length = 0 := by
          rcases Nat.eq_zero_or_pos (k - acc.length) with h | h
          · exact h
          · rw [List.getElem?_eq_none (by simp; omega)] at hk; cases hk
        rw [hk0] at hk
        simp only [List.getElem?_cons_zero, Option.some.injEq] at hk
        subst hk
        rw [List.mem_eraseDups] at hx
        have hon' : ∀ y ∈ (o.after.toList.filter fun e => Region.binds .any e).map (·.on), y < acc.length := fun y hy => by simpa using List.all_eq_true.1 hon y hy
        rcases List.mem_append.1 hx with hx | hx
        · have := hon' x hx; omega
        · obtain ⟨y, hy, hxy⟩ := List.mem_flatMap.1 hx
          have hy' := hon' y hy
          cases hay : acc[y]? with
          | none => simp [List.getD, hay] at hxy
          | some by' =>
            simp [List.getD, hay] at hxy
            have := H y by' hay x hxy
            omega
    · cases h

theorem ordered_spec : ∀ {z : List (O × List Nat)} {n : Nat} {before : List O}, ordered n z before = true → before.length = n →
    ∀ (k : Nat) o bef, z[k]? = some (o, bef) → ∀ (i : Nat) p, (before ++ z.map (·.1))[i]? = some p → i < n + k → conflict p o = false ∨ i ∈ bef
  | [], n, before, h, hl, k, o, bef, hk => by simp at hk
  | (o', bef') :: z, n, before, h, hl, k, o, bef, hk => by
    simp only [ordered, Bool.and_eq_true] at h
    intro i p hp hi
    cases k with
    | zero =>
      simp only [List.getElem?_cons_zero, Option.some.injEq, Prod.mk.injEq] at hk
      obtain ⟨rfl, rfl⟩ := hk
      have h1 := List.all_eq_true.1 h.1 i (List.mem_range.2 (by omega))
      have h2 : before[i]? = some p := by rw [List.getElem?_append_left (by omega)] at hp; exact hp
      rw [h2] at h1
      simp only [Bool.or_eq_true, Bool.not_eq_true', List.contains_iff_mem] at h1
      exact h1
    | succ k =>
      simp only [List.getElem?_cons_succ] at hk
      refine ordered_spec h.2 (by simp [hl]) k o bef hk i p ?_ (by omega)
      simpa using hp

/-- A region's text, compiled: the first k operations in any order, then the others one by one. -/
structure Region' (P : Program) (gl : Nat → Option (List V)) (N : Nat) (ops : Array Oper) (z : List (O × List Nat)) (k : Nat) : Prop where
  size : z.length = ops.size
  kle : k ≤ ops.size
  oper : ∀ (i : Nat) o' bef, z[i]? = some (o', bef) → ∃ o, ops[i]? = some o ∧ cOper P gl ops o = some o' ∧ (∀ e ∈ o.after.toList, Region.binds .any e = true → e.on ∈ bef ∧ ∀ p b, z[e.on]? = some (p, b) → ∀ x ∈ b, x ∈ bef) ∧
    ∀ x ∈ bef, ∃ e ∈ o.after.toList, Region.binds .any e = true ∧ (x = e.on ∨ ∃ p b, z[e.on]? = some (p, b) ∧ x ∈ b)
  lt : ∀ (i : Nat) o' bef, z[i]? = some (o', bef) → ∀ x ∈ bef, x < i
  apart : ∀ (i j : Nat) o bef p bj, i < k → z[i]? = some (o, bef) → z[j]? = some (p, bj) → j < i → conflict p o = false ∨ j ∈ bef
  dst : ∀ (i : Nat) o' bef, z[i]? = some (o', bef) → ∀ d, o'.dst = some d → d < N
  chain : ∀ (i : Nat) o' bef, k ≤ i → z[i]? = some (o', bef) → ∀ x, x < i → x ∈ bef

theorem chained_spec : ∀ {l : List (O × List Nat)} {k : Nat}, chained k l = true → ∀ (j : Nat) o bef, l[j]? = some (o, bef) → ∀ x, x < k + j → x ∈ bef
  | [], k, h, j, o, bef, hj, x, hx => by simp at hj
  | (o', bef') :: l, k, h, j, o, bef, hj, x, hx => by
    simp only [chained, Bool.and_eq_true] at h
    cases j with
    | zero =>
      simp only [List.getElem?_cons_zero, Option.some.injEq, Prod.mk.injEq] at hj
      obtain ⟨rfl, rfl⟩ := hj
      have := List.all_eq_true.1 h.1 x (List.mem_range.2 (by omega))
      simpa using this
    | succ j =>
      simp only [List.getElem?_cons_succ] at hj
      exact chained_spec h.2 j o bef hj x (by omega)

theorem mapM_get {α γ : Type} {f : α → Option γ} : ∀ {l : List α} {r : List γ}, l.mapM f = some r → r.length = l.length ∧ ∀ (i : Nat) y, r[i]? = some y → ∃ x, l[i]? = some x ∧ f x = some y
  | [], r, h => by simp at h; subst h; exact ⟨rfl, fun i y h => by simp at h⟩
  | x :: l, r, h => by
    simp only [List.mapM_cons, Option.pure_def, Option.bind_eq_bind, Option.bind_eq_some_iff, Option.some.injEq] at h
    obtain ⟨y, hy, ys, hys, rfl⟩ := h
    obtain ⟨h1, h2⟩ := mapM_get hys
    refine ⟨by simp [h1], fun i y' hi => ?_⟩
    cases i with
    | zero => simp at hi; subst hi; exact ⟨x, rfl, hy⟩
    | succ i => simp at hi; simpa using h2 i y' hi

section
variable {P : Program} {gl : Nat → Option (List V)} {cx : Ctx}

theorem Region'.of {id N : Nat} {ops : Array Oper} {z1 : List (O × List Nat)} {t1 : List O} (hc : cCode P gl (.region id ops true) = some (.drawn z1 t1)) (hd : ∀ d ∈ z1.filterMap (·.1.dst) ++ t1.filterMap (·.dst), d < N) :
    ∃ z k, z1 = z.take k ∧ t1 = (z.drop k).map (·.1) ∧ z1.length = k ∧ ops.toList.mapM (cOper P gl ops) = some (z.map (·.1)) ∧ Region' P gl N ops z k := by
  simp only [cCode, Option.bind_eq_some_iff] at hc
  obtain ⟨l, hl, bs, hbs, hc⟩ := hc
  split at hc
  · rename_i hcond
    cases hc
    simp only [Bool.and_eq_true, beq_iff_eq] at hcond
    obtain ⟨⟨⟨hk, hord⟩, hch⟩, hsz⟩ := hcond
    have hk := Nat.le_of_ble_eq_true hk
    obtain ⟨h1, h2⟩ := mapM_get hl
    obtain ⟨b1, b2, b3⟩ := befs_spec hbs
    have hlt := befs_lt hbs (fun k bef h => by simp at h)
    simp only [List.length_nil, Nat.zero_add] at b1 b3
    have hzip : ∀ (i : Nat) o' bef, (l.zip bs)[i]? = some (o', bef) → l[i]? = some o' ∧ bs[i]? = some bef := fun i o' bef h => by
      rw [List.getElem?_zip_eq_some] at h; exact h
    have hfst : (l.zip bs).map (·.1) = l := by
      rw [List.map_fst_zip]
      rw [b1, h1]
      exact Nat.le_refl _
    refine ⟨l.zip bs, cutAt (l.zip bs), rfl, rfl, by rw [List.length_take]; omega, by rw [hfst]; exact hl, hsz, by omega, fun i o' bef hz => ?_, fun i o' bef hz => hlt i bef (hzip i o' bef hz).2, fun i j o bef p bj hik hz hz' hji => ?_, fun i o' bef hz d hd' => ?_, fun i o' bef hki hz x hx => ?_⟩
    · obtain ⟨k1, k2⟩ := hzip i o' bef hz
      obtain ⟨o, ho, hco⟩ := h2 i o' k1
      obtain ⟨bef', hb, hall, hback⟩ := b3 i o ho
      rw [k2] at hb; cases hb
      refine ⟨o, by simpa using ho, hco, fun e he hbe => ?_, fun x hx => ?_⟩
      · obtain ⟨_, q2, q3⟩ := hall e he hbe
        refine ⟨q2, fun p b hp x hx => q3 x ?_⟩
        rw [List.getD, (hzip _ _ _ hp).2]; exact hx
      · obtain ⟨e, he, hbe, hx⟩ := hback x hx
        refine ⟨e, he, hbe, hx.imp (fun h => h) fun hx => ?_⟩
        have hlt := (hall e he hbe).1
        have hi : i < l.length := by
          rcases Nat.lt_or_ge i l.length with h | h
          · exact h
          · rw [List.getElem?_eq_none h] at k1; cases k1
        have e1 : e.on < l.length := by omega
        have e2 : e.on < bs.length := by rw [b1, ← h1]; exact e1
        refine ⟨l[e.on], bs[e.on], List.getElem?_zip_eq_some.2 ⟨List.getElem?_eq_getElem e1, List.getElem?_eq_getElem e2⟩, ?_⟩
        simpa [List.getD, e2] using hx
    · refine ordered_spec hord rfl i o bef (by rw [List.getElem?_take, if_pos hik]; exact hz) j p ?_ (by omega)
      simp only [List.nil_append, List.getElem?_map]
      rw [List.getElem?_take, if_pos (by omega), hz']
      rfl
    · refine hd d ?_
      rcases Nat.lt_or_ge i (cutAt (l.zip bs)) with h | h
      · refine List.mem_append_left _ (List.mem_filterMap.2 ⟨(o', bef), List.mem_of_getElem? (i := i) ?_, hd'⟩)
        rw [List.getElem?_take, if_pos h]; exact hz
      · refine List.mem_append_right _ (List.mem_filterMap.2 ⟨o', List.mem_map.2 ⟨(o', bef), List.mem_of_getElem? (i := i - cutAt (l.zip bs)) ?_, rfl⟩, hd'⟩)
        rw [List.getElem?_drop, show cutAt (l.zip bs) + (i - cutAt (l.zip bs)) = i by omega]; exact hz
    · refine chained_spec hch (i - cutAt (l.zip bs)) o' bef ?_ x (by omega)
      rw [List.getElem?_drop, show cutAt (l.zip bs) + (i - cutAt (l.zip bs)) = i by omega]; exact hz
  · cases hc

/-- A state within such a region. -/
structure RCfg (gl : Nat → Option (List V)) (M : Mem) (β : Places) (N nid n : Nat) (w0 : World) (dfr : List Dfr) (L : Array Bool) (s : Env × Heap) (a : Act) (w : World) : Prop where
  globs : Globs gl M
  env : EnvRel M β N s.1 a
  sim : Sim M β s.2.get w0 w
  far : ∀ b, nid + n ≤ b → β b = none
  near : ∀ k, k < n → L.getD k true = false → β (nid + k) = none
  dfr : DfrRel M β dfr a.defers

variable {M0 : Mem} {β0 : Places} {N nid n : Nat} {w0 : World} {dfr : List Dfr}

theorem wanted_rel {M : Mem} {β : Places} {e : Env} {a : Act} (E : EnvRel M β N e a) {ops : Array Oper} {o : Oper} {o' : O} (hc : cOper P gl ops o = some o') : Region.wanted o (yielded ops a.tmps) = Abs.wanted e o'.guard := by
  unfold cOper at hc
  unfold Region.wanted
  split at hc
  · rename_i hg; cases hc; rw [hg]; rfl
  · rename_i j wt hg
    simp only [Option.map_eq_some_iff] at hc
    obtain ⟨t, ht, rfl⟩ := hc
    rw [hg]
    have hr := E.rel t
    rw [Array.getD_eq_getD_getElem?] at hr
    have no : (∀ b, e.at t ≠ .bool b) → Abs.wanted e (some (t, wt)) = false := fun hnb => by
      simp only [Abs.wanted]
    simp only [yielded, ht, Option.bind_some]
    cases hq : a.tmps[t]? with
    | none =>
      rw [hq, Option.getD_none] at hr
      rw [no fun b hb => by rw [hb] at hr; simp only [Rel] at hr; cases hr]
      exact beq_eq_false_iff_ne.2 (fun h => by cases h)
    | some c =>
      rw [hq, Option.getD_some] at hr
      by_cases hb : ∃ b, c = .bool b
      · obtain ⟨b, rfl⟩ := hb
        simp only [Abs.wanted, rel_bool hr]
        cases b <;> cases wt <;> decide
      · rw [no fun b hb' => by rw [hb'] at hr; simp only [Rel] at hr; exact hb ⟨b, hr⟩]
        cases c <;> first | rfl | (exact absurd ⟨_, rfl⟩ hb)

theorem RCfg.land {M : Mem} {β : Places} {L : Array Bool} {s : Env × Heap} {a : Act} {w : World} (C : RCfg gl M β N nid n w0 dfr L s a w) {i : Nat} {M' : Mem} {β' : Places} {h' : Heap} {w' : World} (hM : M.le M') (hβ : β.le β') (hsame : ∀ b, b ≠ nid + i → β' b = β b) (hi : i < n) (hL : n ≤ L.size)
    (S : Sim M' β' h'.get w0 w') {d : Option Nat} (hd : ∀ t, d = some t → t < N) {v : V} {c : Value} (hr : Rel M' β' v c) :
    RCfg gl M' β' N nid n w0 dfr (L.setIfInBounds i true) (putDst s.1 d v, h') (a.put d c) w' where
  globs := C.globs.mono hM
  env := (C.env.mono hM hβ).put hd hr
  sim := S
  far b hb := by rw [hsame b (by omega)]; exact C.far b hb
  near k hk hl := by
    have hki : k ≠ i := fun e => by
      subst e
      rw [Array.getD_eq_getD_getElem?, Array.getElem?_setIfInBounds, if_pos rfl, if_pos (by omega)] at hl
      simp at hl
    rw [hsame _ (by omega)]
    refine C.near k hk ?_
    rw [Array.getD_eq_getD_getElem?, Array.getElem?_setIfInBounds, if_neg (Ne.symm hki)] at hl
    rw [Array.getD_eq_getD_getElem?]; exact hl
  dfr := by
    have := C.dfr.mono hM hβ
    cases d <;> simpa [Act.put] using this

/-- One operation. -/
theorem rop_ok {r : Option Nat} (H : CtxOk P gl cx) {ops : Array Oper} {z : List (O × List Nat)} (R : Region' P gl N ops z n) {i : Nat} {o' : O} {bef : List Nat} (hz : z[i]? = some (o', bef)) (hi : i < n) {M : Mem} {β : Places} {L : Array Bool} (hL : n ≤ L.size) (hun : L.getD i true = false)
    {s s' : Env × Heap} {a : Act} {w : World} (C : RCfg gl M β N nid n w0 dfr L s a w) (hM : M0.on w0.heap.size M) (hβ : β0.le β) (hact : actOp cx nid n i o' bef s = some s') {Q : Exit → Act → World → Prop} {K : Act → World → Prop}
    (hK : ∀ M' β' a' w', M0.on w0.heap.size M' → β0.le β' → RCfg gl M' β' N nid n w0 dfr (L.setIfInBounds i true) s' a' w' → K a' w') : wpOpIn (fence r) 0 P ops Q i K a w := by
  obtain ⟨o, ho, hc, _, _⟩ := R.oper i o' bef hz
  have hd := R.dst i o' bef hz
  obtain ⟨hop, hdst⟩ := cOper_spec hc
  have hw := wanted_rel C.env hc
  have hg : ∀ b q, seen s.2 nid n bef b = some q → s.2.get b = some q := fun b q h => by
    unfold seen at h
    split at h
    · cases h
    · exact h
  rw [actOp_eff] at hact
  simp only [Option.map_eq_some_iff] at hact
  obtain ⟨eff, heff, rfl⟩ := hact
  unfold wpOpIn
  simp only [ho, hw]
  unfold effOf at heff
  split at heff
  · rename_i hwt
    rw [if_pos hwt]
    refine ⟨fun _ _ => trivial, ?_⟩
    have hsem : (∀ c, o.op ≠ .defer c) → o.semAt r a.eval = execOp a.eval o := o.semAt_eq r a.eval
    show o.uponIn (fence r) 0 P a _ _ ((o.semAt r a.eval).run P w)
    split at heff
    · rename_i fx as hi'
      rw [hi'] at hop
      obtain ⟨c, f, hoc, hcal, hfx, has⟩ := cOp_call (hop.resolve_right (fun h => by cases h))
      split at heff
      · rename_i f' args hres
        obtain ⟨first, captured, hrun, hrel⟩ := resolve_rel (P := P) C.globs C.env (t := o.type) hfx has hcal hres
        split at heff
        · rename_i F hF
          simp only [Option.map_eq_some_iff] at heff
          obtain ⟨v, hv, rfl⟩ := heff
          have hspec := H.sum f' F hF
          have hcf : (execOp a.eval o).run P w = (callFunc f' ((first ++ c.args.map a.eval) ++ captured)).run P w := by
            simp only [execOp, hoc, Sem.run_bind, hrun, Result.andThen_ok, invoke]
          have hc2 := callSum_ok hspec C.globs C.sim hg hrel hv
          simp only [Array.toArray_toList] at hc2
          rw [hsem (fun c h => by rw [hoc] at h; cases h), hcf]
          rcases hc2 with ⟨⟨fn, hfn, hbody, hname⟩, hcalls⟩ | ⟨cv, w', hrunc, M', c', hcv, k1, k2, k3, k4⟩
          · have hex : (callFunc f' ((first ++ c.args.map a.eval) ++ captured)).run P w = .ok (.enter f' ((first ++ c.args.map a.eval) ++ captured)) w := by
              simp only [Sem.run_bind, Result.andThen_ok, callFunc, run_program, hfn, hname, hbody, Bool.false_eq_true, if_false, Sem.run_pure]
            rw [hex, Oper.uponIn_enter]
            refine ⟨(fun h => by cases h), callsIn_free (hcalls.mono ?_)⟩
            rintro e w' ⟨M', c', rfl, k1, k2, k3, k4⟩
            rw [← hdst]
            exact hK M' β _ _ (hM.trans ⟨k1, k2⟩) hβ (C.land k1 (.refl β) (fun _ _ => rfl) hi hL k3 hd k4)
          · cases hcv
            rw [hrunc, Oper.uponIn_value, ← hdst]
            exact hK M' β _ _ (hM.trans ⟨k1, k2⟩) hβ (C.land k1 (.refl β) (fun _ _ => rfl) hi hL k3 hd k4)
        · cases heff
      · cases heff
    · cases heff
    · cases heff
    · cases heff
    · cases heff
    · have hop := hop.resolve_right (fun h => by rw [h] at heff; simp only [evI] at heff; cases heff)
      obtain ⟨β', w', c, hrun, hβ', hsame, S', hrel⟩ := follows_op (o := o) C.globs C.env C.sim hg (C.near i hi hun) hop heff
      have C' := C.land (.refl M) hβ' hsame hi hL S' hd hrel
      have hnd : ∀ c, o.op ≠ .defer c := fun c hc => by
        rw [hc] at hop
        simp only [cOp, Option.bind_eq_some_iff] at hop
        obtain ⟨as', _, hop⟩ := hop
        split at hop
        · simp only [Option.map_eq_some_iff] at hop
          obtain ⟨_, _, hop⟩ := hop
          rw [← hop] at heff
          simp only [evI] at heff
          cases heff
        · cases hop
      rw [hsem hnd]
      rcases hrun with hrun | ⟨hrun, rfl⟩
      · rw [hrun, Oper.uponIn_value, ← hdst]
        exact hK M β' _ _ hM (hβ.trans hβ') C'
      · rw [hrun, Oper.uponIn_skip, ← hdst]
        exact hK M β' _ _ hM (hβ.trans hβ') C'
  · rename_i hwt
    cases heff
    rw [if_neg hwt, ← hdst]
    exact ⟨fun _ _ => trivial, hK M β _ _ hM hβ (C.land (.refl M) (.refl β) (fun _ _ => rfl) hi hL C.sim hd (undef_rel M β))⟩

/-- What is still to be done. -/
def restOf (n : Nat) (L : Array Bool) : List Nat := (List.range n).filter fun i => !L.getD i true

theorem restOf_set {L : Array Bool} {i : Nat} (hL : n ≤ L.size) {l1 l2 : List Nat} (h : restOf n L = l1 ++ i :: l2) : restOf n (L.setIfInBounds i true) = l1 ++ l2 := by
  have hnd : (restOf n L).Nodup := List.Pairwise.filter _ List.nodup_range
  have hin : i ∈ restOf n L := by rw [h]; simp
  have hi : i < n := List.mem_range.1 (List.mem_filter.1 hin).1
  have h1 : restOf n (L.setIfInBounds i true) = (restOf n L).filter fun k => k != i := by
    unfold restOf
    rw [List.filter_filter]
    apply List.filter_congr
    intro k hk
    rw [Array.getD_eq_getD_getElem?, Array.getD_eq_getD_getElem?, Array.getElem?_setIfInBounds]
    by_cases hki : i = k
    · subst hki; rw [if_pos rfl, if_pos (by omega)]; simp
    · rw [if_neg hki]
      have : (k != i) = true := by simpa using Ne.symm hki
      rw [this]; simp
  rw [h1, h]
  rw [h] at hnd
  rw [List.nodup_append] at hnd
  obtain ⟨_, n2, n3⟩ := hnd
  rw [List.nodup_cons] at n2
  rw [List.filter_append, List.filter_cons]
  simp only [bne_self_eq_false, Bool.false_eq_true, if_false]
  congr 1
  · exact List.filter_eq_self.2 fun k hk => by simpa using n3 k hk i List.mem_cons_self
  · exact List.filter_eq_self.2 fun k hk => by
      have : k ≠ i := fun e => n2.1 (e ▸ hk)
      simpa using this

theorem any_ok {r : Option Nat} (H : CtxOk P gl cx) {ops : Array Oper} {z : List (O × List Nat)} (R : Region' P gl N ops z n) {t : Nat} {Q : Exit → Act → World → Prop} {fin : Env × Heap} : ∀ (fuel : Nat) {L : Array Bool} {M : Mem} {β : Places} {s : Env × Heap} {a : Act} {w : World},
    (restOf n L).length = fuel → L.size = ops.size → (∀ (i : Nat) o bef, z[i]? = some (o, bef) → L.getD i true = true → i < ops.size → ∀ x ∈ bef, L.getD x false = true) → (∀ j, n ≤ j → L.getD j false = false) → RCfg gl M β N nid n w0 dfr L s a w → M0.on w0.heap.size M → β0.le β → actIdx cx nid n z (restOf n L) s = some fin →
    (∀ M' β' L' a' w', restOf n L' = [] → L'.size = ops.size → (∀ j, n ≤ j → L'.getD j false = false) → M0.on w0.heap.size M' → β0.le β' → RCfg gl M' β' N nid n w0 dfr L' fin a' w' → wpAnyIn (fence r) 0 P .any ops Q t L' a' w') → wpAnyIn (fence r) 0 P .any ops Q (fuel + t) L a w
  | 0, L, M, β, s, a, w, hf, hL, hcl, htl, C, hM, hβ, hact, hQ => by
    have hr : restOf n L = [] := List.length_eq_zero_iff.1 hf
    rw [hr] at hact
    simp only [actIdx, Option.some.injEq] at hact
    subst hact
    rw [Nat.zero_add]
    exact hQ M β L a w hr hL htl hM hβ C
  | fuel + 1, L, M, β, s, a, w, hf, hL, hcl, htl, C, hM, hβ, hact, hQ => by
    have hkle := R.kle
    rw [show fuel + 1 + t = (fuel + t) + 1 by omega]
    have hex : ∀ i, i < ops.size → ∃ o bef, z[i]? = some (o, bef) := fun i hi => by
      have : i < z.length := by rw [R.size]; exact hi
      exact ⟨_, _, List.getElem?_eq_getElem this⟩
    have hsorted : (restOf n L).Pairwise (· < ·) := List.Pairwise.filter _ List.pairwise_lt_range
    refine ⟨fun hnone => ?_, fun i hi => ?_⟩
    · -- the first of the rest is ready
      cases hr : restOf n L with
      | nil => rw [hr] at hf; simp at hf
      | cons i l =>
        exfalso
        have hin : i ∈ restOf n L := by rw [hr]; simp
        obtain ⟨h1, h2⟩ := List.mem_filter.1 hin
        have hi := List.mem_range.1 h1
        obtain ⟨o', bef, hz⟩ := hex i (by omega)
        obtain ⟨o, ho, hc, hedge, _⟩ := R.oper i o' bef hz
        have : i ∈ Region.ready .any ops L := by
          rw [mem_ready]
          refine ⟨by simpa using h2, o, ho, fun e he hb => ?_⟩
          obtain ⟨q1, _⟩ := hedge e (Array.mem_toList_iff.2 he) hb
          have hlt := R.lt i o' bef hz _ q1
          cases hq : L.getD e.on true with
          | true =>
            have : e.on < L.size := by omega
            simp [this] at hq ⊢; exact hq
          | false =>
            have hmem : e.on ∈ restOf n L := List.mem_filter.2 ⟨List.mem_range.2 (by omega), by simp [hq]⟩
            rw [hr] at hmem hsorted
            rcases List.mem_cons.1 hmem with h | h
            · omega
            · have := (List.pairwise_cons.1 hsorted).1 _ h; omega
        rw [hnone] at this
        cases this
    · obtain ⟨hun, o, ho, hall⟩ := mem_ready.1 hi
      have hino : i < ops.size := (Array.getElem?_eq_some_iff.1 ho).1
      obtain ⟨o', bef, hz⟩ := hex i hino
      obtain ⟨o2, ho2, hc, hedge, hback⟩ := R.oper i o' bef hz
      rw [ho] at ho2; cases ho2
      have up : ∀ x, x < ops.size → L.getD x false = true → L.getD x true = true := fun x hx h => by
        have : x < L.size := by omega
        simp [this] at h ⊢; exact h
      have hlisted : ∀ x ∈ bef, L.getD x false = true := fun x hx => by
        obtain ⟨e, he, hb, hx⟩ := hback x hx
        have hon := hall e (Array.mem_toList_iff.1 he) hb
        have hlt := R.lt i o' bef hz _ (hedge e he hb).1
        rcases hx with rfl | ⟨p, b, hp, hxb⟩
        · exact hon
        · exact hcl e.on p b hp (up _ (by omega) hon) (by omega) x hxb
      have hin : i < n := by
        rcases Nat.lt_or_ge i n with h | h
        · exact h
        · exfalso
          have hnil : restOf n L = [] := List.filter_eq_nil_iff.2 fun x hx => by
            have hxn := List.mem_range.1 hx
            have := up x (by omega) (hlisted x (R.chain i o' bef h hz x (by omega)))
            simp [this]
          rw [hnil] at hf
          simp at hf
      have hmem : i ∈ restOf n L := List.mem_filter.2 ⟨List.mem_range.2 hin, by simp [hun]⟩
      obtain ⟨l1, l2, hsplit⟩ := List.append_of_mem hmem
      have hfront : ∀ j ∈ l1, ∃ p bj, z[j]? = some (p, bj) ∧ conflict p o' = false ∧ j ≠ i ∧ j < n ∧ j ∉ bef ∧ i ∉ bj := fun j hj => by
        have hjm : j ∈ restOf n L := by rw [hsplit]; exact List.mem_append_left _ hj
        obtain ⟨j1, j2⟩ := List.mem_filter.1 hjm
        have hjn := List.mem_range.1 j1
        have hji : j < i := by
          rw [hsplit] at hsorted
          exact (List.pairwise_append.1 hsorted).2.2 j hj i List.mem_cons_self
        obtain ⟨p, bj, hzj⟩ := hex j (by omega)
        have hnb : j ∉ bef := fun h => by
          have h1 := up j (by omega) (hlisted j h)
          rw [h1] at j2; cases j2
        refine ⟨p, bj, hzj, (R.apart i j o' bef p bj hin hz hzj hji).resolve_right hnb, by omega, hjn, hnb, fun h => ?_⟩
        have := R.lt j p bj hzj i h
        omega
      rw [hsplit] at hact
      obtain ⟨s', hs', hrest⟩ := act_front hz hin hfront hact
      have hrs := restOf_set (by omega) hsplit
      refine rop_ok H R hz hin (by omega) hun C hM hβ hs' fun M' β' a' w' hM' hβ' C' => ?_
      refine any_ok H R fuel (by rw [hrs]; rw [hsplit] at hf; simp at hf ⊢; omega) (by simp [hL]) (fun k ok bk hk hlk hkn x hx => ?_) (fun j hj => by
        rw [Array.getD_eq_getD_getElem?, Array.getElem?_setIfInBounds, if_neg (by omega), ← Array.getD_eq_getD_getElem?]; exact htl j hj) C' hM' hβ' (by rw [hrs]; exact hrest) hQ
      by_cases hki : k = i
      · subst hki
        rw [hz] at hk; cases hk
        exact getD_set_true (hlisted x hx)
      · refine getD_set_true (hcl k ok bk hk ?_ hkn x hx)
        rw [getD_set_ne true (Ne.symm hki)] at hlk; exact hlk

theorem Region'.tidy {ops : Array Oper} {z : List (O × List Nat)} (R : Region' P gl N ops z n) : Tidy (z.take n) n := by
  have get : ∀ (i : Nat) p, (z.take n)[i]? = some p → i < n ∧ z[i]? = some p := fun i p h => by
    rw [List.getElem?_take] at h
    split at h
    · rename_i hi; exact ⟨hi, h⟩
    · cases h
  have hkle := R.kle
  have tr : ∀ (m i : Nat) (p : O × List Nat) (x : Nat) (q : O × List Nat), i < m → z[i]? = some p → x ∈ p.2 → z[x]? = some q → ∀ y ∈ q.2, y ∈ p.2 := by
    intro m
    induction m with
    | zero => intro i p x q h; omega
    | succ m ih =>
      intro i p x q hi hp hx hq y hy
      obtain ⟨o, ho, _, hedge, hback⟩ := R.oper i p.1 p.2 hp
      obtain ⟨e, he, hb, hor⟩ := hback x hx
      obtain ⟨e1, e2⟩ := hedge e he hb
      rcases hor with rfl | ⟨p', b', hp', hxb⟩
      · exact e2 q.1 q.2 hq y hy
      · have hlt := R.lt i p.1 p.2 hp _ e1
        exact e2 p' b' hp' y (ih e.on (p', b') x q (by omega) hp' hxb hq y hy)
  refine ⟨by rw [List.length_take, R.size]; omega, fun i p h => R.lt i p.1 p.2 (get i p h).2, fun i p x q hp hx hq => tr (i + 1) i p x q (Nat.lt_succ_self i) (get i p hp).2 hx (get x q hq).2, fun i j p q hp hq hji => R.apart i j p.1 p.2 q.1 q.2 (get i p hp).1 (get i p hp).2 (get j q hq).2 hji⟩

theorem restOf_mem {L : Array Bool} {i j : Nat} (hi : i < n) (hL : n ≤ L.size) : j ∈ restOf n (L.setIfInBounds i true) ↔ j ∈ restOf n L ∧ j ≠ i := by
  unfold restOf
  rw [List.mem_filter, List.mem_filter, Array.getD_eq_getD_getElem?, Array.getD_eq_getD_getElem?, Array.getElem?_setIfInBounds]
  by_cases hij : i = j
  · subst hij; rw [if_pos rfl, if_pos (by omega)]; simp
  · rw [if_neg hij]
    constructor
    · exact fun h => ⟨h, Ne.symm hij⟩
    · exact fun h => h.1

theorem RCfg.called {M : Mem} {β : Places} {L L' : Array Bool} {s : Env × Heap} {a : Act} {w : World} (C : RCfg gl M β N nid n w0 dfr L s a w) {M' : Mem} {β' : Places} {h' : Heap} {nid' : Nat} {w' : World} (hM : M.le M') (hβ : β.le β') (S : Sim M' β' h'.get w0 w') (hf : ∀ b, nid' ≤ b → β' b = none)
    {d : Option Nat} (hd : ∀ t, d = some t → t < N) {v : V} {c : Value} (hr : Rel M' β' v c) : RCfg gl M' β' N nid' n w0 dfr L' (putDst s.1 d v, h') (a.put d c) w' where
  globs := C.globs.mono hM
  env := (C.env.mono hM hβ).put hd hr
  sim := S
  far b hb := hf b (by omega)
  near k _ _ := hf _ (by omega)
  dfr := by
    have := C.dfr.mono hM hβ
    cases d <;> simpa [Act.put] using this

/-- A call among such operations. -/
theorem rcall_ok {r : Option Nat} {call : CallF} (hcall : CallOk P gl M0 β0 call) {ops : Array Oper} {z : List (O × List Nat)} (R : Region' P gl N ops z n) {i : Nat} {o' : O} {bef : List Nat} (hz : z[i]? = some (o', bef)) {M : Mem} {β : Places} {L : Array Bool}
    {s : Env × Heap} {a : Act} {w : World} (C : RCfg gl M β N nid n w0 dfr L s a w) (hM : M0.on w0.heap.size M) (hβ : β0.le β) {fx : X} {as : List X} (hi : o'.i = .call fx as) (hwt : Abs.wanted s.1 o'.guard = true) {f' : FuncId} {args : List V} (hres : resolve (fx.val s.1) (as.map (X.val s.1)) = some (f', args))
    {Kc : End → Heap → Nat → Prop} (hk : call f' args s.2 (nid + n) Kc) {Q : Exit → Act → World → Prop} {K : Act → World → Prop}
    (hret : ∀ v h nid' M' β' a' w', Kc (.returned v) h nid' → M0.on w0.heap.size M' → β0.le β' → RCfg gl M' β' N nid' n w0 dfr (L.setIfInBounds i true) (putDst s.1 o'.dst v, h) a' w' → K a' w')
    (hpan : ∀ ch h nid' M' β' chain w', Kc (.panicked ch) h nid' → M0.on w0.heap.size M' → β0.le β' → Cfg gl M' β' N w0 { env := s.1, h := h, nid := nid', dfr := dfr } a w' → ChainRel M' β' ch chain → Q (.panic chain) a w') : wpOpIn (fence r) 0 P ops Q i K a w := by
  obtain ⟨o, ho, hc, _, _⟩ := R.oper i o' bef hz
  have hd := R.dst i o' bef hz
  obtain ⟨hop, hdst⟩ := cOper_spec hc
  have hw := wanted_rel C.env hc
  unfold wpOpIn
  simp only [ho, hw]
  rw [if_pos hwt]
  refine ⟨fun _ _ => trivial, ?_⟩
  have hsem : (∀ c, o.op ≠ .defer c) → o.semAt r a.eval = execOp a.eval o := o.semAt_eq r a.eval
  show o.uponIn (fence r) 0 P a _ _ ((o.semAt r a.eval).run P w)
  rw [hi] at hop
  obtain ⟨c, f, hoc, hcal, hfx, has⟩ := cOp_call (hop.resolve_right (fun h => by cases h))
  have hstep : ∀ {e : Ending} {w' : World}, CallPost M β w0 Kc e w' → match e with
      | .returned v => K (a.put o.dst v) w'
      | .panicked chain => Q (.panic chain) a w'
      | .outgrown => LetsOut Q := fun {e w'} he => by
    obtain ⟨M', β', en, h', nid', hM', hβ', S', hf', hen, hK⟩ := he
    cases en with
    | returned v =>
      cases e with
      | returned cv =>
        simp only [EndRel] at hen
        simp only [← hdst]
        exact hret v h' nid' M' β' _ _ hK (hM.trans hM') (hβ.trans hβ') (C.called hM'.1 hβ' S' hf' hd hen)
      | panicked _ => cases hen
      | outgrown => cases hen
    | panicked ch =>
      cases e with
      | returned cv => cases hen
      | panicked chain => exact hpan ch h' nid' M' β' chain w' hK (hM.trans hM') (hβ.trans hβ') ⟨C.globs.mono hM'.1, C.env.mono hM'.1 hβ', S', hf', C.dfr.mono hM'.1 hβ'⟩ hen
      | outgrown => cases hen
  obtain ⟨first, captured, hrun, hrel⟩ := resolve_rel (P := P) C.globs C.env (t := o.type) hfx has hcal hres
  have hc2 := hcall _ _ _ _ _ hk M β w0 w _ hM.1 hβ C.globs C.sim C.far hrel
  simp only [Array.toArray_toList] at hc2
  have hcf : (execOp a.eval o).run P w = (callFunc f' ((first ++ c.args.map a.eval) ++ captured)).run P w := by
    simp only [execOp, hoc, Sem.run_bind, hrun, Result.andThen_ok, invoke]
  rw [hsem (fun c h => by rw [hoc] at h; cases h), hcf]
  rcases hc2 with ⟨⟨fn, hfn, hbody, hname⟩, hcalls⟩ | ⟨cv, w', hrunc, hR⟩
  · have hex : (callFunc f' ((first ++ c.args.map a.eval) ++ captured)).run P w = .ok (.enter f' ((first ++ c.args.map a.eval) ++ captured)) w := by
      simp only [Sem.run_bind, Result.andThen_ok, callFunc, run_program, hfn, hname, hbody, Bool.false_eq_true, if_false, Sem.run_pure]
    rw [hex, Oper.uponIn_enter]
    refine ⟨(fun h => by cases h), callsIn_free (hcalls.mono ?_)⟩
    intro e w' he
    have := hstep he
    cases e <;> exact this
  · rw [hrunc, Oper.uponIn_value]
    exact hstep hR

theorem walk_ok {r : Option Nat} (H : CtxOk P gl cx) {call : CallF} (hcall : CallOk P gl M0 β0 call) {ops : Array Oper} {z : List (O × List Nat)} (R : Region' P gl N ops z n) {t : Nat} {Q : Exit → Act → World → Prop} {K : Ex → FSt → Prop}
    (hpan : ∀ ch (st : FSt) M β chain a w, M0.on w0.heap.size M → β0.le β → Cfg gl M β N w0 st a w → ChainRel M β ch chain → K (.panic ch) st → Q (.panic chain) a w) : ∀ (fuel : Nat) {L : Array Bool} {M : Mem} {β : Places} {s : Env × Heap} {a : Act} {w : World} {b : FSt},
    (restOf n L).length = fuel → L.size = ops.size → (∀ (i : Nat) o bef, z[i]? = some (o, bef) → L.getD i true = true → i < ops.size → ∀ x ∈ bef, L.getD x false = true) → (∀ j, n ≤ j → L.getD j false = false) → RCfg gl M β N b.nid n w0 b.dfr L s a w → M0.on w0.heap.size M → β0.le β → Stage cx call (z.take n) n K (· ∈ restOf n L) s b →
    (∀ M' β' L' a' w' (s' : Env × Heap) (b' : FSt), restOf n L' = [] → L'.size = ops.size → (∀ j, n ≤ j → L'.getD j false = false) → M0.on w0.heap.size M' → β0.le β' → RCfg gl M' β' N b'.nid n w0 b'.dfr L' s' a' w' → K .normal { b' with env := s'.1, h := s'.2, nid := b'.nid + n } → wpAnyIn (fence r) 0 P .any ops Q t L' a' w') → wpAnyIn (fence r) 0 P .any ops Q (fuel + t) L a w
  | 0, L, M, β, s, a, w, b, hf, hL, hcl, htl, C, hM, hβ, hS, hQ => by
    have hr : restOf n L = [] := List.length_eq_zero_iff.1 hf
    rw [Nat.zero_add]
    cases hS with
    | @last l fin h1 h2 h3 h4 h5 h6 =>
      have hl : l = [] := by
        cases l with
        | nil => rfl
        | cons x l =>
          have := (h2 x).2 List.mem_cons_self
          rw [hr] at this
          cases this
      subst hl
      simp only [actIdx, Option.some.injEq] at h5
      subst h5
      exact hQ M β L a w s b hr hL htl hM hβ C h6
    | plain _ _ hrem _ => rw [hr] at hrem; cases hrem
    | two _ _ hrem _ _ _ _ => rw [hr] at hrem; cases hrem
  | fuel + 1, L, M, β, s, a, w, b, hf, hL, hcl, htl, C, hM, hβ, hS, hQ => by
    have hkle := R.kle
    rw [show fuel + 1 + t = (fuel + t) + 1 by omega]
    have hex : ∀ i, i < ops.size → ∃ o bef, z[i]? = some (o, bef) := fun i hi => by
      have : i < z.length := by rw [R.size]; exact hi
      exact ⟨_, _, List.getElem?_eq_getElem this⟩
    have hsorted : (restOf n L).Pairwise (· < ·) := List.Pairwise.filter _ List.pairwise_lt_range
    refine ⟨fun hnone => ?_, fun i hi => ?_⟩
    · -- the first of the rest is ready
      cases hr : restOf n L with
      | nil => rw [hr] at hf; simp at hf
      | cons i l =>
        exfalso
        have hin : i ∈ restOf n L := by rw [hr]; simp
        obtain ⟨h1, h2⟩ := List.mem_filter.1 hin
        have hi := List.mem_range.1 h1
        obtain ⟨o', bef, hz⟩ := hex i (by omega)
        obtain ⟨o, ho, hc, hedge, _⟩ := R.oper i o' bef hz
        have : i ∈ Region.ready .any ops L := by
          rw [mem_ready]
          refine ⟨by simpa using h2, o, ho, fun e he hb => ?_⟩
          obtain ⟨q1, _⟩ := hedge e (Array.mem_toList_iff.2 he) hb
          have hlt := R.lt i o' bef hz _ q1
          cases hq : L.getD e.on true with
          | true =>
            have : e.on < L.size := by omega
            simp [this] at hq ⊢; exact hq
          | false =>
            have hmem : e.on ∈ restOf n L := List.mem_filter.2 ⟨List.mem_range.2 (by omega), by simp [hq]⟩
            rw [hr] at hmem hsorted
            rcases List.mem_cons.1 hmem with h | h
            · omega
            · have := (List.pairwise_cons.1 hsorted).1 _ h; omega
        rw [hnone] at this
        cases this
    · obtain ⟨hun, o, ho, hall⟩ := mem_ready.1 hi
      have hino : i < ops.size := (Array.getElem?_eq_some_iff.1 ho).1
      obtain ⟨o', bef, hz⟩ := hex i hino
      obtain ⟨o2, ho2, hc, hedge, hback⟩ := R.oper i o' bef hz
      rw [ho] at ho2; cases ho2
      have up : ∀ x, x < ops.size → L.getD x false = true → L.getD x true = true := fun x hx h => by
        have : x < L.size := by omega
        simp [this] at h ⊢; exact h
      have hlisted : ∀ x ∈ bef, L.getD x false = true := fun x hx => by
        obtain ⟨e, he, hb, hx⟩ := hback x hx
        have hon := hall e (Array.mem_toList_iff.1 he) hb
        have hlt := R.lt i o' bef hz _ (hedge e he hb).1
        rcases hx with rfl | ⟨p, b, hp, hxb⟩
        · exact hon
        · exact hcl e.on p b hp (up _ (by omega) hon) (by omega) x hxb
      have hin : i < n := by
        rcases Nat.lt_or_ge i n with h | h
        · exact h
        · exfalso
          have hnil : restOf n L = [] := List.filter_eq_nil_iff.2 fun x hx => by
            have hxn := List.mem_range.1 hx
            have := up x (by omega) (hlisted x (R.chain i o' bef h hz x (by omega)))
            simp [this]
          rw [hnil] at hf
          simp at hf
      have hmem : i ∈ restOf n L := List.mem_filter.2 ⟨List.mem_range.2 hin, by simp [hun]⟩
      have hready : ∀ x ∈ bef, ¬ x ∈ restOf n L := fun x hx hxr => by
        have h1 := (List.mem_filter.1 hxr).2
        have hlt := R.lt i o' bef hz x hx
        rw [up x (by omega) (hlisted x hx)] at h1
        cases h1
      have hzt : (z.take n)[i]? = some (o', bef) := by rw [List.getElem?_take, if_pos hin]; exact hz
      have hpred : (fun j => j ∈ restOf n L ∧ j ≠ i) = (· ∈ restOf n (L.setIfInBounds i true)) := by
        funext j
        exact propext (restOf_mem hin (by omega)).symm
      have hlen : (restOf n (L.setIfInBounds i true)).length = fuel := by
        obtain ⟨l1, l2, hsplit⟩ := List.append_of_mem hmem
        rw [restOf_set (by omega) hsplit]
        rw [hsplit] at hf
        simp at hf ⊢
        omega
      have hcl' : ∀ (k : Nat) o bef, z[k]? = some (o, bef) → (L.setIfInBounds i true).getD k true = true → k < ops.size → ∀ x ∈ bef, (L.setIfInBounds i true).getD x false = true := fun k ok bk hk hlk hkn x hx => by
        by_cases hki : k = i
        · subst hki
          rw [hz] at hk; cases hk
          exact getD_set_true (hlisted x hx)
        · refine getD_set_true (hcl k ok bk hk ?_ hkn x hx)
          rw [getD_set_ne true (Ne.symm hki)] at hlk; exact hlk
      have htl' : ∀ j, n ≤ j → (L.setIfInBounds i true).getD j false = false := fun j hj => by
        rw [Array.getD_eq_getD_getElem?, Array.getElem?_setIfInBounds, if_neg (by omega), ← Array.getD_eq_getD_getElem?]; exact htl j hj
      have hL' : (L.setIfInBounds i true).size = ops.size := by simp [hL]
      cases hca : callAt (z.take n) i with
      | false =>
        obtain ⟨s1, k1, S1⟩ := stage_step R.tidy hS hzt hmem hready hca
        rw [hpred] at S1
        exact rop_ok H R hz hin (by omega) hun C hM hβ k1 fun M' β' a' w' hM' hβ' C' => walk_ok H hcall R hpan fuel hlen hL' hcl' htl' C' hM' hβ' S1 hQ
      | true =>
        rcases stage_call R.tidy hS hzt hmem hready hca with ⟨hwt, b', hn, hd, S1⟩ | ⟨hwt, fx, as, f', args, Kc, hcall1, hres, hk, hret, hp⟩
        · rw [hpred] at S1
          have k1 : actOp cx b.nid n i o' bef s = some (putDst s.1 o'.dst V.undef, s.2) := by
            unfold actOp
            simp only [hwt, Bool.false_eq_true, if_false]
          refine rop_ok H R hz hin (by omega) hun C hM hβ k1 fun M' β' a' w' hM' hβ' C' => ?_
          rw [← hn, ← hd] at C'
          exact walk_ok H hcall R hpan fuel hlen hL' hcl' htl' C' hM' hβ' S1 hQ
        · refine rcall_ok hcall R hz C hM hβ hcall1 hwt hres hk (fun v h nid' M' β' a' w' hkc hM' hβ' C' => ?_) (fun ch h nid' M' β' chain w' hkc hM' hβ' C' hch => hpan ch _ M' β' chain a w' hM' hβ' C' hch (hp ch h nid' hkc))
          obtain ⟨b', hn, hd, S1⟩ := hret v h nid' hkc
          rw [hpred] at S1
          rw [← hn, ← hd] at C'
          exact walk_ok H hcall R hpan fuel hlen hL' hcl' htl' C' hM' hβ' S1 hQ

theorem tail_ok {r : Option Nat} {ops : Array Oper} {z : List (O × List Nat)} {k : Nat} (R : Region' P gl N ops z k) {Q : Exit → Act → World → Prop} : ∀ (t i : Nat) {L : Array Bool} {a : Act} {w : World}, i + t = ops.size → k ≤ i → L.size = ops.size → (∀ j, j < i → L.getD j false = true) → (∀ j, i ≤ j → L.getD j false = false) →
    wpOpsIn (fence r) 0 P ops Q (List.range' i t) a w → wpAnyIn (fence r) 0 P .any ops Q t L a w
  | 0, i, L, a, w, hit, hki, hL, hdone, hopen, h => by
    refine ⟨?_, h⟩
    cases hr : Region.ready .any ops L with
    | nil => rfl
    | cons x l =>
      exfalso
      have hx : x ∈ Region.ready .any ops L := by rw [hr]; simp
      obtain ⟨hun, o, ho, _⟩ := mem_ready.1 hx
      have hxo : x < ops.size := (Array.getElem?_eq_some_iff.1 ho).1
      have := hdone x (by omega)
      have hxl : x < L.size := by omega
      simp [hxl] at this hun
      rw [this] at hun
      cases hun
  | t + 1, i, L, a, w, hit, hki, hL, hdone, hopen, h => by
    have hex : ∀ i, i < ops.size → ∃ o bef, z[i]? = some (o, bef) := fun i hi => by
      have : i < z.length := by rw [R.size]; exact hi
      exact ⟨_, _, List.getElem?_eq_getElem this⟩
    have hio : i < ops.size := by omega
    have hil : i < L.size := by omega
    refine ⟨fun hnone => ?_, fun x hx => ?_⟩
    · exfalso
      obtain ⟨o', bef, hz⟩ := hex i hio
      obtain ⟨o, ho, hc, hedge, _⟩ := R.oper i o' bef hz
      have : i ∈ Region.ready .any ops L := by
        rw [mem_ready]
        refine ⟨?_, o, ho, fun e he hb => ?_⟩
        · have := hopen i (Nat.le_refl _)
          simp [hil] at this ⊢
          exact this
        · have q1 := (hedge e (Array.mem_toList_iff.2 he) hb).1
          exact hdone _ (R.lt i o' bef hz _ q1)
      rw [hnone] at this
      cases this
    · obtain ⟨hun, o, ho, hall⟩ := mem_ready.1 hx
      have hxo : x < ops.size := (Array.getElem?_eq_some_iff.1 ho).1
      have hxl : x < L.size := by omega
      have hxi : x = i := by
        rcases Nat.lt_trichotomy x i with h1 | h1 | h1
        · have := hdone x h1
          simp [hxl] at this hun
          rw [this] at hun
          cases hun
        · exact h1
        · exfalso
          obtain ⟨o', bef, hz⟩ := hex x hxo
          obtain ⟨o2, ho2, hc, hedge, hback⟩ := R.oper x o' bef hz
          rw [ho] at ho2; cases ho2
          have hib := R.chain x o' bef (by omega) hz i h1
          obtain ⟨e, he, hb, hor⟩ := hback i hib
          have hon := hall e (Array.mem_toList_iff.1 he) hb
          have hei : i ≤ e.on := by
            rcases hor with rfl | ⟨p, b, hp, hxb⟩
            · exact Nat.le_refl _
            · exact Nat.le_of_lt (R.lt e.on p b hp i hxb)
          have := hopen e.on hei
          rw [this] at hon
          cases hon
      subst hxi
      rw [List.range'_succ, wpOpsIn_cons] at h
      refine wpOpIn_mono (fun a' w' h' => ?_) h
      refine tail_ok R t (x + 1) (by omega) (by omega) (by simp [hL]) (fun j hj => ?_) (fun j hj => ?_) h'
      · rw [Array.getD_eq_getD_getElem?, Array.getElem?_setIfInBounds]
        by_cases e : x = j
        · subst e; rw [if_pos rfl, if_pos hxl]; rfl
        · rw [if_neg e, ← Array.getD_eq_getD_getElem?]; exact hdone j (by omega)
      · rw [Array.getD_eq_getD_getElem?, Array.getElem?_setIfInBounds, if_neg (by omega), ← Array.getD_eq_getD_getElem?]; exact hopen j (by omega)

theorem actIdx_congr {z z' : List (O × List Nat)} : ∀ {l : List Nat} {s : Env × Heap}, (∀ i ∈ l, z[i]? = z'[i]?) → actIdx cx nid n z l s = actIdx cx nid n z' l s
  | [], s, h => rfl
  | i :: l, s, h => by
    simp only [actIdx, h i List.mem_cons_self]
    cases z'[i]? with
    | none => rfl
    | some p =>
      obtain ⟨o, bef⟩ := p
      simp only
      congr 1
      funext s'
      exact actIdx_congr fun j hj => h j (List.mem_cons_of_mem _ hj)

theorem mapM_drop {α γ : Type} {f : α → Option γ} : ∀ {l : List α} {r : List γ} (k : Nat), l.mapM f = some r → (l.drop k).mapM f = some (r.drop k)
  | l, r, 0, h => h
  | [], r, k + 1, h => by simp at h; subst h; simp
  | x :: l, r, k + 1, h => by
    simp only [List.mapM_cons, Option.pure_def, Option.bind_eq_bind, Option.bind_eq_some_iff, Option.some.injEq] at h
    obtain ⟨y, hy, ys, hys, rfl⟩ := h
    simpa using mapM_drop k hys

theorem drawn_ok (hm : P.follows .mixedOrders = true) (H : CtxOk P gl cx) : DrawnOk P gl cx := by
  intro call yld ops z1 t1 id N hc hd M0 M β0 β w0 w st a K env h hcall hyld hM hβ C hact r hdf
  obtain ⟨z, k, rfl, rfl, hlen, hmap, R⟩ := Region'.of hc hd
  have hkle := R.kle
  refine wpIn_region_any hm ?_
  have hrep : ∀ k d, k < ops.size → (Array.replicate ops.size false).getD k d = false := fun k d hk => by simp [hk]
  have hrepf : ∀ j, (Array.replicate ops.size false).getD j false = false := fun j => by
    rw [Array.getD_eq_getD_getElem?, Array.getElem?_replicate]; split <;> rfl
  have hrest : restOf k (Array.replicate ops.size false) = List.range k := List.filter_eq_self.2 fun j hj => by
    rw [hrep j true (by have := List.mem_range.1 hj; omega)]; rfl
  have hops := Ops_of (P := P) (gl := gl) (n := k) (N := N) (ops := ops) (l := ops.toList.drop k) (l' := (z.drop k).map (·.1)) (fun j o hj => by
      rw [List.getElem?_drop] at hj
      simpa using hj) (by rw [List.map_drop]; exact mapM_drop k hmap) (fun d hd' => hd d (List.mem_append_right _ hd'))
  rw [List.length_drop, Array.length_toList] at hops
  have finish : ∀ M' β' L' a' w' (s' : Env × Heap) (b' : FSt), restOf k L' = [] → L'.size = ops.size → (∀ j, k ≤ j → L'.getD j false = false) → M0.on w0.heap.size M' → β0.le β' → RCfg gl M' β' N b'.nid k w0 b'.dfr L' s' a' w' →
      evOps call yld ((z.drop k).map (·.1)) { b' with env := s'.1, h := s'.2, nid := b'.nid + k } K → wpAnyIn (fence r) 0 P .any ops (Post gl N w0 M0 β0 K) (ops.size - k) L' a' w' := by
    intro M' β' L' a' w' s' b' hr hL hopen hM' hβ' C' hK
    have hdone : ∀ j, j < k → L'.getD j true = true := fun j hj => by
      have : j ∉ restOf k L' := by rw [hr]; simp
      unfold restOf at this
      rw [List.mem_filter] at this
      cases hq : L'.getD j true with
      | true => rfl
      | false => exact absurd ⟨List.mem_range.2 hj, by simp [hq]⟩ this
    have hdone' : ∀ j, j < k → L'.getD j false = true := fun j hj => by
      have h1 := hdone j hj
      have h2 : j < L'.size := by omega
      simp [h2] at h1 ⊢
      exact h1
    refine tail_ok R (ops.size - k) k (by omega) (Nat.le_refl _) hL hdone' hopen ?_
    exact evOps_ok (call := call) (yld := yld) (M := M') (β := β') (st := { b' with env := s'.1, h := s'.2, nid := b'.nid + k }) (K := K) hdf hcall hyld hops hM' hβ' ⟨C'.globs, C'.env, C'.sim, C'.far, C'.dfr⟩ hK
  have C0 : RCfg gl M β N st.nid k w0 st.dfr (Array.replicate ops.size false) (st.env, st.h) a { w with drawn := w.drawn + 1 } := ⟨C.globs, C.env, C.sim.drew, fun b hb => C.fresh b (by omega), fun k _ _ => C.fresh _ (by omega), C.dfr⟩
  rcases hact with ⟨hact, hK⟩ | hwk
  · rw [hlen] at hact hK
    have hact' : actIdx cx st.nid k z (restOf k (Array.replicate ops.size false)) (st.env, st.h) = some (env, h) := by
      rw [hrest, List.range_eq_range']
      have e := actAll_idx (cx := cx) (nid := st.nid) (n := k) (z := z.take k) (l := z.take k) (k := 0) (s := (st.env, st.h)) (fun q => by rw [Nat.zero_add])
      rw [hlen] at e
      rw [← actIdx_congr (z := z.take k) fun i hi => ?_, ← e]
      · exact hact
      · have : i < k := by have := List.mem_range'.1 hi; omega
        rw [List.getElem?_take, if_pos this]
    have e := any_ok (dfr := st.dfr) (n := k) (r := r) (M0 := M0) (β0 := β0) (w0 := w0) H R (t := ops.size - k) (Q := Post gl N w0 M0 β0 K) k (by rw [hrest]; simp) (by simp) (fun i o bef hz hl hi => by rw [hrep i true hi] at hl; cases hl) (fun j _ => hrepf j)
      C0 hM hβ hact' fun M' β' L' a' w' hr hL hopen hM' hβ' C' => finish M' β' L' a' w' (env, h) st hr hL hopen hM' hβ' C' hK
    rw [show k + (ops.size - k) = ops.size by omega] at e
    exact e
  · rw [hlen] at hwk
    have S0 := stage_init R.tidy (by rw [List.range_eq_range']; exact List.pairwise_lt_range') (fun i hi => List.mem_range.1 hi) hwk
    rw [← hrest] at S0
    have e := walk_ok (K := fun x s => match x with | .normal => evOps call yld ((z.drop k).map (·.1)) s K | x => K x s) (n := k) (r := r) (M0 := M0) (β0 := β0) (w0 := w0) (b := st) H hcall R (t := ops.size - k) (Q := Post gl N w0 M0 β0 K) (fun ch st' M β chain a w hM hβ C hch hk => ⟨M, β, .panic ch, st', hM, hβ, C, hch, hk⟩) k (by rw [hrest]; simp) (by simp) (fun i o bef hz hl hi => by rw [hrep i true hi] at hl; cases hl) (fun j _ => hrepf j)
      C0 hM hβ S0 fun M' β' L' a' w' s' b' hr hL hopen hM' hβ' C' hk => finish M' β' L' a' w' s' b' hr hL hopen hM' hβ' C' hk
    rw [show k + (ops.size - k) = ops.size by omega] at e
    exact e

end
end Go.Abs
