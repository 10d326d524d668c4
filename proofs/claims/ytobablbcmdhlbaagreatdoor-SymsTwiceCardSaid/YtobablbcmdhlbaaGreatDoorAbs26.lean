/-
  ABS, part 26: calls are followed.
-/
import Derived.Test.YtobablbcmdhlbaaGreatDoorAbs25
namespace Go.Abs
open Go Go.RowKit

section
variable {P : Program} {gl : Nat → Option (List V)} {M : Mem} {β : Places} {w0 w : World}

theorem initEnv_at : ∀ (l : List V) (i : Nat) (e : Env) (t : Nat), (initEnv i l e).at t = if t < i then e.at t else match l[t - i]? with | some v => v | none => e.at t
  | [], i, e, t => by simp [initEnv]
  | v :: vs, i, e, t => by
    simp only [initEnv]
    rw [initEnv_at vs (i + 1) _ t]
    by_cases h : t < i
    · rw [if_pos (by omega), if_pos h, at_set, if_neg (by omega)]
    · by_cases h2 : t = i
      · subst h2
        rw [if_pos (by omega), if_neg (by omega), at_set, if_pos rfl]
        simp
      · rw [if_neg (by omega), if_neg h]
        have : t - i = (t - (i + 1)) + 1 := by omega
        rw [this, List.getElem?_cons_succ, at_set, if_neg h2]

theorem initEnv_rel {args : List V} {cargs : List Value} (R : RelL M β args cargs) (n : Nat) : EnvRel M β (cargs.toArray ++ Array.replicate (n - cargs.toArray.size) undef).size (initEnv 0 args .leaf) { tmps := cargs.toArray ++ Array.replicate (n - cargs.toArray.size) undef, defers := [] } where
  size := rfl
  rel t := by
    rw [initEnv_at, if_neg (by omega), Nat.sub_zero]
    have hleaf : Env.at (.leaf : Env) t = V.undef := by simp [Env.at, T.get]
    rw [hleaf, Array.getD_eq_getD_getElem?]
    cases hk : args[t]? with
    | some v =>
      obtain ⟨c, hc, hr⟩ := R.get hk
      have hlt : t < cargs.length := by
        rcases Nat.lt_or_ge t cargs.length with h | h
        · exact h
        · rw [List.getElem?_eq_none h] at hc; cases hc
      rw [Array.getElem?_append_left (by simpa using hlt)]
      simp only [List.getElem?_toArray, hc, Option.getD_some]
      exact hr
    | none =>
      have hge : cargs.length ≤ t := by
        rw [R.length]
        rcases Nat.lt_or_ge t args.length with h | h
        · rw [List.getElem?_eq_getElem h] at hk; cases hk
        · exact h
      rw [Array.getElem?_append_right (by simpa using hge)]
      have : ((Array.replicate (n - cargs.toArray.size) undef)[t - cargs.toArray.size]?).getD undef = undef := by
        rw [Array.getElem?_replicate]; split <;> rfl
      rw [this]
      exact undef_rel M β

theorem readRes_run {e : Env} {hp : Heap} {N : Nat} {a : Act} (E : EnvRel M β N e a) (S : Sim M β hp.get w0 w) {rv : ResultVar} {q : RV} (hc : cRes P rv = some q) {v : V} (hr : readRes e hp q = some v) :
    ∃ c, ((match rv with | .tmp t => pure (a.tmps.getD t undef) | .cell b t => do loadVar t (← asAddr (a.tmps.getD b undef)) : Sem Value)).run P w = .ok c w ∧ Rel M β v c := by
  cases rv with
  | tmp t =>
    simp only [cRes] at hc; cases hc
    simp only [readRes] at hr; cases hr
    exact ⟨_, by simp only [Sem.run_pure], E.rel t⟩
  | cell b t =>
    simp only [cRes, Option.bind_eq_some_iff, Option.map_eq_some_iff] at hc
    obtain ⟨g, hg, n, hn, rfl⟩ := hc
    simp only [readRes, Option.bind_eq_some_iff] at hr
    obtain ⟨cs, hcs, hv⟩ := hr
    obtain ⟨B, O, l, he, hl, hlen, _, hcell⟩ := S.readAt (fun _ _ h => h) (E.rel b) hcs
    obtain ⟨h1, h2⟩ := ofCells_rel hv hl
    have hload := run_loadCells_at (P := P) hcell
    cases g with
    | true =>
      have hln : l.length = n := by rw [hl.length, hlen]; rfl
      rw [hln] at hload
      exact ⟨.agg l.toArray, by simp [he, asAddr, loadVar, tAgg_run hg, tSize_run hn, hload], h1 rfl⟩
    | false =>
      obtain ⟨c, rfl, hcr⟩ := h2 rfl
      have hc0 : w.cell? ⟨B, O, none⟩ = some c := by simpa using hcell 0 c rfl
      exact ⟨c, by simp [he, asAddr, loadVar, tAgg_run hg, hc0], hcr⟩

theorem resList_run {e : Env} {hp : Heap} {N : Nat} {a : Act} (E : EnvRel M β N e a) (S : Sim M β hp.get w0 w) : ∀ {rvs : List ResultVar} {qs : List RV} {vs : List V}, rvs.mapM (cRes P) = some qs → qs.mapM (readRes e hp) = some vs →
    ∃ cs, (rvs.mapM fun rv => (match rv with | .tmp t => pure (a.tmps.getD t undef) | .cell b t => do loadVar t (← asAddr (a.tmps.getD b undef)) : Sem Value)).run P w = .ok cs w ∧ RelL M β vs cs
  | [], qs, vs, h1, h2 => by
    simp at h1; subst h1
    simp at h2; subst h2
    exact ⟨[], by simp, by simp only [RelL]⟩
  | rv :: rvs, qs, vs, h1, h2 => by
    simp only [List.mapM_cons, Option.pure_def, Option.bind_eq_bind, Option.bind_eq_some_iff, Option.some.injEq] at h1
    obtain ⟨q, hq, qs', hqs, rfl⟩ := h1
    simp only [List.mapM_cons, Option.pure_def, Option.bind_eq_bind, Option.bind_eq_some_iff, Option.some.injEq] at h2
    obtain ⟨v, hv, vs', hvs, rfl⟩ := h2
    obtain ⟨c, hc, hr⟩ := readRes_run (P := P) E S hq hv
    obtain ⟨cs, hcs, hrs⟩ := resList_run E S hqs hvs
    refine ⟨c :: cs, ?_, by simp only [RelL]; exact ⟨c, cs, rfl, hr, hrs⟩⟩
    rw [List.mapM_cons, Sem.run_bind, hc, Result.andThen_ok, Sem.run_bind, hcs, Result.andThen_ok, Sem.run_pure]

theorem results_run {e : Env} {hp : Heap} {N : Nat} {a : Act} (E : EnvRel M β N e a) (S : Sim M β hp.get w0 w) {fn : Func} {qs : List RV} (hq : fn.results.toList.mapM (cRes P) = some qs) {v : V} (hv : Abs.results qs e hp = some v) :
    ∃ c, (Go.results fn a.tmps).run P w = .ok c w ∧ Rel M β v c := by
  unfold Abs.results at hv
  simp only [Option.map_eq_some_iff] at hv
  obtain ⟨vs, hvs, hv⟩ := hv
  obtain ⟨cs, hcs, hrs⟩ := resList_run E S hq hvs
  have hlen := hrs.length
  unfold Go.results
  rw [Sem.run_bind, Array.mapM_eq_mapM_toList, Sem.run_map]
  erw [hcs]
  split at hv
  · rename_i v1
    subst hv
    match cs, hlen with
    | [c], _ =>
      simp only [RelL] at hrs
      obtain ⟨c', cs', he, hr, _⟩ := hrs
      cases he
      exact ⟨c, rfl, hr⟩
  · rename_i hne
    subst hv
    have h1 : cs.length ≠ 1 := fun h => by
      rw [hlen] at h
      obtain ⟨x, hx⟩ := List.length_eq_one_iff.1 h
      exact hne x hx
    refine ⟨.tuple cs.toArray, ?_, by simp only [Rel]; exact ⟨_, rfl, hrs⟩⟩
    simp only [Result.andThen_ok, List.size_toArray, h1, dif_neg, not_false_eq_true, Sem.run_pure]

end

structure CtxOk (P : Program) (gl : Nat → Option (List V)) (cx : Ctx) : Prop where
  fn : ∀ f afn, cx.fn f = some afn → ∃ fn, P.funcs[f]? = some fn ∧ cFunc P gl fn = some afn ∧ (fn.name == "runtime.NumGoroutine") = false
  sum : ∀ f F, cx.sum f = some F → PureSpec P gl f F

section
variable {P : Program} {gl : Nat → Option (List V)} {cx : Ctx}

theorem CtxOk.fnOk (H : CtxOk P gl cx) : ∀ f, (cx.fn f).isSome = true → FnOk P f := fun f hf => by
  cases e : cx.fn f with
  | none => rw [e] at hf; cases hf
  | some afn =>
    obtain ⟨fn, hfn, hcf, hname⟩ := H.fn f afn e
    unfold cFunc at hcf
    simp only [Option.bind_eq_some_iff] at hcf
    obtain ⟨b, hb, _⟩ := hcf
    exact ⟨fn, hfn, by rw [hb]; rfl, hname⟩

/-- The marks are come to, one by one. -/
theorem leaves_marks {fn : Func} {tmps : Array Value} {R : Ending → World → Prop} {M : Mem} {β : Places} {w0 : World} : ∀ {ds : List Nat} {l : List Deferred} {h h' : Heap} {w : World}, MarksRel β ds l → dropMarks ds h = some h' → Sim M β h.get w0 w →
    (∀ w', Sim M β h'.get w0 w' → ∃ v, (Go.results fn tmps).run P w' = .ok v w' ∧ R (.returned v) w') → LeavesInM (fence none) 0 P fn tmps R l .returning w
  | [], l, h, h', w, hm, hd, S, hk => by
    have hm' : l = [] := hm
    subst hm'
    simp only [dropMarks] at hd
    cases hd
    exact hk w S
  | d :: ds, l, h, h', w, hm, hd, S, hk => by
    obtain ⟨i, rest, hi, rfl, hm'⟩ := hm
    simp only [dropMarks] at hd
    split at hd
    · rename_i hs
      obtain ⟨hw, hM⟩ := S.shut (isShut_eq hs) hi
      refine ⟨(fun h => by cases h), .inl ⟨i.blk, _, rfl, run_takeDeferred hw, leaves_marks hm' hd ?_ hk⟩⟩
      rw [get_put]
      exact S.gone (isShut_eq hs) rfl hi (Keeps.putObj hw (fun _ _ _ h => by cases h) hM)
    · cases hd

theorem callF_ok (H : CtxOk P gl cx) (hdr : DrawnOk P gl cx) (m : Nat) : ∀ n M1 β1 yld, YldOk P gl M1 β1 yld → CallOk P gl M1 β1 (callF cx m n yld)
  | 0 => fun M1 β1 yld hy f args h nid K hk => hk.elim
  | n + 1 => fun M1 β1 yld hy f args h nid K hk => by
    simp only [callF] at hk
    split at hk
    · rename_i F hF
      have h2 := H.sum f F hF
      intro M β w0 w cargs _ _ G S hf R
      split at hk
      · rename_i v hp' hc
        refine (callSumF_ok h2 G S R hc).mono ?_
        rintro e w' ⟨M', c, rfl, k1, k2, k3, k4⟩
        exact ⟨M', β, .returned v, hp', nid, ⟨k1, k2⟩, .refl β, k3, hf, k4, hk⟩
      · exact hk.elim
    · split at hk
      · rename_i afn hafn
        obtain ⟨fn, hfn, hcf, hname⟩ := H.fn f afn hafn
        unfold cFunc at hcf
        simp only [Option.bind_eq_some_iff] at hcf
        obtain ⟨b, hb, c, hc, rs, hrs, hcf⟩ := hcf
        split at hcf
        · rename_i hcond
          cases hcf
          intro M β w0 w cargs hM1 hβ1 G S hf R
          refine .inl ⟨⟨fn, hfn, by rw [hb]; rfl, hname⟩, calls_free (r := none) (n := 0) (callsIn_of_wp_marks hfn hb trivial ?_)⟩
          have hE := initEnv_rel R fn.ntmps
          have hd : ∀ d ∈ c.dsts, d < (cargs.toArray ++ Array.replicate (fn.ntmps - cargs.toArray.size) undef).size := fun d hd => by
            have := List.all_eq_true.1 hcond.2 d hd
            simp at this ⊢
            omega
          have hs := (sound (callF_ok H hdr m n) hdr H.fnOk m b _ w0 M β none yld (hy.mono hM1 hβ1) (.inl rfl)).1 c hc hd (.refl _ M) (.refl β) (st := { env := initEnv 0 args .leaf, h, nid, dfr := [] }) ⟨G, hE, S, hf, rfl⟩ hk
          refine wpIn_mono hs ?_
          rintro x a w' ⟨M', β', ex, st, h1, h2, C, hx, hK⟩
          have hret : (ex = .normal ∨ ex = .ret) → LeavesInM (fence none) 0 P fn a.tmps (CallPost M β w0 K) a.defers .returning w' := fun he => by
            have hK' : match dropMarks st.dfr st.h with
              | some h => match Abs.results rs st.env h with
                | some v => K (.returned v) h st.nid
                | none => Ans.ff
              | none => (Ans.ff : Prop) := by rcases he with rfl | rfl <;> exact hK
            split at hK'
            · rename_i h' hdm
              split at hK'
              · rename_i v hv
                refine leaves_marks C.dfr hdm C.sim fun w2 S2 => ?_
                obtain ⟨c', hc', hr⟩ := results_run C.env S2 hrs hv
                exact ⟨c', hc', M', β', .returned v, h', st.nid, h1, h2, S2, C.fresh, hr, hK'⟩
              · exact hK'.elim
            · exact hK'.elim
          cases x with
          | normal => cases ex <;> first | exact False.elim hx | exact hret (.inl rfl)
          | ret => cases ex <;> first | exact False.elim hx | exact hret (.inr rfl)
          | panic ch =>
            cases ex <;> first | exact False.elim hx | skip
            rename_i ch'
            simp only at hK
            split at hK
            · rename_i hd
              have hdf := C.dfr
              rw [hd] at hdf
              have hdf' : a.defers = [] := hdf
              show LeavesInM (fence none) 0 P fn a.tmps (CallPost M β w0 K) a.defers (.panicking ch) w'
              rw [hdf']
              exact ⟨M', β', .panicked ch', st.h, st.nid, h1, h2, C.sim, C.fresh, hx, hK⟩
            · exact hK.elim
          | exit id => cases ex <;> first | exact False.elim hx | exact hK.elim
          | goto id => cases ex <;> first | exact False.elim hx | exact hK.elim
          | outgrown => cases ex <;> exact False.elim hx
        · cases hcf
      · exact hk.elim

/-- A function that answers on values as F says. -/
theorem PureSpec.of_tells (H : CtxOk P gl cx) (hdr : DrawnOk P gl cx) {f : FuncId} {F : List V → Option V} (hF : ∀ args r, V.imm.imms args = true → F args = some r → Tells cx f args r) : PureSpec P gl f F := by
  intro M args cargs r w G hok himm R hr
  obtain ⟨m, n, hk⟩ := hF args r himm hr
  have hcalls := callF_ok H hdr m n M nowhere _ (YldOk.none P gl M nowhere) f args .leaf 0 _ hk
  have S : Sim M nowhere (T.leaf : Heap).get w w := {
    below := .refl _ w
    mem := hok.mem
    memo := hok.memo
    maps := hok.maps
    sane := fun b i h => by cases h
    obj := fun b o h => by simp [T.get] at h
    sep := fun b b' o o' i i' _ h => by simp [T.get] at h }
  refine (hcalls M nowhere w w cargs (.refl M) (.refl _) G S (fun _ _ => rfl) R).mono ?_
  rintro e w' ⟨M', β', en, h', nid', hM, hβ, S', hf, hen, hK⟩
  cases en with
  | panicked ch => exact hK.elim
  | returned v =>
    cases e with
    | panicked _ => exact False.elim hen
    | outgrown => exact False.elim hen
    | returned c =>
      simp only [EndRel] at hen
      simp only at hK
      obtain ⟨M2, h1, h2, S2, h4⟩ := Sim.freezeAll (touched h'.get deep v) S'
      exact ⟨M2, c, rfl, hM.1.trans h1, hM.2.trans h2, S2.memOk, S2.below, (reify_one hK).2, reify_rel (β := β') h4 hK (hen.mono h1 (.refl β')) nowhere⟩

end
end Go.Abs
