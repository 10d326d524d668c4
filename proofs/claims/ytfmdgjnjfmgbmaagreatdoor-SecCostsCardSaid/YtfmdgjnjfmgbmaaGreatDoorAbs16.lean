/-
  ABS, part 16: slices cut; lengths; copy; append.
-/
import Derived.Test.YtfmdgjnjfmgbmaaGreatDoorAbs15
namespace Go.Abs
open Go Go.RowKit
set_option linter.unusedSectionVars false
variable [Syms]

section
variable {P : Program} {M : Mem} {β : Places} {w0 w : World} {hp : Heap} {id N : Nat} {e : Env} {a : Act} {gl : Nat → Option (List V)} {g : View} {o : Oper} {i : I} {eff : Eff}

theorem f_sliceL (G : Globs gl M) (E : EnvRel M β N e a) (S : Sim M β hp.get w0 w) (hg : ∀ b o, g b = some o → hp.get b = some o) {t el : TypeId} {x : Operand} {lo hi mx : Option Operand} (ho : o.op = .slice t x lo hi mx) (hd : P.underlying t = some (.slice el)) {n : Nat} (hn : tSize P el = some n)
    (hmh : (mx.isSome && hi.isNone) = false) {x' : X} {lo' hi' mx' : Option X} (hx : cX gl x = some x') (hlo : cXo gl lo = some lo') (hhi : cXo gl hi = some hi') (hmx : cXo gl mx = some mx') (hev : evI g id e (.sliceL n x' lo' hi' mx') = some eff) :
    Follows P M β w0 w (execOp a.eval o) hp id eff := by
  have hr := cX_rel G E hx
  simp only [evI, Option.map_eq_some_iff] at hev
  obtain ⟨v, hv, rfl⟩ := hev
  -- the model's bounds, out of the evaluator's
  have bounds : ∀ (len most cap l h m : Nat), most ≤ cap → len ≤ most → (match mx' with | none => bound e hi' len most = some h ∧ m = cap | some _ => bound e mx' 0 most = some m ∧ bound e hi' len m = some h) → bound e lo' 0 h = some l →
      (Instr.sliceBounds true len cap (lo.map a.eval) (hi.map a.eval) (mx.map a.eval)).run P w = .ok (l, h, m) w ∧ l ≤ h ∧ h ≤ m ∧ m ≤ cap := by
    intro len most cap l h m hmc hlm hm hl
    cases mx with
    | none =>
      simp only [cXo, Option.some.injEq] at hmx
      subst hmx
      obtain ⟨hh, rfl⟩ := hm
      rcases bound_run (P := P) G E hhi hh with ⟨rfl, rfl, rfl⟩ | ⟨y, y', rfl, rfl, hle, k, q, hy, _, _, hrun⟩
      · rcases bound_run (P := P) G E hlo hl with ⟨rfl, rfl, rfl⟩ | ⟨z, z', rfl, rfl, hle2, k2, m2, hz, _, _, hrun2⟩
        · exact ⟨by simp [Instr.sliceBounds], by omega, by omega, Nat.le_refl _⟩
        · exact ⟨by simp [Instr.sliceBounds, hz, hrun2 _ _ _ hle2], hle2, by omega, Nat.le_refl _⟩
      · rcases bound_run (P := P) G E hlo hl with ⟨rfl, rfl, rfl⟩ | ⟨z, z', rfl, rfl, hle2, k2, m2, hz, _, _, hrun2⟩
        · exact ⟨by simp [Instr.sliceBounds, hy, hrun m .sliceAcap w (by omega)], by omega, by omega, Nat.le_refl _⟩
        · exact ⟨by simp [Instr.sliceBounds, hy, hrun m .sliceAcap w (by omega), hz, hrun2 _ _ _ hle2], hle2, by omega, Nat.le_refl _⟩
    | some mo =>
      cases hi with
      | none => simp at hmh
      | some ho' =>
        have hmx2 := hmx
        simp only [cXo, Option.map_eq_some_iff] at hmx2
        obtain ⟨my, _, rfl⟩ := hmx2
        obtain ⟨hmm, hh⟩ := hm
        rcases bound_run (P := P) G E hmx hmm with ⟨h1, _⟩ | ⟨q, q', hq, _, hqle, k0, m0, hq0, _, _, hrun0⟩
        · cases h1
        · cases hq
          rcases bound_run (P := P) G E hhi hh with ⟨h1, _⟩ | ⟨y, y', hy', _, hle, k, q, hy, _, _, hrun⟩
          · cases h1
          · cases hy'
            rcases bound_run (P := P) G E hlo hl with ⟨rfl, rfl, rfl⟩ | ⟨z, z', rfl, rfl, hle2, k2, m2, hz, _, _, hrun2⟩
            · exact ⟨by simp [Instr.sliceBounds, hq0, hrun0 cap .slice3Acap w (by omega), hy, hrun m .slice3B w hle], by omega, hle, by omega⟩
            · exact ⟨by simp [Instr.sliceBounds, hq0, hrun0 cap .slice3Acap w (by omega), hy, hrun m .slice3B w hle, hz, hrun2 h .slice3C w hle2], hle2, hle, by omega⟩
  have hrun : ∀ (A : Option Addr) (len cap l h m : Nat), a.eval x = .slice A len cap → (Instr.sliceBounds true len cap (lo.map a.eval) (hi.map a.eval) (mx.map a.eval)).run P w = .ok (l, h, m) w →
      (execOp a.eval o).run P w = .ok (.value (.slice (if m = l then A else A.map (·.add (l * n))) (h - l) (m - l))) w := by
    intro A len cap l h m he hb
    simp only [execOp, ho, he, Instr.sliceAt, Sem.run_bind, run_underlying hd, Result.andThen_ok, Instr.slice, hb, tSize_run hn, Sem.run_pure]
  cases hxv : x'.val e with
  | nilSlice =>
    rw [hxv] at hv hr; simp only [Rel] at hr
    simp only [evSlice, Option.bind_eq_some_iff] at hv
    obtain ⟨m, hm, h, hh, l, hl, hv⟩ := hv
    cases hv
    have hm0 : m = 0 := by
      rcases bound_run (P := P) G E hmx hm with ⟨_, _, h⟩ | ⟨_, _, _, _, h, _⟩ <;> omega
    subst hm0
    have hb := bounds 0 0 0 l h 0 (Nat.le_refl _) (Nat.le_refl _) (by
      cases mx' with
      | none => exact ⟨hh, rfl⟩
      | some _ => exact ⟨hm, hh⟩) hl
    obtain ⟨hb, h1, h2, _⟩ := hb
    have hl0 : l = 0 := by omega
    have hh0 : h = 0 := by omega
    subst hl0 hh0
    exact Follows.same S (hrun none 0 0 0 0 0 hr hb) (by simp [Rel])
  | slice b off len cap =>
    rw [hxv] at hv hr; simp only [Rel] at hr
    obtain ⟨j, c, hj, hle, hcap, hext, hsize, A, he, hA⟩ := hr
    simp only [evSlice] at hv
    rw [Option.bind_eq_some_iff] at hv
    obtain ⟨_, hesz, hv⟩ := hv
    · have hesz' : j.esz = n := by
        split at hesz
        · rename_i cs es fz sp hb
          obtain ⟨j', hj', h1, _⟩ := S.cell (hg _ _ hb)
          rw [hj] at hj'; cases hj'
          split at hesz
          · rename_i he'; rw [← h1]; exact he'
          · cases hesz
        · cases hesz
      have hmost : cap.getD len ≤ c ∧ len ≤ cap.getD len := by
        cases cap with
        | none => exact ⟨hle, Nat.le_refl _⟩
        | some k => have := hcap k rfl; subst this; exact ⟨Nat.le_refl _, hle⟩
      have fin : ∀ l h m cap', (Instr.sliceBounds true len c (lo.map a.eval) (hi.map a.eval) (mx.map a.eval)).run P w = .ok (l, h, m) w → l ≤ h → h ≤ m → m ≤ c → (∀ k, cap' = some k → k = m - l) → (cap' = none → cap = none ∧ m = c) →
          Follows P M β w0 w (execOp a.eval o) hp id { val := .slice b (off + l * n) (h - l) cap' } := by
        intro l h m cap' hb hlh hhm hmc hc1 hc2
        refine Follows.same S (hrun (some A) len c l h m he hb) ?_
        simp only [Rel]
        have hmul : l * n + (m - l) * n = m * n := by rw [← Nat.add_mul]; congr 1; omega
        have hmulc : m * n ≤ c * n := Nat.mul_le_mul_right _ hmc
        rw [hesz'] at hext hsize
        refine ⟨j, m - l, hj, by omega, hc1, fun hn' => ?_, by rw [hesz']; omega, ?_⟩
        · obtain ⟨h1, h2⟩ := hc2 hn'
          have := hext h1
          subst h2
          rw [hesz']; omega
        · by_cases hml : m = l
          · exact ⟨A, by simp [hml], fun hne => by omega⟩
          · refine ⟨⟨j.blk, j.off + (off + l * n), none⟩, ?_, fun _ => rfl⟩
            have := hA (by omega)
            subst this
            simp [hml, add_none, Nat.add_assoc]
      cases mx' with
      | none =>
        simp only [Option.bind_eq_some_iff] at hv
        obtain ⟨h, hh, l, hl, hv⟩ := hv
        cases hv
        -- the upper bound may be up to the capacity that is known
        have hb2 : bound e hi' len (cap.getD len) = some h := hh
        obtain ⟨hb, h1, h2, h3⟩ := bounds len (cap.getD len) c l h c hmost.1 hmost.2 ⟨hb2, rfl⟩ hl
        exact fin l h c _ hb h1 h2 h3 (fun k hk => by cases cap with | none => cases hk | some q => simp at hk; have := hcap q rfl; omega) (fun hk => by cases cap with | none => exact ⟨rfl, rfl⟩ | some q => cases hk)
      | some mm =>
        simp only [Option.bind_eq_some_iff] at hv
        obtain ⟨m, hm, h, hh, l, hl, hv⟩ := hv
        cases hv
        obtain ⟨hb, h1, h2, h3⟩ := bounds len (cap.getD len) c l h m hmost.1 hmost.2 ⟨hm, hh⟩ hl
        exact fin l h m _ hb h1 h2 h3 (fun k hk => by simp at hk; omega) (fun hk => by cases hk)
  | rslice row off len cap =>
    rw [hxv] at hv hr; simp only [Rel] at hr
    obtain ⟨B, O, c, hrow, hle, hcap, A, he, hA⟩ := hr
    simp only [evSlice] at hv
    have fin : ∀ l h m cap', (Instr.sliceBounds true len c (lo.map a.eval) (hi.map a.eval) (mx.map a.eval)).run P w = .ok (l, h, m) w → l ≤ h → h ≤ m → m ≤ c → (∀ k, cap' = some k → k = m - l) →
        Follows P M β w0 w (execOp a.eval o) hp id { val := .rslice row (off + l * n) (h - l) cap' } := by
      intro l h m cap' hb hlh hhm hmc hc1
      refine Follows.same S (hrun (some A) len c l h m he hb) ?_
      simp only [Rel]
      refine ⟨B, O, m - l, hrow, by omega, hc1, ?_⟩
      by_cases hml : m = l
      · exact ⟨A, by simp [hml], fun hne => by omega⟩
      · refine ⟨⟨B, O + (off + l * n), none⟩, ?_, fun _ => rfl⟩
        have := hA (by omega)
        subst this
        simp [hml, add_none, Nat.add_assoc]
    cases mx' with
    | none =>
      simp only [Option.bind_eq_some_iff] at hv
      obtain ⟨h, hh, l, hl, hv⟩ := hv
      cases hv
      obtain ⟨hb, h1, h2, h3⟩ := bounds len len c l h c hle (Nat.le_refl _) ⟨hh, rfl⟩ hl
      exact fin l h c _ hb h1 h2 h3 (fun k hk => by cases cap with | none => cases hk | some q => simp at hk; have := hcap q rfl; omega)
    | some mm =>
      simp only [Option.bind_eq_some_iff] at hv
      obtain ⟨m, hm, h, hh, l, hl, hv⟩ := hv
      cases hv
      obtain ⟨hb, h1, h2, h3⟩ := bounds len len c l h m hle (Nat.le_refl _) ⟨hm, hh⟩ hl
      exact fin l h m _ hb h1 h2 h3 (fun k hk => by simp at hk; omega)
  | _ => rw [hxv] at hv; simp [evSlice] at hv

theorem vlen_rel {v : V} {c : Value} (h : Rel M β v c) {n : Nat} (hv : vlen v = some n) : (∃ A q, c = .slice A n q ∧ n ≤ q) ∨ ∃ s, c = .string s ∧ s.size = n := by
  cases v <;> simp [vlen] at hv <;> simp only [Rel] at h
  · obtain ⟨s, rfl, hs⟩ := h; subst hs; rw [bytesOf_length] at hv; exact .inr ⟨s, rfl, hv⟩
  · subst h hv; exact .inl ⟨none, 0, rfl, Nat.le_refl _⟩
  · obtain ⟨i, q, _, hle, _, _, _, A, rfl, _⟩ := h; subst hv; exact .inl ⟨some A, q, rfl, hle⟩
  · obtain ⟨B, O, q, _, hle, _, A, rfl, _⟩ := h; subst hv; exact .inl ⟨some A, q, rfl, hle⟩

theorem f_lenStr (G : Globs gl M) (E : EnvRel M β N e a) (S : Sim M β hp.get w0 w) {c : Call} {t : TypeId} {x : Operand} (ho : o.op = .call c) (hcal : c.callee = .builtin .len) (hargs : c.args.toList = [x]) (hts : c.argTypes.toList = [t]) (hd : P.underlying t = some .string) {x' : X}
    (hx : cX gl x = some x') (hev : evI g id e (.lenStr x') = some eff) : Follows P M β w0 w (execOp a.eval o) hp id eff := by
  have hr := cX_rel G E hx
  obtain ⟨callee, args, argTypes⟩ := c
  simp only at hcal hargs hts
  subst hcal
  have ha : args = #[x] := Array.toList_inj.1 (by simpa using hargs)
  have ht : argTypes = #[t] := Array.toList_inj.1 (by simpa using hts)
  subst ha ht
  simp only [evI] at hev
  split at hev
  · rename_i s hv
    cases hev
    rw [hv] at hr; simp only [Rel] at hr
    obtain ⟨bs, he, rfl⟩ := hr
    refine Follows.same S (c := .int .i64 bs.size) ?_ (by simp only [Rel, bytesOf_length])
    simp [execOp, ho, Go.resolve, invoke, builtin, Builtin.len_, run_underlying hd, he, goInt]
  · rename_i s hv
    cases hev
    rw [hv] at hr; simp only [Rel] at hr
    obtain ⟨bs, he, hw⟩ := hr
    have hl := hw.length
    refine Follows.same S (c := .int .i64 bs.size) ?_ (by simp only [Rel]; rw [← hl, bytesOf_length])
    simp [execOp, ho, Go.resolve, invoke, builtin, Builtin.len_, run_underlying hd, he, goInt]
  · cases hev

theorem f_lenSlice (G : Globs gl M) (E : EnvRel M β N e a) (S : Sim M β hp.get w0 w) {c : Call} {t el : TypeId} {x : Operand} (ho : o.op = .call c) (hcal : c.callee = .builtin .len) (hargs : c.args.toList = [x]) (hts : c.argTypes.toList = [t]) (hd : P.underlying t = some (.slice el)) {x' : X}
    (hx : cX gl x = some x') (hev : evI g id e (.lenSlice x') = some eff) : Follows P M β w0 w (execOp a.eval o) hp id eff := by
  have hr := cX_rel G E hx
  obtain ⟨callee, args, argTypes⟩ := c
  simp only at hcal hargs hts
  subst hcal
  have ha : args = #[x] := Array.toList_inj.1 (by simpa using hargs)
  have ht : argTypes = #[t] := Array.toList_inj.1 (by simpa using hts)
  subst ha ht
  simp only [evI] at hev
  split at hev
  · cases hev
  · rename_i hns
    simp only [Option.map_eq_some_iff] at hev
    obtain ⟨n, hn, rfl⟩ := hev
    rcases vlen_rel hr hn with ⟨A, q, he, _⟩ | ⟨s, he, hs⟩
    · refine Follows.same S (c := .int .i64 n) ?_ (by simp only [Rel])
      simp [execOp, ho, Go.resolve, invoke, builtin, Builtin.len_, run_underlying hd, he, goInt]
    · exfalso
      cases hxv : x'.val e <;> rw [hxv] at hr hns hn <;> simp [vlen] at hn <;> simp only [Rel] at hr
      · exact hns _ rfl
      · rw [he] at hr; cases hr
      · obtain ⟨i, q, _, _, _, _, _, A, h, _⟩ := hr; rw [he] at h; cases h
      · obtain ⟨B, O, q, _, _, _, A, h, _⟩ := hr; rw [he] at h; cases h

theorem f_lenMap (G : Globs gl M) (E : EnvRel M β N e a) (S : Sim M β hp.get w0 w) (hg : ∀ b o, g b = some o → hp.get b = some o) {c : Call} {t kt el : TypeId} {x : Operand} (ho : o.op = .call c) (hcal : c.callee = .builtin .len) (hargs : c.args.toList = [x]) (hts : c.argTypes.toList = [t])
    (hd : P.underlying t = some (.map kt el)) {x' : X} (hx : cX gl x = some x') (hev : evI g id e (.lenMap x') = some eff) : Follows P M β w0 w (execOp a.eval o) hp id eff := by
  have hr := cX_rel G E hx
  obtain ⟨callee, args, argTypes⟩ := c
  simp only at hcal hargs hts
  subst hcal
  have ha : args = #[x] := Array.toList_inj.1 (by simpa using hargs)
  have ht : argTypes = #[t] := Array.toList_inj.1 (by simpa using hts)
  subst ha ht
  simp only [evI] at hev
  split at hev
  · rename_i hv
    cases hev
    rw [hv] at hr; simp only [Rel] at hr
    refine Follows.same S (c := .int .i64 0) ?_ (by simp only [Rel])
    simp [execOp, ho, Go.resolve, invoke, builtin, Builtin.len_, run_underlying hd, hr, goInt]
  · rename_i ks vs hv
    split at hev
    · rename_i hlen
      cases hev
      rw [hv] at hr; simp only [Rel] at hr
      obtain ⟨r, es, clock, he, hMo, hks, hvs, _⟩ := hr
      obtain ⟨_, hl1, _⟩ := RelEnt_of hks hvs
      have hgo := run_getObj (P := P) (S.memo _ _ hMo) (fun _ _ _ h => by cases h)
      refine Follows.same S (c := .int .i64 es.size) ?_ (by simp only [Rel]; rw [hl1]; simp)
      simp [execOp, ho, Go.resolve, invoke, builtin, Builtin.len_, run_underlying hd, he, hgo, goInt]
    · cases hev
  · rename_i b hv
    split at hev
    · rename_i es clock fzn hb
      cases hev
      rw [hv] at hr; simp only [Rel] at hr
      obtain ⟨j, hj, he⟩ := hr
      obtain ⟨j', hj', _, ces, hw, hent, _⟩ := S.obj _ _ (hg _ _ hb)
      rw [hj] at hj'; cases hj'
      have hgo := run_getObj (P := P) hw (fun _ _ _ h => by cases h)
      have hl := hent.length
      refine Follows.same S (c := .int .i64 ces.size) ?_ (by simp only [Rel]; rw [← hl]; simp)
      simp [execOp, ho, Go.resolve, invoke, builtin, Builtin.len_, run_underlying hd, he, hgo, goInt]
    · cases hev
  · cases hev

theorem sx_means {v : V} {x : Sx} (h : v.sx = some x) {c : Value} (hr : Rel M β v c) : ∃ n, c = .int x.kind n ∧ x.Means n := by
  unfold V.sx at h
  split at h
  · cases h
    simp only [Rel] at hr
    exact ⟨_, hr, (Poly.at_const _).symm, Int.le_refl _, Int.le_refl _, fun f h => nomatch h⟩
  · cases h
    simp only [Rel] at hr
    exact hr
  · cases h

theorem f_minmax (G : Globs gl M) (E : EnvRel M β N e a) (S : Sim M β hp.get w0 w) {c : Call} {x y : Operand} {mx : Bool} (ho : o.op = .call c) (hcal : c.callee = .builtin (if mx then .max else .min)) (hargs : c.args.toList = [x, y]) {x' y' : X}
    (hx : cX gl x = some x') (hy : cX gl y = some y') (hev : evI g id e (.minmax mx x' y') = some eff) : Follows P M β w0 w (execOp a.eval o) hp id eff := by
  have hr := cX_rel G E hx
  have hq := cX_rel G E hy
  obtain ⟨callee, args, argTypes⟩ := c
  simp only at hcal hargs
  subst hcal
  have ha : args = #[x, y] := Array.toList_inj.1 (by simpa using hargs)
  subst ha
  simp only [evI] at hev
  split at hev
  · rename_i k p k' q hv1 hv2
    split at hev
    · rename_i hk
      subst hk
      cases hev
      rw [hv1] at hr; rw [hv2] at hq; simp only [Rel] at hr hq
      cases mx with
      | true =>
        refine Follows.same S (c := .int k (if q > p then q else p)) ?_ (by simp only [Rel, if_true])
        simp [execOp, ho, Go.resolve, invoke, builtin, Builtin.max_, Builtin.max2, hr, hq]
      | false =>
        refine Follows.same S (c := .int k (if q < p then q else p)) ?_ (by simp only [Rel, Bool.false_eq_true, if_false])
        simp [execOp, ho, Go.resolve, invoke, builtin, Builtin.min_, Builtin.min2, hr, hq]
    · cases hev
  · rename_i p q hv1 hv2
    cases hev
    rw [hv1] at hr; rw [hv2] at hq; simp only [Rel] at hr hq
    obtain ⟨s1, e1, rfl⟩ := hr
    obtain ⟨s2, e2, rfl⟩ := hq
    have hl := bytesOf_less s1 s2
    have he : (s1.toList == s2.toList) = (bytesOf s1 == bytesOf s2) := bytesOf_beq s1 s2
    cases mx with
    | true =>
      refine Follows.same S (c := .string (if Op.bytesLess s1.toList s2.toList then s2 else s1)) ?_ ?_
      · simp only [execOp, ho, Go.resolve, Sem.run_bind, Sem.run_pure, Result.andThen_ok, invoke, builtin, Builtin.max_, List.map_toArray, List.map_cons, List.map_nil, e1, e2, List.foldlM_cons, List.foldlM_nil, Builtin.max2, Op.stringOp, asBool, if_true]
        cases Op.bytesLess s1.toList s2.toList <;> rfl
      · simp only [Rel, if_true]
        refine ⟨_, rfl, ?_⟩
        rw [hl]; split <;> rfl
    | false =>
      refine Follows.same S (c := .string (if Op.bytesLess s1.toList s2.toList || s1.toList == s2.toList then s1 else s2)) ?_ ?_
      · simp only [execOp, ho, Go.resolve, Sem.run_bind, Sem.run_pure, Result.andThen_ok, invoke, builtin, Builtin.min_, List.map_toArray, List.map_cons, List.map_nil, e1, e2, List.foldlM_cons, List.foldlM_nil, Builtin.min2, Op.stringOp, asBool, Bool.false_eq_true, if_false]
      · simp only [Rel, Bool.false_eq_true, if_false]
        refine ⟨_, rfl, ?_⟩
        rw [hl, he]; split <;> rfl
  · simp only [Option.map_eq_some_iff] at hev
    obtain ⟨r, hsm, rfl⟩ := hev
    unfold symMax at hsm
    split at hsm
    · rename_i sx sy hsx hsy
      obtain ⟨p, hp', hmp⟩ := sx_means hsx hr
      obtain ⟨q, hq', hmq⟩ := sx_means hsy hq
      split at hsm
      · rename_i hk
        rw [← hk] at hq'
        have b1 := hmp.bnd
        have b2 := hmq.bnd
        rw [hp'] at hr
        rw [hq'] at hq
        cases mx with
        | true =>
          refine Follows.same S (c := .int sx.kind (if q > p then q else p)) ?_ ?_
          · simp [execOp, ho, Go.resolve, invoke, builtin, Builtin.max_, Builtin.max2, hp', hq']
          · split at hsm
            · cases hsm
              simp only [if_true]
              by_cases hc : q > p
              · rw [if_pos hc]; exact hq
              · rw [if_neg hc, show p = q by omega]; exact hq
            · split at hsm
              · cases hsm
                simp only [if_true]
                rw [if_neg (by omega)]; exact hr
              · cases hsm
        | false =>
          refine Follows.same S (c := .int sx.kind (if q < p then q else p)) ?_ ?_
          · simp [execOp, ho, Go.resolve, invoke, builtin, Builtin.min_, Builtin.min2, hp', hq']
          · split at hsm
            · cases hsm
              simp only [Bool.false_eq_true, if_false]
              rw [if_neg (by omega)]; exact hr
            · split at hsm
              · cases hsm
                simp only [Bool.false_eq_true, if_false]
                by_cases hc : q < p
                · rw [if_pos hc]; exact hq
                · rw [if_neg hc, show p = q by omega]; exact hq
              · cases hsm
      · cases hsm
    · cases hsm

end
end Go.Abs
