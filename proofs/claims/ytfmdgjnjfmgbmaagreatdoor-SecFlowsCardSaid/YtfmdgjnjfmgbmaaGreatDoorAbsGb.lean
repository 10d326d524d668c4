/-
  Abs10, Abs11, Abs12, Abs13, Abs14, put together in one file.
-/
import Derived.Test.YtfmdgjnjfmgbmaaGreatDoorAbsGa
/-
  ABS, part 10: the other operations on values alone.
-/
namespace Go.Abs
open Go Go.RowKit
set_option linter.unusedSectionVars false
variable [Syms]

section
variable {P : Program}

theorem tZero_run {t : TypeId} {z : V} (h : tZero P t = some z) : ∃ c, (∀ w, (zeroValue t).run P w = .ok c w) ∧ ∀ M β, Rel M β z c := by
  unfold tZero at h
  simp only [Option.bind_eq_some_iff] at h
  obtain ⟨c, ⟨i, hi, hz⟩, hc⟩ := h
  exact ⟨c, fun w => by simp [zeroValue, typeInfo, hi, hz], fun M β => ofConst_rel M β _ _ _ hc⟩

theorem tSize_run {t : TypeId} {n : Nat} (h : tSize P t = some n) : ∀ w, (sizeOf t).run P w = .ok n w := by
  unfold tSize at h
  simp only [Option.map_eq_some_iff] at h
  obtain ⟨i, hi, rfl⟩ := h
  intro w; simp [sizeOf, typeInfo, hi]

theorem tSize_cellsOf {t : TypeId} {n : Nat} (h : tSize P t = some n) : P.cellsOf t = n := by
  unfold tSize at h
  simp only [Option.map_eq_some_iff] at h
  obtain ⟨i, hi, rfl⟩ := h
  simp [Program.cellsOf, hi]

theorem tBytes_run {t : TypeId} {n : Nat} (h : tBytes P t = some n) : ∃ i, i.bytes = n ∧ ∀ w, (typeInfo t).run P w = .ok i w := by
  unfold tBytes at h
  simp only [Option.map_eq_some_iff] at h
  obtain ⟨i, hi, rfl⟩ := h
  exact ⟨i, rfl, fun w => by simp [typeInfo, hi]⟩

theorem tAgg_run {t : TypeId} {g : Bool} (h : tAgg P t = some g) : ∀ w, (isAgg t).run P w = .ok g w := by
  unfold tAgg at h
  intro w
  cases hd : P.underlying t with
  | none => simp [hd] at h
  | some d =>
    simp only [hd, Option.map_some, Option.some.injEq] at h
    subst h
    cases d <;> simp [isAgg, run_underlying hd]
end

section
variable {P : Program} {M : Mem} {β : Places} {w0 w : World} {hp : Heap} {id N : Nat} {e : Env} {a : Act} {gl : Nat → Option (List V)} {g : View} {o : Oper} {i : I} {eff : Eff}

theorem eq_of_equalIn {t : TypeId} {x y : Operand} {c d : Value} {b : Bool} {w : World} (he : ∀ n, (Op.equalIn (n + 1) t c d).run P w = .ok b w) (h1 : Go.binOp .eql t c d = (do pure (.bool (← Op.equal t c d))))
    (h2 : Go.binOp .neq t c d = (do pure (.bool (!(← Op.equal t c d))))) (hg : ∀ op, eqGuard op t x y c d = pure ()) :
    (do eqGuard .eql t x y c d; Go.binOp .eql t c d : Sem Value).run P w = .ok (.bool b) w ∧ (do eqGuard .neq t x y c d; Go.binOp .neq t c d : Sem Value).run P w = .ok (.bool !b) w := by
  have he' : (Op.equal t c d).run P w = .ok b w := he 9999
  rw [hg, hg, h1, h2]
  simp only [Sem.run_bind, Sem.run_pure, Result.andThen_ok, he']
  exact ⟨trivial, trivial⟩

set_option maxHeartbeats 2000000 in
theorem run_eqOp {k : EqK} {t : TypeId} {x y : Operand} (hk : cEq P t x y = some k) {u v : V} {b : Bool} (h : eqOp k u v = some b) {c d : Value} (hu : Rel M β u c) (hv : Rel M β v d) (w : World) (hcx : isConst x = true ∨ isConst y = true ∨ k ≠ .ifaceNil) :
    (do eqGuard .eql t x y c d; Go.binOp .eql t c d : Sem Value).run P w = .ok (.bool b) w ∧ (do eqGuard .neq t x y c d; Go.binOp .neq t c d : Sem Value).run P w = .ok (.bool !b) w := by
  unfold cEq at hk
  split at hk
  · -- bool
    rename_i hd
    cases hk
    cases u <;> cases v <;> simp [eqOp] at h
    simp only [Rel] at hu hv
    subst hu hv h
    exact eq_of_equalIn (fun n => by simp [Op.equalIn, run_underlying hd]) rfl rfl (fun _ => eqGuard_at_bool ..)
  · rename_i fs hd
    split at hk
    · cases hk
    · rename_i hm
      simp only [Option.map_eq_some_iff] at hk
      obtain ⟨ks, hks, rfl⟩ := hk
      cases u <;> cases v <;> simp [eqOp] at h
      obtain ⟨⟨h1, h2⟩, rfl⟩ := h
      simp only [Rel] at hu hv
      obtain ⟨xs, rfl, hx⟩ := hu
      obtain ⟨ys, rfl, hy⟩ := hv
      have hm' : P.eqGuardType P.depth t = false := by simpa using hm
      have hq := run_equal_cks (M := M) (β := β) 1000 t ks true 10000 hks (by simp [tAgg, hd]) (by omega) _ _ (.agg xs) (.agg ys) w h1 h2 ⟨_, rfl, hx⟩ ⟨_, rfl, hy⟩
      simp only [Sem.run_bind, run_eqGuard_agg w _ t x y xs ys hm', Result.andThen_ok, run_eql_struct, run_neq_struct, hq]
      exact ⟨trivial, trivial⟩
  · rename_i fs hd
    split at hk
    · cases hk
    · simp only [Option.map_eq_some_iff] at hk
      obtain ⟨ks, hks, rfl⟩ := hk
      unfold tCks at hks
      simp [hd] at hks
  · rename_i el hd
    split at hk
    · cases hk
    · cases hk
      cases u <;> cases v <;> simp [eqOp] at h <;> simp only [Rel] at hu hv
      · subst hu hv h
        exact eq_of_equalIn (fun n => by simp [Op.equalIn, run_underlying hd]) rfl rfl (fun _ => eqGuard_at_pointer ..)
      · obtain ⟨i, _, rfl⟩ := hv; subst hu h
        exact eq_of_equalIn (fun n => by simp [Op.equalIn, run_underlying hd]) rfl rfl (fun _ => eqGuard_at_pointer ..)
      · obtain ⟨i, _, _, rfl⟩ := hv; subst hu h
        exact eq_of_equalIn (fun n => by simp [Op.equalIn, run_underlying hd]) rfl rfl (fun _ => eqGuard_at_pointer ..)
      · obtain ⟨i, _, rfl⟩ := hu; subst hv h
        exact eq_of_equalIn (fun n => by simp [Op.equalIn, run_underlying hd]) rfl rfl (fun _ => eqGuard_at_pointer ..)
      · obtain ⟨i, _, _, rfl⟩ := hu; subst hv h
        exact eq_of_equalIn (fun n => by simp [Op.equalIn, run_underlying hd]) rfl rfl (fun _ => eqGuard_at_pointer ..)
  · rename_i el hd
    cases hk
    cases u <;> cases v <;> simp [eqOp] at h <;> simp only [Rel] at hu hv
    · subst hu hv h
      exact eq_of_equalIn (fun n => by simp [Op.equalIn, run_underlying hd]) rfl rfl (fun _ => eqGuard_at_slice ..)
    · obtain ⟨i, n, _, _, _, _, _, ad, rfl, _⟩ := hv; subst hu h
      exact eq_of_equalIn (fun n => by simp [Op.equalIn, run_underlying hd]) rfl rfl (fun _ => eqGuard_at_slice ..)
    · obtain ⟨i, n, _, _, _, _, ad, rfl, _⟩ := hv; subst hu h
      exact eq_of_equalIn (fun n => by simp [Op.equalIn, run_underlying hd]) rfl rfl (fun _ => eqGuard_at_slice ..)
    · obtain ⟨i, n, _, _, _, _, _, ad, rfl, _⟩ := hu; subst hv h
      exact eq_of_equalIn (fun n => by simp [Op.equalIn, run_underlying hd]) rfl rfl (fun _ => eqGuard_at_slice ..)
    · obtain ⟨i, n, _, _, _, _, ad, rfl, _⟩ := hu; subst hv h
      exact eq_of_equalIn (fun n => by simp [Op.equalIn, run_underlying hd]) rfl rfl (fun _ => eqGuard_at_slice ..)
  · rename_i ky el hd
    cases hk
    cases u <;> cases v <;> simp [eqOp] at h <;> simp only [Rel] at hu hv
    · subst hu hv h
      exact eq_of_equalIn (fun n => by simp [Op.equalIn, run_underlying hd]) rfl rfl (fun _ => eqGuard_at_map ..)
    · obtain ⟨i, _, rfl⟩ := hu; subst hv h
      exact eq_of_equalIn (fun n => by simp [Op.equalIn, run_underlying hd]) rfl rfl (fun _ => eqGuard_at_map ..)
    · obtain ⟨r, es, _, rfl, _⟩ := hu; subst hv h
      exact eq_of_equalIn (fun n => by simp [Op.equalIn, run_underlying hd]) rfl rfl (fun _ => eqGuard_at_map ..)
  · rename_i hd
    cases hk
    cases u <;> cases v <;> simp [eqOp] at h <;> simp only [Rel] at hu hv
    · obtain ⟨f', x', y', _, rfl, _⟩ := hu; subst hv h
      exact eq_of_equalIn (fun n => by simp [Op.equalIn, run_underlying hd]) rfl rfl (fun _ => eqGuard_at_func ..)
    · obtain ⟨f', x', y', _, rfl, _⟩ := hv; subst hu h
      exact eq_of_equalIn (fun n => by simp [Op.equalIn, run_underlying hd]) rfl rfl (fun _ => eqGuard_at_nilFunc ..)
    · subst hu hv h
      exact eq_of_equalIn (fun n => by simp [Op.equalIn, run_underlying hd]) rfl rfl (fun _ => eqGuard_at_nilFunc ..)
  · rename_i ms hd
    split at hk
    · rename_i hxy
      cases hk
      cases u <;> cases v <;> simp [eqOp] at h <;> simp only [Rel] at hu hv
      · obtain ⟨d', rfl, _⟩ := hu; subst hv h
        exact eq_of_equalIn (fun n => by simp [Op.equalIn, run_underlying hd]) rfl rfl (fun _ => eqGuard_at_iface ..)
      · obtain ⟨d', rfl, _⟩ := hv; subst hu h
        exact eq_of_equalIn (fun n => by simp [Op.equalIn, run_underlying hd]) rfl rfl (fun _ => eqGuard_nil_iface ..)
      · subst hu hv h
        have hgd : ∀ op, eqGuard op t x y .nilIface .nilIface = pure () := fun op => by
          cases x <;> cases y <;> first | (simp [isConst] at hxy; done) | exact eqGuard_nil_constR .. | exact eqGuard_nil_constL ..
        exact eq_of_equalIn (fun n => by simp [Op.equalIn, run_underlying hd]) rfl rfl hgd
    · cases hk
  · cases hk

theorem f_eq (G : Globs gl M) (E : EnvRel M β N e a) (S : Sim M β hp.get w0 w) {neg : Bool} {t u : TypeId} {x y : Operand} (ho : o.op = .binOp (if neg then .neq else .eql) t x y u) {x' y' : X} (hx : cX gl x = some x') (hy : cX gl y = some y') {k : EqK}
    (hk : cEq P t x y = some k) (hev : evI g id e (.eq k neg x' y') = some eff) : Follows P M β w0 w (execOp a.eval o) hp id eff := by
  simp only [evI, Option.map_eq_some_iff] at hev
  obtain ⟨b, hb, rfl⟩ := hev
  have hcx : isConst x = true ∨ isConst y = true ∨ k ≠ .ifaceNil := by
    unfold cEq at hk
    split at hk <;> (try split at hk) <;> simp_all
    all_goals first
      | (right; right; rintro rfl; simp_all; done)
      | (rename_i h; rcases h with h | h <;> simp [h]; done)
      | skip
  obtain ⟨h1, h2⟩ := run_eqOp (P := P) hk hb (cX_rel G E hx) (cX_rel G E hy) w hcx
  cases neg with
  | false =>
    refine Follows.same S (c := .bool b) ?_ (by simp only [Rel]; rfl)
    simp only [execOp, ho, Bool.false_eq_true, if_false]
    simp only [Sem.run_bind, Sem.run_pure] at h1 ⊢
    rw [h1]; rfl
  | true =>
    refine Follows.same S (c := .bool !b) ?_ (by simp only [Rel]; rfl)
    simp only [execOp, ho, if_true]
    simp only [Sem.run_bind, Sem.run_pure] at h2 ⊢
    rw [h2]; rfl

end
end Go.Abs

/-
  ABS, part 11: conversions, addresses, parts, lengths, loads: followed.
-/
namespace Go.Abs
open Go Go.RowKit
set_option linter.unusedSectionVars false
variable [Syms]

section
variable {P : Program} {M : Mem} {β : Places} {w0 w : World} {hp : Heap} {id N : Nat} {e : Env} {a : Act} {gl : Nat → Option (List V)} {g : View} {o : Oper} {i : I} {eff : Eff}

theorem f_nilCheck (G : Globs gl M) (E : EnvRel M β N e a) (S : Sim M β hp.get w0 w) {x : Operand} (ho : o.op = .nilCheck x) (hc : cOp P gl (.nilCheck x) = some i) (hev : evI g id e i = some eff) :
    Follows P M β w0 w (execOp a.eval o) hp id eff := by
  simp only [cOp, Option.map_eq_some_iff] at hc
  obtain ⟨x', hx, rfl⟩ := hc
  have hr := cX_rel G E hx
  simp only [evI] at hev
  split at hev
  · rename_i b off hv
    cases hev; rw [hv] at hr
    have hr' := hr
    simp only [Rel] at hr'
    obtain ⟨j, hj, he⟩ := hr'
    exact Follows.same S (c := a.eval x) (by simp [execOp, ho, he]) hr
  · rename_i b off hv
    cases hev; rw [hv] at hr
    have hr' := hr
    simp only [Rel] at hr'
    obtain ⟨B, O, hj, he⟩ := hr'
    exact Follows.same S (c := a.eval x) (by simp [execOp, ho, he]) hr
  · rename_i b off f hv
    cases hev; rw [hv] at hr
    have hr' := hr
    simp only [Rel] at hr'
    obtain ⟨f', p, q, hf', he, hj⟩ := hr'
    simp only [FnRel] at hf'
    subst hf'
    exact Follows.same S (c := a.eval x) (by simp [execOp, ho, he]) hr
  · rename_i b off hv
    cases hev; rw [hv] at hr
    have hr' := hr
    simp only [Rel] at hr'
    obtain ⟨d, he, hj⟩ := hr'
    exact Follows.same S (c := a.eval x) (by simp [execOp, ho, he]) hr
  · cases hev

theorem symConv_ok {k : IntKind} {x : Sx} {v : V} {n : Int} (h : symConv k x = some v) (hm : x.Means n) : k.wrap n = n ∧ Rel M β v (.int k n) := by
  unfold symConv at h
  split at h
  · split at h
    · rename_i hz
      cases h
      have hm' := hm
      obtain ⟨h1, h2, h3, _⟩ := hm'
      exact ⟨wrap_lim (by omega) (by omega), by simp only [Rel]; exact ⟨n, rfl, hm⟩⟩
    · cases h
  · split at h
    · cases h
      have hm' := hm
      obtain ⟨h1, h2, _⟩ := hm'
      exact ⟨wrap_lim (by omega) (by omega), by simp only [Rel]; exact ⟨n, rfl, hm⟩⟩
    · cases h
  · split at h
    · rename_i hz
      cases h
      have hm' := hm
      obtain ⟨h1, h2⟩ := hm'
      exact ⟨wrap_lim (by omega) (by omega), by simp only [Rel]; exact ⟨n, rfl, hm⟩⟩
    · cases h

theorem f_convI (G : Globs gl M) (E : EnvRel M β N e a) (S : Sim M β hp.get w0 w) {src dst : TypeId} {x : Operand} (ho : o.op = .convert src dst x) {k k' : IntKind} (hs : P.underlying src = some (.int k')) (hd : P.underlying dst = some (.int k)) {x' : X}
    (hx : cX gl x = some x') (hev : evI g id e (.convI k x') = some eff) : Follows P M β w0 w (execOp a.eval o) hp id eff := by
  have hr := cX_rel G E hx
  simp only [evI] at hev
  split at hev
  · rename_i k2 n hv
    cases hev; rw [hv] at hr; simp only [Rel] at hr
    exact Follows.same S (c := .int k (k.wrap n)) (by simp [execOp, ho, hr, convert, run_underlying hs, run_underlying hd, Conv.intToInt]) (by simp only [Rel])
  · rename_i sx hv
    simp only [Option.map_eq_some_iff] at hev
    obtain ⟨v, hsv, rfl⟩ := hev
    rw [hv] at hr; simp only [Rel] at hr
    obtain ⟨n, hn, hm⟩ := hr
    obtain ⟨h1, h2⟩ := symConv_ok (M := M) (β := β) hsv hm
    refine Follows.same S (c := .int k (k.wrap n)) (by simp [execOp, ho, hn, convert, run_underlying hs, run_underlying hd, Conv.intToInt]) (by rw [h1]; exact h2)
  · cases hev

theorem f_runeS (G : Globs gl M) (E : EnvRel M β N e a) (S : Sim M β hp.get w0 w) {src dst : TypeId} {x : Operand} (ho : o.op = .convert src dst x) {k' : IntKind} (hs : P.underlying src = some (.int k')) (hd : P.underlying dst = some .string) {x' : X}
    (hx : cX gl x = some x') (hev : evI g id e (.runeS x') = some eff) : Follows P M β w0 w (execOp a.eval o) hp id eff := by
  have hr := cX_rel G E hx
  simp only [evI] at hev
  split at hev
  · rename_i k2 n hv
    split at hev
    · rename_i hn
      cases hev; rw [hv] at hr; simp only [Rel] at hr
      refine Follows.same S (c := .string (Utf8.encode n)) (by simp [execOp, ho, hr, convert, run_underlying hs, run_underlying hd, Conv.intToString]) ?_
      simp only [Rel]
      refine ⟨_, rfl, ?_⟩
      have h1 : Utf8.valid n = true := by simp [Utf8.valid]; omega
      have h2 : n.toNat < 128 := by omega
      simp only [Utf8.encode, h1, if_true, h2, bytesOf]
      simp
      omega
    · cases hev
  · rename_i sx hv
    split at hev
    · rename_i hb
      cases hev
      rw [hv] at hr; simp only [Rel] at hr
      obtain ⟨n, hn, hm⟩ := hr
      have hbn := hm.bnd
      refine Follows.same S (c := .string (Utf8.encode n)) (by simp [execOp, ho, hn, convert, run_underlying hs, run_underlying hd, Conv.intToString]) ?_
      simp only [Rel]
      refine ⟨_, rfl, ?_⟩
      have h1 : Utf8.valid n = true := by simp [Utf8.valid]; omega
      have h2 : n.toNat < 128 := by omega
      simp only [Utf8.encode, h1, if_true, h2, bytesOf]
      refine ⟨n.toNat, [], ?_, .inr ⟨rfl, by omega, by omega⟩, rfl⟩
      simp
      omega
    · cases hev
  · cases hev

theorem f_convId (G : Globs gl M) (E : EnvRel M β N e a) (S : Sim M β hp.get w0 w) {src dst : TypeId} {x : Operand} (ho : o.op = .convert src dst x) (hs : P.underlying src = some .string) (hd : P.underlying dst = some .string) {x' : X}
    (hx : cX gl x = some x') (hev : evI g id e (.convId x') = some eff) : Follows P M β w0 w (execOp a.eval o) hp id eff := by
  have hr := cX_rel G E hx
  simp only [evI] at hev
  split at hev
  · rename_i s hv
    cases hev; rw [hv] at hr
    have hr' := hr
    simp only [Rel] at hr'
    obtain ⟨s', he, hb⟩ := hr'
    exact Follows.same S (c := a.eval x) (by simp [execOp, ho, he, convert, run_underlying hs, run_underlying hd]) hr
  · cases hev

theorem f_iface (G : Globs gl M) (E : EnvRel M β N e a) (S : Sim M β hp.get w0 w) {t : TypeId} {x : Operand} (ho : o.op = .makeInterface t x) (hc : cOp P gl (.makeInterface t x) = some i) (hev : evI g id e i = some eff) :
    Follows P M β w0 w (execOp a.eval o) hp id eff := by
  simp only [cOp] at hc
  split at hc
  · cases hc
  · cases hc
  · rename_i d hd1 hd2
    simp only [Option.map_eq_some_iff] at hc
    obtain ⟨x', hx, rfl⟩ := hc
    simp only [evI, Option.some.injEq] at hev
    subst hev
    refine Follows.same S (c := .iface t (a.eval x)) ?_ (by simp only [Rel]; exact ⟨_, rfl, cX_rel G E hx⟩)
    cases hu : P.underlying t with
    | none => exact absurd hu hd2
    | some d => cases d <;> first | (exact absurd hu (hd1 _)) | simp [execOp, ho, Instr.makeInterface, run_underlying hu]

theorem f_func (G : Globs gl M) (E : EnvRel M β N e a) (S : Sim M β hp.get w0 w) {fn : Fn} {x y : Array Operand} (ho : o.op = .makeFunc fn x y) (hc : cOp P gl (.makeFunc fn x y) = some i) (hev : evI g id e i = some eff) :
    Follows P M β w0 w (execOp a.eval o) hp id eff := by
  simp only [cOp] at hc
  split at hc
  case isFalse => cases hc
  rename_i hny
  simp only [Option.bind_eq_some_iff, Option.map_eq_some_iff] at hc
  obtain ⟨x', hx, y', hy, rfl⟩ := hc
  simp only [evI, Option.some.injEq] at hev
  subst hev
  refine Follows.same S (c := .func fn (x.map a.eval) (y.map a.eval)) ?_ ?_
  · simp [execOp, ho, Instr.makeFunc]
  · simp only [Rel]
    exact ⟨_, _, _, FnRel.self β hny, rfl, by simpa using cXs_rel G E hx, by simpa using cXs_rel G E hy⟩

theorem f_fieldAddr (G : Globs gl M) (E : EnvRel M β N e a) (S : Sim M β hp.get w0 w) {t : TypeId} {x : Operand} {f : Nat} (ho : o.op = .fieldAddr t x f) (hc : cOp P gl (.fieldAddr t x f) = some i) (hev : evI g id e i = some eff) :
    Follows P M β w0 w (execOp a.eval o) hp id eff := by
  simp only [cOp] at hc
  split at hc
  · rename_i fs hd
    simp only [Option.bind_eq_some_iff] at hc
    obtain ⟨fd, hf, n, hn, hc⟩ := hc
    split at hc
    · cases hc
    · rename_i hn0
      simp only [Option.map_eq_some_iff] at hc
      obtain ⟨x', hx, rfl⟩ := hc
      have hr := cX_rel G E hx
      have key : ∀ (B O : Nat), a.eval x = .pointer (some ⟨B, O, none⟩) → (execOp a.eval o).run P w = .ok (.value (.pointer (some ⟨B, O + fd.offset, none⟩))) w := fun B O he => by
        simp [execOp, ho, he, Instr.fieldAt, run_underlying hd, hf, Instr.sureAddr, fieldPlace, tSize_run hn, hn0, add_none]
      simp only [evI] at hev
      split at hev
      · rename_i b off hv
        cases hev; rw [hv] at hr; simp only [Rel] at hr
        obtain ⟨j, hj, he⟩ := hr
        exact Follows.same S (key _ _ he) (by simp only [Rel]; exact ⟨j, hj, by rw [Nat.add_assoc]⟩)
      · rename_i b off hv
        cases hev; rw [hv] at hr; simp only [Rel] at hr
        obtain ⟨B, O, hj, he⟩ := hr
        exact Follows.same S (key _ _ he) (by simp only [Rel]; exact ⟨B, O, hj, by rw [Nat.add_assoc]⟩)
      · cases hev
  · cases hc

theorem f_indexAddr (G : Globs gl M) (E : EnvRel M β N e a) (S : Sim M β hp.get w0 w) {t : TypeId} {x y : Operand} (ho : o.op = .indexAddr t x y) (hc : cOp P gl (.indexAddr t x y) = some i) (hev : evI g id e i = some eff) :
    Follows P M β w0 w (execOp a.eval o) hp id eff := by
  simp only [cOp, Option.bind_eq_some_iff] at hc
  obtain ⟨x', hx, y', hy, hc⟩ := hc
  have hr := cX_rel G E hx
  have hq := cX_rel G E hy
  split at hc
  · rename_i el hd
    simp only [Option.map_eq_some_iff] at hc
    obtain ⟨n, hn, rfl⟩ := hc
    have key : ∀ (A : Addr) (len cap : Nat) (k : IntKind) (m : Int), a.eval x = .slice (some A) len cap → a.eval y = .int k m → 0 ≤ m ∧ m < len → (execOp a.eval o).run P w = .ok (.value (.pointer (some (A.add (m.toNat * n))))) w := fun A len cap k m he hy hm => by
      simp [execOp, ho, he, hy, Instr.indexAt, asIntOf, run_underlying hd, hm, tSize_run hn]
    simp only [evI] at hev
    split at hev
    · rename_i b off len cap k m hv1 hv2
      rw [hv1] at hr; rw [hv2] at hq; simp only [Rel] at hr hq
      obtain ⟨j, c, hj, hle, _, _, _, A, he, hA⟩ := hr
      split at hev
      · rename_i hm
        cases hev
        have := hA (by omega)
        subst this
        exact Follows.same S (key _ _ _ _ _ he hq hm) (by simp only [Rel, add_none]; exact ⟨j, hj, by rw [Nat.add_assoc]⟩)
      · cases hev
    · rename_i row off len cap k m hv1 hv2
      rw [hv1] at hr; rw [hv2] at hq; simp only [Rel] at hr hq
      obtain ⟨B, O, c, hj, hle, _, A, he, hA⟩ := hr
      split at hev
      · rename_i hm
        cases hev
        have := hA (by omega)
        subst this
        exact Follows.same S (key _ _ _ _ _ he hq hm) (by simp only [Rel, add_none]; exact ⟨B, O, hj, by rw [Nat.add_assoc]⟩)
      · cases hev
    · cases hev
  · rename_i len el hd
    simp only [Option.map_eq_some_iff] at hc
    obtain ⟨n, hn, rfl⟩ := hc
    have key : ∀ (A : Addr) (k : IntKind) (m : Int), a.eval x = .pointer (some A) → a.eval y = .int k m → 0 ≤ m ∧ m < len → (execOp a.eval o).run P w = .ok (.value (.pointer (some (A.add (m.toNat * n))))) w := fun A k m he hy hm => by
      simp [execOp, ho, he, hy, Instr.indexAt, Instr.sureAddr, asIntOf, run_underlying hd, hm, tSize_run hn]
    simp only [evI] at hev
    split at hev
    · rename_i b off k m hv1 hv2
      rw [hv1] at hr; rw [hv2] at hq; simp only [Rel] at hr hq
      obtain ⟨j, hj, he⟩ := hr
      split at hev
      · rename_i hm
        cases hev
        exact Follows.same S (key _ _ _ he hq hm) (by simp only [Rel, add_none]; exact ⟨j, hj, by rw [Nat.add_assoc]⟩)
      · cases hev
    · rename_i row off k m hv1 hv2
      rw [hv1] at hr; rw [hv2] at hq; simp only [Rel] at hr hq
      obtain ⟨B, O, hj, he⟩ := hr
      split at hev
      · rename_i hm
        cases hev
        exact Follows.same S (key _ _ _ he hq hm) (by simp only [Rel, add_none]; exact ⟨B, O, hj, by rw [Nat.add_assoc]⟩)
      · cases hev
    · cases hev
  · cases hc

theorem f_extract (G : Globs gl M) (E : EnvRel M β N e a) (S : Sim M β hp.get w0 w) {x : Operand} {n : Nat} (ho : o.op = .extract x n) (hc : cOp P gl (.extract x n) = some i) (hev : evI g id e i = some eff) :
    Follows P M β w0 w (execOp a.eval o) hp id eff := by
  simp only [cOp, Option.map_eq_some_iff] at hc
  obtain ⟨x', hx, rfl⟩ := hc
  have hr := cX_rel G E hx
  simp only [evI] at hev
  split at hev
  · rename_i vs hv
    simp only [Option.map_eq_some_iff] at hev
    obtain ⟨v, hvn, rfl⟩ := hev
    rw [hv] at hr; simp only [Rel] at hr
    obtain ⟨arr, he, hl⟩ := hr
    obtain ⟨c, hc, hcr⟩ := hl.get hvn
    exact Follows.same S (c := c) (by simp [execOp, ho, he, Instr.extract, ← Array.getElem?_toList, hc]) hcr
  · cases hev

/-- Part of a row, as the type reads. -/
theorem run_part_cells {t : TypeId} {gg : Bool} {n : Nat} (hg : tAgg P t = some gg) (hn : tSize P t = some n) {xs : Array Value} {u cs : List V} {v : V} (hu : RelL M β u xs.toList) {off : Nat}
    (hcs : cellsAt u off (if gg then n else 1) = some cs) (hv : ofCells gg cs = some v) (w : World) : ∃ c, (part t xs off).run P w = .ok c w ∧ Rel M β v c := by
  obtain ⟨hle, hlen, hget⟩ := cellsAt_some hcs
  have hcs' : cs = (u.drop off).take (if gg then n else 1) := by
    unfold cellsAt at hcs
    rw [if_pos hle] at hcs
    exact (Option.some.inj hcs).symm
  have key : RelL M β cs ((xs.toList.drop off).take (if gg then n else 1)) := by rw [hcs']; exact (hu.drop off).take _
  obtain ⟨h1, h2⟩ := ofCells_rel hv key
  cases gg with
  | true =>
    refine ⟨_, ?_, h1 rfl⟩
    simp only [part, Sem.run_bind, tAgg_run hg, tSize_run hn, Result.andThen_ok, if_true, Sem.run_pure]
    congr 2
    apply Array.ext'
    simp [Array.toList_extract, List.extract]
  | false =>
    obtain ⟨c, hc, hcr⟩ := h2 rfl
    refine ⟨c, ?_, hcr⟩
    have hx : xs[off]? = some c := by
      have : ((xs.toList.drop off).take 1)[0]? = some c := by
        have hc' : (xs.toList.drop off).take 1 = [c] := by simpa using hc
        rw [hc']; rfl
      rw [List.getElem?_take, if_pos (by omega), List.getElem?_drop] at this
      simpa using this
    simp [part, tAgg_run hg, hx]

theorem f_field (G : Globs gl M) (E : EnvRel M β N e a) (S : Sim M β hp.get w0 w) {t : TypeId} {x : Operand} {f : Nat} (ho : o.op = .field t x f) (hc : cOp P gl (.field t x f) = some i) (hev : evI g id e i = some eff) :
    Follows P M β w0 w (execOp a.eval o) hp id eff := by
  simp only [cOp] at hc
  split at hc
  · rename_i fs hd
    simp only [Option.bind_eq_some_iff, Option.map_eq_some_iff] at hc
    obtain ⟨fd, hf, gg, hg, n, hn, x', hx, rfl⟩ := hc
    have hr := cX_rel G E hx
    simp only [evI] at hev
    split at hev
    · rename_i cs hv
      simp only [Option.bind_eq_some_iff, Option.map_eq_some_iff] at hev
      obtain ⟨cs', hcs, v, hv', rfl⟩ := hev
      rw [hv] at hr; simp only [Rel] at hr
      obtain ⟨arr, he, hl⟩ := hr
      obtain ⟨c, h1, h2⟩ := run_part_cells (P := P) hg hn hl hcs hv' w
      exact Follows.same S (c := c) (by simp [execOp, ho, he, Instr.field, run_underlying hd, hf, asAgg, h1]) h2
    · cases hev
  · cases hc

theorem ba_get? (bs : ByteArray) (k : Nat) : bs[k]? = bs.data.toList[k]? := by
  by_cases h : k < bs.size
  · rw [getElem?_pos bs k h]
    have h' : k < bs.data.toList.length := by simpa using h
    rw [getElem?_pos bs.data.toList k h']
    simp
    rfl
  · rw [getElem?_neg bs k h]
    have h' : ¬ k < bs.data.toList.length := by simpa using h
    rw [getElem?_neg bs.data.toList k h']

theorem f_index (G : Globs gl M) (E : EnvRel M β N e a) (S : Sim M β hp.get w0 w) {t : TypeId} {x y : Operand} (ho : o.op = .index t x y) (hc : cOp P gl (.index t x y) = some i) (hev : evI g id e i = some eff) :
    Follows P M β w0 w (execOp a.eval o) hp id eff := by
  simp only [cOp, Option.bind_eq_some_iff] at hc
  obtain ⟨x', hx, y', hy, hc⟩ := hc
  have hr := cX_rel G E hx
  have hq := cX_rel G E hy
  split at hc
  · rename_i hd
    cases hc
    simp only [evI] at hev
    split at hev
    · rename_i s k m hv1 hv2
      rw [hv1] at hr; rw [hv2] at hq; simp only [Rel] at hr hq
      obtain ⟨bs, he, hb⟩ := hr
      split at hev
      · rename_i hm
        simp only [Option.map_eq_some_iff] at hev
        obtain ⟨b, hb', rfl⟩ := hev
        subst hb
        simp only [bytesOf, List.getElem?_map, Option.map_eq_some_iff] at hb'
        obtain ⟨u, hu, rfl⟩ := hb'
        have hu' : bs[m.toNat]? = some u := by rw [ba_get?]; exact hu
        exact Follows.same S (c := .int .u8 u.toNat) (by simp [execOp, ho, he, hq, Instr.index, asIntOf, run_underlying hd, hm, hu']) (by simp only [Rel])
      · cases hev
    · cases hev
  · rename_i len el hd
    simp only [Option.bind_eq_some_iff] at hc
    obtain ⟨gg, hg, n, hn, hc⟩ := hc
    split at hc
    · rename_i hgn
      cases hc
      simp only [evI] at hev
      split at hev
      · rename_i cs k m hv1 hv2
        rw [hv1] at hr; rw [hv2] at hq; simp only [Rel] at hr hq
        obtain ⟨arr, he, hl⟩ := hr
        split at hev
        · rename_i hm
          simp only [Option.bind_eq_some_iff, Option.map_eq_some_iff] at hev
          obtain ⟨cs', hcs, v, hv', rfl⟩ := hev
          have hcs2 : cellsAt cs (m.toNat * n) (if gg then n else 1) = some cs' := by
            cases gg with
            | true => exact hcs
            | false => simp at hgn; subst hgn; exact hcs
          obtain ⟨c, h1, h2⟩ := run_part_cells (P := P) hg hn hl hcs2 hv' w
          exact Follows.same S (c := c) (by simp [execOp, ho, he, hq, Instr.index, asIntOf, run_underlying hd, hm, tSize_run hn, h1]) h2
        · cases hev
      · cases hev
    · cases hc
  · cases hc

theorem f_load (G : Globs gl M) (E : EnvRel M β N e a) (S : Sim M β hp.get w0 w) (hg : ∀ b o, g b = some o → hp.get b = some o) {t : TypeId} {x : Operand} (ho : o.op = .load t x) (hc : cOp P gl (.load t x) = some i) (hev : evI g id e i = some eff) :
    Follows P M β w0 w (execOp a.eval o) hp id eff := by
  simp only [cOp, Option.bind_eq_some_iff, Option.map_eq_some_iff] at hc
  obtain ⟨gg, hgg, n, hn, x', hx, rfl⟩ := hc
  have hr := cX_rel G E hx
  simp only [evI, Option.bind_eq_some_iff, Option.map_eq_some_iff] at hev
  obtain ⟨cs, hcs, v, hv, rfl⟩ := hev
  obtain ⟨B, O, l, he, hl, hlen, _, hcell⟩ := S.readAt hg hr hcs
  obtain ⟨h1, h2⟩ := ofCells_rel hv hl
  have hload := run_loadCells_at (P := P) hcell
  cases gg with
  | true =>
    have hln : l.length = n := by rw [hl.length, hlen]; rfl
    rw [hln] at hload
    exact Follows.same S (c := .agg l.toArray) (by simp [execOp, ho, he, Instr.loadAt, Instr.sureAddr, loadVar, tAgg_run hgg, tSize_run hn, hload]) (h1 rfl)
  | false =>
    obtain ⟨c, rfl, hcr⟩ := h2 rfl
    have hc0 : w.cell? ⟨B, O, none⟩ = some c := by simpa using hcell 0 c rfl
    exact Follows.same S (c := c) (by simp [execOp, ho, he, Instr.loadAt, Instr.sureAddr, loadVar, tAgg_run hgg, hc0]) hcr

theorem f_assertC (G : Globs gl M) (E : EnvRel M β N e a) (S : Sim M β hp.get w0 w) {x : Operand} {t u : TypeId} {ok : Bool} (ho : o.op = .typeAssert x u t ok) (hc : cOp P gl (.typeAssert x u t ok) = some i) (hev : evI g id e i = some eff) :
    Follows P M β w0 w (execOp a.eval o) hp id eff := by
  simp only [cOp] at hc
  split at hc
  · cases hc
  · cases hc
  · rename_i d hd1 hd2
    simp only [Option.bind_eq_some_iff, Option.map_eq_some_iff] at hc
    obtain ⟨z, hz, x', hx, rfl⟩ := hc
    obtain ⟨zc, hzr, hzrel⟩ := tZero_run hz
    have hr := cX_rel G E hx
    have htup : ∀ (v : V) (c : Value) (b : Bool), Rel M β v c → Rel M β (.tuple [v, .bool b]) (.tuple #[c, .bool b]) := fun v c b h => by
      simp only [Rel, RelL]; exact ⟨_, rfl, c, [.bool b], rfl, h, _, [], rfl, rfl, rfl⟩
    cases hu : P.underlying t with
    | none => exact absurd hu hd2
    | some dd =>
      have hni : ∀ ms, dd ≠ .interface ms := fun ms hm => hd1 ms (by rw [hu, hm])
      simp only [evI] at hev
      split at hev
      · rename_i hv
        rw [hv] at hr; simp only [Rel] at hr
        split at hev
        · rename_i hok
          cases hev
          subst hok
          refine Follows.same S (c := .tuple #[zc, .bool false]) ?_ (htup _ _ _ (hzrel _ _))
          cases dd <;> first | (exact absurd rfl (hni _)) | simp [execOp, ho, hr, Instr.typeAssert, run_underlying hu, hzr]
        · cases hev
      · rename_i u' v hv
        rw [hv] at hr; simp only [Rel] at hr
        obtain ⟨c, he, hcr⟩ := hr
        split at hev
        · rename_i hut
          subst hut
          cases hev
          cases ok with
          | true =>
            refine Follows.same S (c := .tuple #[c, .bool true]) ?_ (htup _ _ _ hcr)
            cases dd <;> first | (exact absurd rfl (hni _)) | simp [execOp, ho, he, Instr.typeAssert, run_underlying hu]
          | false =>
            refine Follows.same S (c := c) ?_ hcr
            cases dd <;> first | (exact absurd rfl (hni _)) | simp [execOp, ho, he, Instr.typeAssert, run_underlying hu]
        · rename_i hut
          split at hev
          · rename_i hok
            cases hev
            subst hok
            refine Follows.same S (c := .tuple #[zc, .bool false]) ?_ (htup _ _ _ (hzrel _ _))
            cases dd <;> first | (exact absurd rfl (hni _)) | simp [execOp, ho, he, Instr.typeAssert, run_underlying hu, hzr, hut]
          · cases hev
      · cases hev

end
end Go.Abs

/-
  ABS, part 12: what makes objects, and what builds rows.
-/
namespace Go.Abs
open Go Go.RowKit
set_option linter.unusedSectionVars false
variable [Syms]

section
variable {P : Program} {M : Mem} {β : Places} {w0 w : World} {hp : Heap} {id N : Nat} {e : Env} {a : Act} {gl : Nat → Option (List V)} {g : View} {o : Oper} {i : I} {eff : Eff}

theorem RelL.putAt {l vs : List V} {cs ds : List Value} (h : RelL M β l cs) (k : RelL M β vs ds) (off : Nat) : RelL M β (putAt l off vs) (cs.take off ++ ds ++ cs.drop (off + ds.length)) := by
  unfold Abs.putAt
  rw [k.length]
  exact ((h.take off).append k).append (h.drop _)

/-- A row that is made whole: the new object and its pointer. -/
theorem made (S : Sim M β hp.get w0 w) (hid : β id = none) {cs : List V} {l rest : List Value} (hl : RelL M β cs l) (h1 : ∀ v ∈ cs, v.one = true) (esz : Nat) (T : TypeId) :
    ∃ β', β' id = some ⟨w.heap.size, 0, esz, cs.length, l.length + rest.length, none⟩ ∧ β.le β' ∧ (∀ x, x ≠ id → β' x = β x) ∧ Sim M β' (hp.set id (.cells cs esz 0 false)).get w0 (w.alloc (.cells (l ++ rest).toArray T)) := by
  refine ⟨β.set id ⟨w.heap.size, 0, esz, cs.length, l.length + rest.length, none⟩, Places.set_eq _ _ _, β.le_set _ hid, fun x hx => Places.set_ne _ _ hx, ?_⟩
  rw [get_set]
  exact cells_new S hid hl h1 esz T

theorem all_one {cs : List V} (h : cs.all V.one = true) : ∀ v ∈ cs, v.one = true := by simpa using h

theorem f_alloc (S : Sim M β hp.get w0 w) (hid : β id = none) {t : TypeId} (ho : o.op = .alloc t) (hc : cOp P gl (.alloc t) = some i) (hev : evI g id e i = some eff) :
    Follows P M β w0 w (execOp a.eval o) hp id eff := by
  simp only [cOp, Option.bind_eq_some_iff] at hc
  obtain ⟨z, hz, hc⟩ := hc
  split at hc
  · rename_i h1
    cases hc
    obtain ⟨c, hcr, hrel⟩ := tZero_run hz
    simp only [evI, Option.some.injEq] at hev
    subst hev
    obtain ⟨β', hb, hle, hx, S'⟩ := made (rest := []) S hid (hrel M β).cells (all_one h1) z.cells.length t
    refine ⟨β', _, .pointer (some ⟨w.heap.size, 0, none⟩), .inl ?_, hle, hx, S', ?_⟩
    · simp [execOp, ho, Instr.alloc, hcr, newVar, newRow]
    · simp only [Rel]; exact ⟨_, hb, rfl⟩
  · cases hc

theorem f_box (G : Globs gl M) (E : EnvRel M β N e a) (S : Sim M β hp.get w0 w) (hid : β id = none) {t : TypeId} {x : Operand} (ho : o.op = .box t x) (hc : cOp P gl (.box t x) = some i) (hev : evI g id e i = some eff) :
    Follows P M β w0 w (execOp a.eval o) hp id eff := by
  simp only [cOp, Option.map_eq_some_iff] at hc
  obtain ⟨x', hx', rfl⟩ := hc
  simp only [evI] at hev
  split at hev
  · rename_i h1
    cases hev
    obtain ⟨β', hb, hle, hx, S'⟩ := made (rest := []) S hid (cX_rel G E hx').cells (all_one h1) (x'.val e).cells.length t
    refine ⟨β', _, .pointer (some ⟨w.heap.size, 0, none⟩), .inl ?_, hle, hx, S', ?_⟩
    · simp [execOp, ho, Instr.box, newVar, newRow]
    · simp only [Rel]; exact ⟨_, hb, rfl⟩
  · cases hev

/-- Parts laid into a row. -/
theorem fill_run {place : Nat → Option (Nat × Nat)} : ∀ {ps : List (Nat × Nat × V)} {qs : List (Nat × Value)} {cells cells' : List V} {l : List Value}, fillIn cells ps = some cells' → RelL M β cells l →
    ps.length = qs.length → (∀ (k : Nat) (p : Nat × Nat × V) (q : Nat × Value), ps[k]? = some p → qs[k]? = some q → place q.1 = some (p.1, p.2.1) ∧ Rel M β p.2.2 q.2) → (∀ v ∈ cells, v.one = true) →
    ∃ l', Instr.fill place l.toArray qs = some l'.toArray ∧ RelL M β cells' l' ∧ (∀ v ∈ cells', v.one = true) ∧ l'.length = l.length
  | [], [], cells, cells', l, h, hl, _, _, h1 => by
    simp only [fillIn, Option.some.injEq] at h; subst h
    exact ⟨l, rfl, hl, h1, rfl⟩
  | [], _ :: _, _, _, _, _, _, hlen, _, _ => by simp at hlen
  | _ :: _, [], _, _, _, _, _, hlen, _, _ => by simp at hlen
  | (off, size, v) :: ps, (k, c) :: qs, cells, cells', l, h, hl, hlen, hpl, h1 => by
    unfold fillIn at h
    split at h
    · rename_i hc
      obtain ⟨hsz, hfit, hone⟩ := hc
      obtain ⟨hp0, hr0⟩ := hpl 0 _ _ rfl rfl
      simp only at hp0 hr0
      have hcc := hr0.cells
      have hcl : c.cells.size = size := by
        have := hcc.length
        rw [hsz] at this
        simpa using this
      have hll : l.length = cells.length := hl.length
      -- the cells laid in one by one are a splice
      have hsplice : (c.cells.zipIdx.foldl (fun cs (p : Value × Nat) => cs.setIfInBounds (off + p.2) p.1) l.toArray) = (l.take off ++ c.cells.toList ++ l.drop (off + c.cells.toList.length)).toArray := by
        apply Array.ext'
        simp only
        rw [← Array.foldl_toList, Array.toList_zipIdx]
        have key : ∀ (ds : List Value) (k : Nat) (acc : List Value), off + k + ds.length ≤ acc.length →
            ((ds.zipIdx k).foldl (fun cs (p : Value × Nat) => cs.setIfInBounds (off + p.2) p.1) acc.toArray).toList = acc.take (off + k) ++ ds ++ acc.drop (off + k + ds.length) := by
          intro ds
          induction ds with
          | nil => intro k acc _; simp
          | cons d ds ih =>
            intro k acc hk
            simp only [List.zipIdx_cons, List.foldl_cons, List.setIfInBounds_toArray]
            rw [show k + 1 = k + 1 from rfl, ih (k + 1) (acc.set (off + k) d) (by simp at hk ⊢; omega)]
            simp only [List.length_cons] at hk ⊢
            rw [List.take_set, List.drop_set_of_lt (by omega)]
            have : (acc.take (off + (k + 1))).set (off + k) d = acc.take (off + k) ++ [d] := by
              rw [show off + (k + 1) = off + k + 1 by omega, List.take_add_one, List.set_append_right _ _ (by simp; omega)]
              have hlt : off + k < acc.length := by omega
              simp [List.getElem?_eq_getElem hlt]
              rw [show off + k - min (off + k) acc.length = 0 by omega]
              rfl
            rw [this, show off + (k + 1) + ds.length = off + k + (ds.length + 1) by omega]
            simp only [List.append_assoc, List.cons_append, List.nil_append]
        have := key c.cells.toList 0 l (by simp [hcl]; omega)
        simpa using this
      have hcond : ¬ (c.cells.size ≠ size || off + c.cells.size > l.toArray.size) = true := by
        simp only [List.size_toArray, hll, hcl]
        simp; omega
      obtain ⟨l', h2, h3, h4, h5⟩ := fill_run (place := place) h (hl.putAt hcc off) (by simpa using hlen) (fun k p q hp hq => hpl (k + 1) p q (by simpa using hp) (by simpa using hq)) (fun x hx => by
        simp only [Abs.putAt, List.mem_append] at hx
        rcases hx with (hx | hx) | hx
        · exact h1 x (List.mem_of_mem_take hx)
        · exact all_one hone x hx
        · exact h1 x (List.mem_of_mem_drop hx))
      refine ⟨l', ?_, h3, h4, ?_⟩
      · simp only [Instr.fill, hp0]
        rw [if_neg hcond, hsplice]
        exact h2
      · rw [h5]; simp; omega
    · cases h

theorem structParts_some {P : Program} {gl : Nat → Option (List V)} {fs : Array Field} : ∀ {l : List (Nat × Operand)} {ps : List (Nat × Nat × X)}, structParts P gl fs l = some ps →
    ps.length = l.length ∧ ∀ (k : Nat) p q, ps[k]? = some p → l[k]? = some q → ∃ f, fs[q.1]? = some f ∧ tSize P f.type = some p.2.1 ∧ p.1 = f.offset ∧ cX gl q.2 = some p.2.2
  | [], ps, h => by simp [structParts] at h; subst h; exact ⟨rfl, fun k p q hp => by simp at hp⟩
  | x :: l, ps, h => by
    simp only [structParts, List.mapM_cons, bind, pure, Option.bind_eq_some_iff, Option.map_eq_some_iff] at h
    obtain ⟨y, ⟨f, hf, n, hn, x', hx, rfl⟩, ys, hys, h⟩ := h
    cases h
    obtain ⟨h1, h2⟩ := structParts_some (l := l) hys
    refine ⟨by simp [h1], fun k p q hp hq => ?_⟩
    cases k with
    | zero => simp at hp hq; subst hp hq; exact ⟨f, hf, hn, rfl, hx⟩
    | succ k => exact h2 k p q (by simpa using hp) (by simpa using hq)

theorem arrayParts_some {gl : Nat → Option (List V)} {n : Nat} : ∀ {l : List (Nat × Operand)} {ps : List (Nat × Nat × X)}, arrayParts gl n l = some ps →
    ps.length = l.length ∧ ∀ (k : Nat) p q, ps[k]? = some p → l[k]? = some q → p.2.1 = n ∧ p.1 = q.1 * n ∧ cX gl q.2 = some p.2.2
  | [], ps, h => by simp [arrayParts] at h; subst h; exact ⟨rfl, fun k p q hp => by simp at hp⟩
  | x :: l, ps, h => by
    simp only [arrayParts, List.mapM_cons, bind, pure, Option.bind_eq_some_iff, Option.map_eq_some_iff] at h
    obtain ⟨y, ⟨x', hx, rfl⟩, ys, hys, h⟩ := h
    cases h
    obtain ⟨h1, h2⟩ := arrayParts_some (l := l) hys
    refine ⟨by simp [h1], fun k p q hp hq => ?_⟩
    cases k with
    | zero => simp at hp hq; subst hp hq; exact ⟨rfl, rfl, hx⟩
    | succ k => exact h2 k p q (by simpa using hp) (by simpa using hq)

theorem mapM_sizes {P : Program} (w : World) : ∀ (fs : List Field), (∀ f ∈ fs, (P.info? f.type).isSome = true) →
    (fs.mapM (m := Sem) fun f => do pure (f.offset, ← sizeOf f.type)).run P w = .ok (fs.map fun f => (f.offset, P.cellsOf f.type)) w
  | [], _ => by simp
  | f :: fs, h => by
    obtain ⟨i, hi⟩ := Option.isSome_iff_exists.1 (h f (by simp))
    have h1 : (sizeOf f.type).run P w = .ok (P.cellsOf f.type) w := by simp [sizeOf, typeInfo, hi, Program.cellsOf]
    have ih := mapM_sizes w fs fun x hx => h x (by simp [hx])
    simp only [List.mapM_cons, Sem.run_bind, h1, Result.andThen_ok, Sem.run_pure, ih, List.map_cons]

theorem f_build (G : Globs gl M) (E : EnvRel M β N e a) (S : Sim M β hp.get w0 w) {t : TypeId} {parts : Array (Nat × Operand)} (ho : o.op = .build t parts) (hc : cOp P gl (.build t parts) = some i) (hev : evI g id e i = some eff) :
    Follows P M β w0 w (execOp a.eval o) hp id eff := by
  simp only [cOp, Option.bind_eq_some_iff] at hc
  obtain ⟨z, hz, hc⟩ := hc
  obtain ⟨zc, hzr, hzrel⟩ := tZero_run hz
  split at hc
  · rename_i h1
    split at hc
    · rename_i fs hd
      split at hc
      · rename_i hall
        simp only [Option.map_eq_some_iff] at hc
        obtain ⟨ps, hps, rfl⟩ := hc
        obtain ⟨hlen, hparts⟩ := structParts_some hps
        simp only [evI, Option.map_eq_some_iff] at hev
        obtain ⟨cs, hcs, rfl⟩ := hev
        have hsz := mapM_sizes (P := P) w fs.toList (fun f hf => by have := Array.all_eq_true_iff_forall_mem.1 hall f (Array.mem_toList_iff.1 hf); exact this)
        have hplaces : (fs.mapM (m := Sem) fun f => do pure (f.offset, ← sizeOf f.type)).run P w = .ok (fs.map fun f => (f.offset, P.cellsOf f.type)) w := by
          rw [Array.mapM_eq_mapM_toList]
          simp only [Sem.run_map, hsz, Result.andThen_ok]
          congr 1
          apply Array.ext'
          simp
        obtain ⟨l', h2, h3, _, _⟩ := fill_run (M := M) (β := β) (place := fun k => ((fs.map fun f => (f.offset, P.cellsOf f.type))[k]?)) (qs := parts.toList.map fun p => (p.1, a.eval p.2)) hcs (hzrel M β).cells (by simp [hlen])
          (fun k p q hp hq => by
            simp only [List.getElem?_map, Option.map_eq_some_iff] at hp hq
            obtain ⟨p', hp', rfl⟩ := hp
            obtain ⟨q', hq', rfl⟩ := hq
            obtain ⟨f, hf, hn, ho', hx⟩ := hparts k p' q' hp' hq'
            exact ⟨by simp [hf, ho', tSize_cellsOf hn], cX_rel G E hx⟩) (all_one h1)
        refine Follows.same S (c := .agg l'.toArray) ?_ (by simp only [Rel]; exact ⟨_, rfl, h3⟩)
        simp only [execOp, ho, Instr.build, Sem.run_bind, hzr, Result.andThen_ok, run_underlying hd, hplaces]
        have hpt : (parts.map fun x => match x with | (i, x) => (i, a.eval x)).toList = parts.toList.map fun p => (p.1, a.eval p.2) := by simp
        rw [hpt]
        simp only [Array.toArray_toList] at h2
        rw [h2]
        rfl
      · cases hc
    · rename_i len el hd
      simp only [Option.bind_eq_some_iff, Option.map_eq_some_iff] at hc
      obtain ⟨n, hn, ps, hps, rfl⟩ := hc
      obtain ⟨hlen, hparts⟩ := arrayParts_some hps
      simp only [evI, Option.map_eq_some_iff] at hev
      obtain ⟨cs, hcs, rfl⟩ := hev
      obtain ⟨l', h2, h3, _, _⟩ := fill_run (M := M) (β := β) (place := fun k => some (k * n, n)) (qs := parts.toList.map fun p => (p.1, a.eval p.2)) hcs (hzrel M β).cells (by simp [hlen])
        (fun k p q hp hq => by
          simp only [List.getElem?_map, Option.map_eq_some_iff] at hp hq
          obtain ⟨p', hp', rfl⟩ := hp
          obtain ⟨q', hq', rfl⟩ := hq
          obtain ⟨hn', ho', hx⟩ := hparts k p' q' hp' hq'
          exact ⟨by simp [hn', ho'], cX_rel G E hx⟩) (all_one h1)
      refine Follows.same S (c := .agg l'.toArray) ?_ (by simp only [Rel]; exact ⟨_, rfl, h3⟩)
      simp only [execOp, ho, Instr.build, Sem.run_bind, hzr, Result.andThen_ok, run_underlying hd, tSize_run hn]
      have hpt : (parts.map fun x => match x with | (i, x) => (i, a.eval x)).toList = parts.toList.map fun p => (p.1, a.eval p.2) := by simp
      rw [hpt]
      simp only [Array.toArray_toList] at h2
      rw [h2]
      rfl
    · cases hc
  · cases hc

theorem zeros_toList (len n : Nat) (zc : Array Value) (hz : zc.size = n) (hn : 0 < n) : ((Array.range (len * n)).map fun k => zc[k % zc.size]!).toList = (List.replicate len zc.toList).flatten := by
  subst hz
  apply List.ext_getElem?
  intro k
  simp only [Array.toList_map, Array.toList_range, List.getElem?_map]
  have key : ∀ (len k : Nat), (List.replicate len zc.toList).flatten[k]? = if k < len * zc.size then some (zc[k % zc.size]!) else none := by
    intro len
    induction len with
    | zero => intro k; simp
    | succ len ih =>
      intro k
      rw [List.replicate_succ, List.flatten_cons]
      by_cases hk : k < zc.size
      · rw [List.getElem?_append_left (by simpa using hk), if_pos (by rw [Nat.succ_mul]; omega), Nat.mod_eq_of_lt hk]
        simp [hk]
      · rw [List.getElem?_append_right (by simpa using hk), ih]
        simp only [Array.length_toList]
        have hm : k % zc.size = (k - zc.size) % zc.size := Nat.mod_eq_sub_mod (by omega)
        rw [hm, Nat.succ_mul]
        by_cases h2 : k < len * zc.size + zc.size
        · rw [if_pos (by omega), if_pos h2]
        · rw [if_neg (by omega), if_neg h2]
  rw [key]
  by_cases hk : k < len * zc.size
  · rw [if_pos hk]; simp [hk]
  · rw [if_neg hk]; simp; omega

theorem RelL.replicate {l : List V} {cs : List Value} (h : RelL M β l cs) : ∀ n, RelL M β (List.replicate n l).flatten (List.replicate n cs).flatten
  | 0 => by simp [RelL]
  | n + 1 => by
    rw [List.replicate_succ, List.replicate_succ, List.flatten_cons, List.flatten_cons]
    exact h.append (RelL.replicate h n)

theorem f_buildSlice (G : Globs gl M) (E : EnvRel M β N e a) (S : Sim M β hp.get w0 w) (hid : β id = none) {t : TypeId} {len : Nat} {parts : Array (Nat × Operand)} (ho : o.op = .buildSlice t len parts) (hc : cOp P gl (.buildSlice t len parts) = some i)
    (hev : evI g id e i = some eff) : Follows P M β w0 w (execOp a.eval o) hp id eff := by
  simp only [cOp] at hc
  split at hc
  · rename_i el hd
    simp only [Option.bind_eq_some_iff] at hc
    obtain ⟨n, hn, z, hz, hc⟩ := hc
    obtain ⟨zc, hzr, hzrel⟩ := tZero_run hz
    split at hc
    · rename_i hcond
      obtain ⟨hle, hzl, hpos, h1⟩ := hcond
      simp only [Option.map_eq_some_iff] at hc
      obtain ⟨ps, hps, rfl⟩ := hc
      obtain ⟨hlen, hparts⟩ := arrayParts_some hps
      simp only [evI, Option.map_eq_some_iff] at hev
      obtain ⟨cs, hcs, rfl⟩ := hev
      have hzs : zc.cells.size = n := by have := (hzrel M β).cells.length; rw [hzl] at this; simpa using this
      have hzz := zeros_toList len n zc.cells hzs hpos
      obtain ⟨l', h2, h3, h4, h5⟩ := fill_run (M := M) (β := β) (place := fun k => some (k * n, n)) (qs := parts.toList.map fun p => (p.1, a.eval p.2)) hcs ((hzrel M β).cells.replicate len) (by simp [hlen])
        (fun k p q hp hq => by
          simp only [List.getElem?_map, Option.map_eq_some_iff] at hp hq
          obtain ⟨p', hp', rfl⟩ := hp
          obtain ⟨q', hq', rfl⟩ := hq
          obtain ⟨hn', ho', hx⟩ := hparts k p' q' hp' hq'
          exact ⟨by simp [hn', ho'], cX_rel G E hx⟩) (fun v hv => by
            obtain ⟨l, hl, hvl⟩ := List.mem_flatten.1 hv
            rw [(List.mem_replicate.1 hl).2] at hvl
            exact all_one h1 v hvl)
      obtain ⟨β', hb, hle', hx, S'⟩ := made (rest := []) S hid h3 h4 n el
      refine ⟨β', _, .slice (some ⟨w.heap.size, 0, none⟩) len len, .inl ?_, hle', hx, S', ?_⟩
      · have hfill : Instr.fill (fun k => some (k * n, n)) ((Array.range (len * n)).map fun k => zc.cells[k % zc.cells.size]!) (parts.map fun x => match x with | (i, x) => (i, a.eval x)).toList = some l'.toArray := by
          have hpt : (parts.map fun x => match x with | (i, x) => (i, a.eval x)).toList = parts.toList.map fun p => (p.1, a.eval p.2) := by simp
          have harr : (Array.range (len * n)).map (fun k => zc.cells[k % zc.cells.size]!) = ((List.replicate len zc.cells.toList).flatten).toArray := by
            apply Array.ext'
            rw [hzz]
          rw [hpt, harr]
          exact h2
        by_cases hl0 : len * n = 0
        · have hl0' : len = 0 := by
            rcases Nat.mul_eq_zero.1 hl0 with h | h
            · exact h
            · omega
          subst hl0'
          simp only [Nat.zero_mul] at hfill
          have hr0 : ∀ f : Nat → Value, (Array.range 0).map f = #[] := fun _ => by simp
          rw [hr0] at hfill
          simp only [execOp, ho, Instr.buildSlice, Sem.run_bind, run_underlying hd, Result.andThen_ok, tSize_run hn, Nat.zero_mul, if_true, Sem.run_pure, Sem.run_ite, hr0]
          rw [if_neg (by decide)]
          simp only [hfill]
          simp [newRow]
        · have hgt : ¬ (len * n > 2 ^ 24) := by omega
          simp only [execOp, ho, Instr.buildSlice, Sem.run_bind, run_underlying hd, Result.andThen_ok, tSize_run hn, Sem.run_ite, if_neg hgt, if_neg hl0, hzr, Sem.run_pure]
          rw [hfill]
          simp [newRow]
      · simp only [Rel]
        have hcl : cs.length = len * n := by
          have e1 := h3.length
          have e2 := congrArg List.length hzz
          simp only [Array.length_toList, Array.size_map, Array.size_range] at e2
          rw [h5, ← e2] at e1
          exact e1.symm
        refine ⟨_, len, hb, Nat.le_refl _, (fun k hk => by cases hk; rfl), (fun h => by cases h), ?_, _, rfl, fun _ => rfl⟩
        rw [h3.length, hcl]
        simp
    · cases hc
  · cases hc

end
end Go.Abs

/-
  ABS, part 13: stores, and what else turns an object: the object's block turns, nothing else.
-/
namespace Go.Abs
open Go Go.RowKit
set_option linter.unusedSectionVars false
variable [Syms]

section
variable {P : Program} {M : Mem} {β : Places} {w0 w : World} {hp : Heap} {id N : Nat} {e : Env} {a : Act} {gl : Nat → Option (List V)} {g : View} {o : Oper} {i : I} {eff : Eff}

theorem setCells_heap_ne (B : Nat) : ∀ (vs : List Value) (O : Nat) (w : World) (r : Nat), r ≠ B → (w.setCells B O vs).heap[r]? = w.heap[r]?
  | [], _, _, _, _ => rfl
  | v :: vs, O, w, r, h => by
    rw [World.setCells, setCells_heap_ne B vs (O + 1) _ r h]
    exact Below.heap_setCell _ _ _ _ h

theorem setCells_size (B : Nat) : ∀ (vs : List Value) (O : Nat) (w : World), (w.setCells B O vs).heap.size = w.heap.size
  | [], _, _ => rfl
  | v :: vs, O, w => by rw [World.setCells, setCells_size B vs]; simp

theorem setCells_os (B : Nat) : ∀ (vs : List Value) (O : Nat) (w : World), (w.setCells B O vs).os = w.os ∧ (w.setCells B O vs).tape = w.tape ∧ (w.setCells B O vs).output = w.output
  | [], _, _ => ⟨rfl, rfl, rfl⟩
  | v :: vs, O, w => by
    obtain ⟨h1, h2, h3⟩ := setCells_os B vs (O + 1) (w.setCell ⟨B, O, none⟩ v)
    exact ⟨h1, h2, h3⟩

theorem setCells_heap (B : Nat) : ∀ (vs : List Value) (O : Nat) (w : World) (arr : Array Value) (T : TypeId) (fr : Nat × Nat), w.heap[B]? = some (.cells arr T fr) → O + vs.length ≤ arr.size →
    (w.setCells B O vs).heap[B]? = some (.cells (arr.toList.take O ++ vs ++ arr.toList.drop (O + vs.length)).toArray T fr)
  | [], O, w, arr, T, fr, h, _ => by simp [World.setCells, h]
  | v :: vs, O, w, arr, T, fr, h, hle => by
    rw [World.setCells]
    have h1 : (w.setCell ⟨B, O, none⟩ v).heap[B]? = some (.cells (arr.setIfInBounds O v) T fr) := by
      simp only [World.setCell, Array.getElem?_modify, if_true, h, Option.map_some]
      rfl
    rw [setCells_heap B vs (O + 1) _ _ T fr h1 (by simp at hle ⊢; omega)]
    congr 3
    simp only [Array.toList_setIfInBounds, List.length_cons] at hle ⊢
    have hlt : O < arr.toList.length := by simp; omega
    rw [List.take_set, List.drop_set_of_lt (by omega)]
    have : (arr.toList.take (O + 1)).set O v = arr.toList.take O ++ [v] := by
      rw [List.take_add_one, List.set_append_right _ _ (by simp; omega)]
      simp only [List.getElem?_eq_getElem hlt, Option.toList_some, List.length_take]
      rw [show O - min O arr.toList.length = 0 by omega]
      rfl
    rw [this, show O + 1 + vs.length = O + (vs.length + 1) by omega]
    simp

theorem three_get {α : Type} (l vs : List α) {off : Nat} (h : off + vs.length ≤ l.length) (k : Nat) :
    (l.take off ++ vs ++ l.drop (off + vs.length))[k]? = if k < off then l[k]? else if k < off + vs.length then vs[k - off]? else l[k]? := by
  by_cases h1 : k < off
  · rw [if_pos h1, List.append_assoc, List.getElem?_append_left (by simp; omega), List.getElem?_take, if_pos h1]
  · rw [if_neg h1, List.append_assoc, List.getElem?_append_right (by simp; omega)]
    have hl : (l.take off).length = off := by simp; omega
    rw [hl]
    by_cases h2 : k < off + vs.length
    · rw [if_pos h2, List.getElem?_append_left (by omega)]
    · rw [if_neg h2, List.getElem?_append_right (by omega), List.getElem?_drop]
      congr 1
      omega

/-- An object's cells are written. -/
theorem Sim.store (S : Sim M β hp.get w0 w) {b : Nat} {cs : List V} {esz fz : Nat} (hb : hp.get b = some (.cells cs esz fz false)) {off : Nat} {vs : List V} {ds : List Value} (hds : RelL M β vs ds) (h1 : ∀ v ∈ vs, v.one = true)
    (hfz : fz ≤ off) (hle : off + vs.length ≤ cs.length) :
    ∃ i, β b = some i ∧ esz = i.esz ∧ (∀ j, j < ds.length → (w.cell? ⟨i.blk, i.off + off + j, none⟩).isSome = true) ∧ (∀ j, j < ds.length → w.frozen? ⟨i.blk, i.off + off + j, none⟩ = false) ∧
      Sim M β (hp.put b (some (.cells (putAt cs off vs) esz fz false))).get w0 (w.setCells i.blk (i.off + off) ds) := by
  obtain ⟨i, hi, hbase, hesz, hext, arr, T, fr, C⟩ := S.obj _ _ hb
  have hdl : ds.length = vs.length := hds.length
  have hfit : i.off + off + ds.length ≤ arr.size := by have := C.fits; omega
  refine ⟨i, hi, hesz, fun j hj => ?_, fun j hj => ?_, ?_⟩
  · rw [cell?_of C.blk]
    have : i.off + off + j < arr.size := by omega
    simp [this]
  · rw [frozen?_of (a := ⟨i.blk, i.off + off + j, none⟩) C.blk]
    exact C.thaw _ (by simp only; omega)
  · have hnew := setCells_heap i.blk ds (i.off + off) w arr T fr C.blk hfit
    have hkeep : Keeps M i.blk w (w.setCells i.blk (i.off + off) ds) := by
      obtain ⟨h2, h3, h4⟩ := setCells_os i.blk ds (i.off + off) w
      refine ⟨h2, h3, h4, by rw [setCells_size]; exact Nat.le_refl _, fun r hr _ => setCells_heap_ne _ _ _ _ _ hr, fun x c hx hxc => ?_, fun r ob hr hrc => ?_⟩
      · by_cases hxb : x.block = i.blk
        · have hlt := C.free x c hx hxb
          rw [World.cell?_setCells_out _ _ _ _ _ (fun _ _ => .inl (by omega))]
          exact hxc
        · rw [← hxc]; exact cell?_eq (setCells_heap_ne _ _ _ _ _ hxb)
      · by_cases hrb : r = i.blk
        · subst hrb
          obtain ⟨es, clock, rfl⟩ := S.maps _ _ hr
          rw [C.blk] at hrc
          cases hrc
        · rw [← hrc]; exact setCells_heap_ne _ _ _ _ _ hrb
    have S2 : Sim M β (upd hp.get b none) w0 (w.setCells i.blk (i.off + off) ds) := (S.drop b).change hkeep hbase (fun b' o' i' hb' hi' hown => by
      by_cases e : b' = b
      · subst e; rw [upd_eq] at hb'; cases hb'
      · rw [upd_ne _ _ e] at hb'
        exact S.sep b' b o' _ i' i e hb' hb hi' hi hown rfl)
    have hlen : (putAt cs off vs).length = cs.length := by simp [Abs.putAt]; omega
    have S3 := S2.put (b := b) (i := i) (o := .cells (putAt cs off vs) esz fz false) hi hbase
      ⟨hesz, by rw [hlen]; exact hext, _, T, fr, ⟨hnew, by rw [← C.size]; simp; omega, fun k hk => C.thaw k (by simp at hk; omega), by rw [hlen]; have := C.fits; simp; omega, fun k v hk => ?_, by rw [hlen]; exact C.fzle, fun he k c hk hc => ?_, C.free⟩⟩
      (fun _ b' o' i' hne hb' hi' hown => by
        rw [upd_ne _ _ hne] at hb'
        exact S.sep b' b o' _ i' i hne hb' hb hi' hi hown rfl)
    · have hu : upd (upd hp.get b none) b (some (AObj.cells (putAt cs off vs) esz fz false)) = (hp.put b (some (.cells (putAt cs off vs) esz fz false))).get := by
        rw [get_put]
        funext x
        by_cases e : x = b
        · subst e; rw [upd_eq, upd_eq]
        · rw [upd_ne _ _ e, upd_ne _ _ e, upd_ne _ _ e]
      rw [← hu]; exact S3
    · rw [Abs.putAt, three_get _ _ hle] at hk
      have hA : ∀ k', ((arr.toList.take (i.off + off) ++ ds ++ arr.toList.drop (i.off + off + ds.length)).toArray)[k']? = if k' < i.off + off then arr[k']? else if k' < i.off + off + ds.length then ds[k' - (i.off + off)]? else arr[k']? := fun k' => by
        rw [List.getElem?_toArray, three_get _ _ (by simpa using hfit)]; simp
      rw [hA]
      by_cases h2 : k < off
      · rw [if_pos h2] at hk
        rw [if_pos (by omega)]
        exact C.rel k v hk
      · rw [if_neg h2] at hk
        rw [if_neg (by omega)]
        by_cases h3 : k < off + vs.length
        · rw [if_pos h3] at hk
          rw [if_pos (by omega), show i.off + k - (i.off + off) = k - off by omega]
          exact ⟨h1 v (List.mem_of_getElem? hk), hds.get hk⟩
        · rw [if_neg h3] at hk
          rw [if_neg (by omega)]
          exact C.rel k v hk
    · have hA : ((arr.toList.take (i.off + off) ++ ds ++ arr.toList.drop (i.off + off + ds.length)).toArray)[i.off + k]? = arr[i.off + k]? := by
        rw [List.getElem?_toArray, three_get _ _ (by simpa using hfit), if_pos (by omega)]; simp
      rw [hA] at hc
      exact C.ice (by omega) k c (by omega) hc

theorem f_store (G : Globs gl M) (E : EnvRel M β N e a) (S : Sim M β hp.get w0 w) (hg : ∀ b o, g b = some o → hp.get b = some o) {t : TypeId} {x y : Operand} (ho : o.op = .store t x y) (hc : cOp P gl (.store t x y) = some i) (hev : evI g id e i = some eff) :
    Follows P M β w0 w (execOp a.eval o) hp id eff := by
  simp only [cOp, Option.bind_eq_some_iff, Option.map_eq_some_iff] at hc
  obtain ⟨n, hn, x', hx, y', hy, rfl⟩ := hc
  have hr := cX_rel G E hx
  have hq := (cX_rel G E hy).cells
  simp only [evI] at hev
  split at hev
  · rename_i b off hv
    rw [hv] at hr; simp only [Rel] at hr
    obtain ⟨j, hj, he⟩ := hr
    split at hev
    · rename_i cs esz fz hb
      split at hev
      · rename_i hcond
        obtain ⟨hlen, hfz, hle, hone⟩ := hcond
        cases hev
        obtain ⟨i, hi, hesz, hcell, hfrz, S'⟩ := S.store (hg _ _ hb) hq (all_one hone) hfz (by omega)
        rw [hj] at hi; cases hi
        have hsz : (a.eval y).cells.size = n := by have := hq.length; rw [hlen] at this; simpa using this
        refine ⟨β, _, undef, .inr ⟨?_, rfl⟩, .refl β, fun _ _ => rfl, S', undef_rel _ _⟩
        have hone' : ∀ v ∈ (a.eval y).cells.toList, v.oneCell' = true := fun v hv => by
          obtain ⟨k, hk⟩ := List.mem_iff_getElem?.1 hv
          have hlt : k < (y'.val e).cells.length := by
            rw [← hq.length]
            rcases Nat.lt_or_ge k (a.eval y).cells.toList.length with h | h
            · exact h
            · rw [List.getElem?_eq_none h] at hk; cases hk
          obtain ⟨c, hc, hcr⟩ := hq.get (List.getElem?_eq_getElem hlt)
          rw [hk] at hc; cases hc
          rw [hcr.one]
          exact all_one hone _ (List.getElem_mem hlt)
        have hst := run_storeCells_cells (P := P) j.blk (j.off + off) (a.eval y).cells.toList 0 w (fun k hk => by have := hcell k hk; simpa using this) (fun k hk => by have := hfrz k hk; simpa using this) hone'
        simp only [Nat.add_zero] at hst
        simp [execOp, ho, he, Instr.storeAt, Instr.sureAddr, storeVar, tSize_run hn, hsz, hst]
      · cases hev
    · cases hev
  · cases hev

end
end Go.Abs

/-
  ABS, part 14: maps.
-/
namespace Go.Abs
open Go Go.RowKit
set_option linter.unusedSectionVars false
variable [Syms]

section
variable {P : Program} {M : Mem} {β : Places} {w0 w : World} {hp : Heap} {id N : Nat} {e : Env} {a : Act} {gl : Nat → Option (List V)} {g : View} {o : Oper} {i : I} {eff : Eff}

theorem run_getObj {r : Nat} {ob : Go.Obj} (h : w.heap[r]? = some ob) (hn : ∀ c t f, ob ≠ .cells c t f) : (getObj r).run P w = .ok ob w := by
  unfold getObj
  simp only [Sem.run, h]

def World.objSet (w : World) (r : Nat) (ob : Go.Obj) : World := { w with heap := w.heap.setIfInBounds r ob }

theorem run_setObj {r : Nat} {ob ob' : Go.Obj} (h : w.heap[r]? = some ob) (hn : ∀ c t f, ob ≠ .cells c t f) : (setObj r ob').run P w = .ok () (World.objSet w r ob') := by
  unfold setObj
  simp only [Sem.run, h]
  cases ob <;> first | (exact absurd rfl (hn _ _ _)) | rfl

theorem objSet_get {r : Nat} {ob ob' : Go.Obj} (h : w.heap[r]? = some ob) : (World.objSet w r ob').heap[r]? = some ob' := by
  have := lt_of_get? h
  simp [World.objSet, this]

/-- An object that is no row of cells is written anew. -/
theorem Sim.objSet (S : Sim M β hp.get w0 w) {b : Nat} {i : Place} {o' : AObj} (hi : β b = some i) (hbase : w0.heap.size ≤ i.blk) {ob ob' : Go.Obj} (hw : w.heap[i.blk]? = some ob) (hn : ∀ c t f, ob ≠ .cells c t f) (hM : M.o i.blk = none)
    {ao : AObj} (hb : hp.get b = some ao) (hown : ao.owns = true) (ho : ObjSim M β (World.objSet w i.blk ob') i o') : Sim M β (hp.put b (some o')).get w0 (World.objSet w i.blk ob') := by
  have hkeep : Keeps M i.blk w (World.objSet w i.blk ob') := by
    refine ⟨rfl, rfl, rfl, by simp [World.objSet], fun r hr _ => ?_, fun x c hx hxc => ?_, fun r ob hr hrc => ?_⟩
    · simp [World.objSet, Ne.symm hr]
    · have hxb : x.block ≠ i.blk := fun e => by
        unfold World.cell? at hxc
        rw [e, hw] at hxc
        cases ob <;> first | (exact absurd rfl (hn _ _ _)) | simp at hxc
      rw [← hxc]
      exact cell?_eq (by simp [World.objSet, Ne.symm hxb])
    · have : r ≠ i.blk := fun e => by subst e; rw [hM] at hr; cases hr
      rw [← hrc]; simp [World.objSet, Ne.symm this]
  have S2 : Sim M β (upd hp.get b none) w0 (World.objSet w i.blk ob') := (S.drop b).change hkeep hbase (fun b' o'' i' hb' hi' hown' => by
    by_cases e : b' = b
    · subst e; rw [upd_eq] at hb'; cases hb'
    · rw [upd_ne _ _ e] at hb'
      exact S.sep b' b o'' _ i' i e hb' hb hi' hi hown' hown)
  have S3 := S2.put (b := b) (i := i) (o := o') hi hbase ho (fun _ b' o'' i' hne hb' hi' hown' => by
    rw [upd_ne _ _ hne] at hb'
    exact S.sep b' b o'' _ i' i hne hb' hb hi' hi hown' hown)
  have hu : upd (upd hp.get b none) b (some o') = (hp.put b (some o')).get := by
    rw [get_put]
    funext x
    by_cases e : x = b
    · subst e; rw [upd_eq, upd_eq]
    · rw [upd_ne _ _ e, upd_ne _ _ e, upd_ne _ _ e]
  rw [← hu]; exact S3

/-- A new object that is no row of cells. -/
theorem made_obj (S : Sim M β hp.get w0 w) (hid : β id = none) {ob : Go.Obj} {o : AObj} (ho : ∀ β' : Places, β.le β' → ObjSim M β' (w.alloc ob) ⟨w.heap.size, 0, 0, 0, 0, none⟩ o) :
    ∃ β', β' id = some ⟨w.heap.size, 0, 0, 0, 0, none⟩ ∧ β.le β' ∧ (∀ x, x ≠ id → β' x = β x) ∧ Sim M β' (hp.set id o).get w0 (w.alloc ob) := by
  refine ⟨β.set id ⟨w.heap.size, 0, 0, 0, 0, none⟩, Places.set_eq _ _ _, β.le_set _ hid, fun x hx => Places.set_ne _ _ hx, ?_⟩
  rw [get_set]
  exact (S.alloc ob).add hid S.base (by simp) (ho _ (β.le_set _ hid)) (fun b' o' i' _ hi' _ => by have := S.sane b' i' hi'; simp only; omega)

theorem Sim.noObj (S : Sim M β hp.get w0 w) : M.o w.heap.size = none := by
  cases h : M.o w.heap.size with
  | none => rfl
  | some o => have := lt_of_get? (S.memo _ _ h); omega

theorem f_mkMap (G : Globs gl M) (E : EnvRel M β N e a) (S : Sim M β hp.get w0 w) (hid : β id = none) {t : TypeId} {x : Option Operand} (ho : o.op = .makeMap t x) (hc : cOp P gl (.makeMap t x) = some i) (hev : evI g id e i = some eff) :
    Follows P M β w0 w (execOp a.eval o) hp id eff := by
  simp only [cOp] at hc
  split at hc
  · rename_i kt el hd
    simp only [Option.map_eq_some_iff] at hc
    obtain ⟨x', hx, rfl⟩ := hc
    obtain ⟨β', hb, hle, hx', S'⟩ := made_obj (ob := .map #[] 0) (o := .map [] 0 false) S hid (fun β' _ => by
      refine ⟨#[], heap_new _ _, rfl, by simp, by simp, (fun h => by cases h), fun _ => S.noObj⟩)
    have hfin : (Eff.mk none (some (.map [] 0 false)) (.map id)) = eff → (execOp a.eval o).run P w = .ok (.value (.map (some w.heap.size))) (w.alloc (.map #[] 0)) → Follows P M β w0 w (execOp a.eval o) hp id eff := fun he hrun => by
      subst he
      exact ⟨β', _, _, .inl hrun, hle, hx', S', by simp only [Rel]; exact ⟨_, hb, rfl⟩⟩
    cases x with
    | none =>
      simp only [cXo, Option.some.injEq] at hx; subst hx
      simp only [evI, Option.some.injEq] at hev
      exact hfin hev (by simp [execOp, ho, Instr.makeMap])
    | some x =>
      simp only [cXo, Option.map_eq_some_iff] at hx
      obtain ⟨y, hy, rfl⟩ := hx
      simp only [evI] at hev
      split at hev
      · rename_i k n hv
        have hr := cX_rel G E hy
        rw [hv] at hr; simp only [Rel] at hr
        simp only [Option.some.injEq] at hev
        exact hfin hev (by simp [execOp, ho, Instr.makeMap, run_underlying hd, asInt, asIntOf, hr])
      · cases hev
  · cases hc

/-! Keys. -/

theorem bytesOf_inj {s t : ByteArray} (h : bytesOf s = bytesOf t) : s = t := by
  obtain ⟨⟨s⟩⟩ := s
  obtain ⟨⟨t⟩⟩ := t
  simp only [bytesOf] at h
  rw [map_toNat_inj.1 h]

theorem same_eq : ∀ {ks : List CK} {u v : List V} {cs ds : List Value}, fitsAll ks u = true → fitsAll ks v = true → sameAll u v = true → RelL M β u cs → RelL M β v ds → cs = ds
  | [], [], [], cs, ds, _, _, _, h, k => by simp only [RelL] at h k; rw [h, k]
  | k :: ks, x :: u, y :: v, cs, ds, h1, h2, h3, h4, h5 => by
    simp only [fitsAll, sameAll, Bool.and_eq_true] at h1 h2 h3
    simp only [RelL] at h4 h5
    obtain ⟨c, cs, rfl, hc, hcs⟩ := h4
    obtain ⟨d, ds, rfl, hd, hds⟩ := h5
    rw [same_eq h1.2 h2.2 h3.2 hcs hds]
    congr 1
    cases k <;> cases x <;> simp [CK.fits] at h1 <;> cases y <;> simp [CK.fits] at h2 <;> simp [V.same] at h3 <;> simp only [Rel] at hc hd
    · rw [hc, hd, h3.1]
    · rw [hc, hd, h3.1, ← h1.1, ← h2.1]
    · obtain ⟨s, rfl, hs⟩ := hc
      obtain ⟨t, rfl, ht⟩ := hd
      have hst := bytesOf_inj (s := s) (t := t) (by rw [hs, ht, h3.1])
      rw [hst]
  | [], [], _ :: _, _, _, _, h, _, _, _ => by simp [fitsAll] at h
  | [], _ :: _, _, _, _, h, _, _, _, _ => by simp [fitsAll] at h
  | _ :: _, [], _, _, _, h, _, _, _, _ => by simp [fitsAll] at h
  | _ :: _, _ :: _, [], _, _, _, h, _, _, _ => by simp [fitsAll] at h

theorem sameBits_one : ∀ {k : CK} {v : V} {c : Value} (n : Nat), k.fits v = true → Rel M β v c → Instr.sameBits n c c = true := by
  intro k v c n hf hr
  cases k <;> cases v <;> simp [CK.fits] at hf <;> simp only [Rel] at hr
  · subst hr; cases n <;> simp [Instr.sameBits]
  · subst hr; cases n <;> simp [Instr.sameBits]
  · obtain ⟨s, rfl, _⟩ := hr; cases n <;> simp [Instr.sameBits, beq_toListBytes]

theorem sameBits_all : ∀ {ks : List CK} {u : List V} {cs : List Value} (n : Nat), fitsAll ks u = true → RelL M β u cs → (cs.zip cs).all (fun (x, y) => Instr.sameBits n x y) = true
  | [], [], cs, n, _, h => by simp only [RelL] at h; subst h; rfl
  | k :: ks, x :: u, cs, n, hf, h => by
    simp only [fitsAll, Bool.and_eq_true] at hf
    simp only [RelL] at h
    obtain ⟨c, cs, rfl, hc, hcs⟩ := h
    simp only [List.zip_cons_cons, List.all_cons, sameBits_one n hf.1 hc, sameBits_all n hf.2 hcs, Bool.and_self]
  | [], _ :: _, _, _, h, _ => by simp [fitsAll] at h
  | _ :: _, [], _, _, h, _ => by simp [fitsAll] at h

/-- What a key type's values are. -/
theorem KT_cells {kt : KT} {t : TypeId} (hk : tKT P t = some kt) {v : V} {c : Value} (hf : kt.fits v = true) (hr : Rel M β v c) :
    ∃ g, tAgg P t = some g ∧ kt.agg = g ∧ tCks P 1000 t = some kt.ks ∧ fitsAll kt.ks v.cells = true ∧ CellsOf M β g v.cells c ∧ (c.cells.toList = [c] ∨ ∃ arr, c = .agg arr) := by
  unfold tKT at hk
  simp only [Option.bind_eq_some_iff, Option.map_eq_some_iff] at hk
  obtain ⟨g, hg, ks, hks, rfl⟩ := hk
  refine ⟨g, hg, rfl, hks, ?_⟩
  unfold KT.fits at hf
  cases g with
  | true =>
    cases v <;> simp at hf
    simp only [Rel] at hr
    obtain ⟨arr, rfl, hl⟩ := hr
    exact ⟨hf, ⟨arr, rfl, hl⟩, .inr ⟨arr, rfl⟩⟩
  | false =>
    have hna : ∀ l, v ≠ .agg l := fun l e => by subst e; simp at hf
    have hvc : v.cells = [v] := by cases v <;> first | rfl | (exact absurd rfl (hna _))
    have hf' : fitsAll ks [v] = true := by cases v <;> first | exact hf | (exact absurd rfl (hna _))
    refine ⟨by rw [hvc]; exact hf', ⟨v, hvc, hr⟩, .inl ?_⟩
    have := hr.cells
    rw [hvc] at this
    simp only [RelL] at this
    obtain ⟨c', cs, he, hr', rfl⟩ := this
    have h1 := hr.one
    cases ks with
    | nil => simp [fitsAll] at hf'
    | cons k ks' =>
      simp only [fitsAll, Bool.and_eq_true] at hf'
      cases c <;> first | rfl | skip
      cases v <;> simp [V.one, Value.oneCell'] at h1
      · exact absurd rfl (hna _)
      · cases k <;> simp [CK.fits] at hf'

theorem equal_run {kt : KT} {t : TypeId} (hk : tKT P t = some kt) {k k' : V} {c c' : Value} (h1 : kt.fits k = true) (h2 : kt.fits k' = true) (hc : Rel M β k c) (hc' : Rel M β k' c') (w : World) :
    (Op.equal t c c').run P w = .ok (sameAll k.cells k'.cells) w := by
  obtain ⟨g, hg, _, hks, hf, hcc, _⟩ := KT_cells hk h1 hc
  obtain ⟨g', hg', _, _, hf', hcc', _⟩ := KT_cells hk h2 hc'
  rw [hg] at hg'; cases hg'
  exact run_equal_cks 1000 t kt.ks g 10000 hks hg (by omega) _ _ _ _ w hf hf' hcc hcc'

theorem checkKey_run {kt : KT} {t : TypeId} (hk : tKT P t = some kt) {k : V} {c : Value} (h1 : kt.fits k = true) (hc : Rel M β k c) (em : Bool) (w : World) : (Instr.checkKey em 10000 t c).run P w = .ok () w := by
  obtain ⟨g, hg, _, hks, hf, hcc, _⟩ := KT_cells hk h1 hc
  exact run_checkKey_cks 1000 t kt.ks g 10000 em hks hg (by omega) _ _ w hf hcc

/-- What a search tells, said of the entries. -/
def Found (M : Mem) (β : Places) (r : Option (Nat × V)) (r' : Option (Nat × Value)) : Prop :=
  match r with
  | none => r' = none
  | some (i, v) => ∃ c, r' = some (i, c) ∧ Rel M β v c

theorem findAsking_run {kt : KT} {t : TypeId} (hk : tKT P t = some kt) {k : V} {c : Value} (h1 : kt.fits k = true) (hc : Rel M β k c) (w : World) :
    ∀ {es : List (V × V × Nat)} {ms : List MapEntry} (j : Nat), RelEnt M β es ms → (∀ e ∈ es, kt.fits e.1 = true) → ∃ r, (Instr.findAsking t c ms j).run P w = .ok r w ∧ Found M β (findE k.cells es j) r
  | [], ms, j, h, _ => by
    simp only [RelEnt] at h; subst h
    exact ⟨none, by simp [Instr.findAsking], rfl⟩
  | (k', v, b) :: es, ms, j, h, hf => by
    simp only [RelEnt] at h
    obtain ⟨m, ms, rfl, hk', hv, hb, ht⟩ := h
    have he := equal_run (M := M) (β := β) hk h1 (hf (k', v, b) (by simp)) hc hk' w
    simp only [Instr.findAsking, Sem.run_bind, he, Result.andThen_ok, findE]
    cases sameAll k.cells k'.cells with
    | true => exact ⟨some (j, m.val), by simp, m.val, rfl, hv⟩
    | false =>
      obtain ⟨r, h2, h3⟩ := findAsking_run hk h1 hc w (j + 1) ht (fun e he => hf e (by simp [he]))
      exact ⟨r, by simpa using h2, by simpa using h3⟩

theorem sameNow_same {d : TypeDesc} {ck : CK} (hd : (∃ k, d = .int k ∧ ck = .int k) ∨ (d = .string ∧ ck = .str) ∨ (d = .bool ∧ ck = .bool)) {x y : V} {c c' : Value} (hx : ck.fits x = true) (hy : ck.fits y = true) (h : Rel M β x c) (h' : Rel M β y c') :
    (d ≠ .bool → Instr.sameNow d c c' = some (sameAll [x] [y])) ∧ (d = .bool → Instr.sameNow d c c' = none ∨ Instr.sameNow d c c' = some (sameAll [x] [y])) := by
  rcases hd with ⟨k, rfl, rfl⟩ | ⟨rfl, rfl⟩ | ⟨rfl, rfl⟩
  · cases x <;> simp [CK.fits] at hx
    cases y <;> simp [CK.fits] at hy
    simp only [Rel] at h h'
    subst h h' hx hy
    simp [Instr.sameNow, sameAll, V.same]
  · cases x <;> simp [CK.fits] at hx
    cases y <;> simp [CK.fits] at hy
    simp only [Rel] at h h'
    obtain ⟨s, rfl, hs⟩ := h
    obtain ⟨t, rfl, ht⟩ := h'
    subst hs ht
    refine ⟨fun _ => ?_, fun h => by cases h⟩
    simp only [Instr.sameNow, sameAll, V.same, Bool.and_true, beq_toListBytes, bytesOf_beq]
  · cases x <;> simp [CK.fits] at hx
    cases y <;> simp [CK.fits] at hy
    simp only [Rel] at h h'
    subst h h'
    simp [Instr.sameNow, sameAll, V.same]

theorem findKey_run {kt : KT} {t : TypeId} (hk : tKT P t = some kt) {k : V} {c : Value} (h1 : kt.fits k = true) (hc : Rel M β k c) (w : World)
    {es : List (V × V × Nat)} {ms : List MapEntry} (h : RelEnt M β es ms) (hf : ∀ e ∈ es, kt.fits e.1 = true) : ∃ r, (Instr.findKey t c ms).run P w = .ok r w ∧ Found M β (findE k.cells es 0) r := by
  have hu : ∃ d, P.underlying t = some d := by
    unfold tKT tAgg at hk
    cases hd : P.underlying t with
    | none => simp [hd] at hk
    | some d => exact ⟨d, rfl⟩
  obtain ⟨d, hd⟩ := hu
  obtain ⟨r, h2, h3⟩ := findAsking_run hk h1 hc w 0 h hf
  -- the quick search, where it answers, answers the same
  have quick : ∀ (es : List (V × V × Nat)) (ms : List MapEntry) (j : Nat), RelEnt M β es ms → (∀ e ∈ es, kt.fits e.1 = true) → ∀ r', Instr.findNow d c ms j = some r' → Found M β (findE k.cells es j) r' := by
    intro es
    induction es with
    | nil =>
      intro ms j h _ r' hr
      simp only [RelEnt] at h; subst h
      simp only [Instr.findNow, Option.some.injEq] at hr; subst hr
      rfl
    | cons x es ih =>
      intro ms j h hf r' hr
      obtain ⟨k', v, b⟩ := x
      simp only [RelEnt] at h
      obtain ⟨m, ms, rfl, hk', hv, hb, ht⟩ := h
      simp only [Instr.findNow] at hr
      have hsame : ∀ q, Instr.sameNow d c m.key = some q → q = sameAll k.cells k'.cells := by
        intro q hq
        obtain ⟨g, hg, hga, hks, hfk, hcc, _⟩ := KT_cells hk h1 hc
        obtain ⟨g', hg', _, _, hfk', hcc', _⟩ := KT_cells hk (hf (k', v, b) (by simp)) hk'
        rw [hg] at hg'; cases hg'
        cases g with
        | true =>
          obtain ⟨arr, rfl, _⟩ := hcc
          unfold Instr.sameNow at hq
          split at hq <;> simp_all
        | false =>
          obtain ⟨x, hx, hxr⟩ := hcc
          obtain ⟨y, hy, hyr⟩ := hcc'
          rw [hx] at hfk ⊢
          rw [hy] at hfk' ⊢
          unfold tCks at hks
          rw [hd] at hks
          cases d <;> simp at hks
          case bool =>
            rw [← hks] at hfk hfk'
            simp [fitsAll] at hfk hfk'
            rcases (sameNow_same (M := M) (β := β) (.inr (.inr ⟨rfl, rfl⟩)) hfk hfk' hxr hyr).2 rfl with h | h
            · rw [h] at hq; cases hq
            · rw [h] at hq; cases hq; rfl
          case int kk =>
            rw [← hks] at hfk hfk'
            simp [fitsAll] at hfk hfk'
            have := (sameNow_same (M := M) (β := β) (.inl ⟨kk, rfl, rfl⟩) hfk hfk' hxr hyr).1 (by simp)
            rw [this] at hq; cases hq; rfl
          case string =>
            rw [← hks] at hfk hfk'
            simp [fitsAll] at hfk hfk'
            have := (sameNow_same (M := M) (β := β) (.inr (.inl ⟨rfl, rfl⟩)) hfk hfk' hxr hyr).1 (by simp)
            rw [this] at hq; cases hq; rfl
          case struct fs => simp [tAgg, hd] at hg
      simp only [findE]
      cases hs : Instr.sameNow d c m.key with
      | none => rw [hs] at hr; cases hr
      | some q =>
        rw [hs] at hr
        have := hsame q hs
        cases q with
        | true => rw [← this]; cases hr; exact ⟨m.val, rfl, hv⟩
        | false => rw [← this]; exact ih ms (j + 1) ht (fun e he => hf e (by simp [he])) r' hr
  simp only [Instr.findKey, Sem.run_bind, run_underlying hd, Result.andThen_ok]
  cases hq : Instr.findNow d c ms 0 with
  | none => exact ⟨r, h2, h3⟩
  | some r' => exact ⟨r', by simp, quick es ms 0 h hf r' hq⟩

theorem RelEnt_of : ∀ {ks vs : List V} {ms : List MapEntry}, RelKs M β ks ms → RelVs M β vs ms → RelEnt M β (ks.zip (vs.zip (ms.map (·.born)))) ms ∧ ks.length = ms.length ∧ vs.length = ms.length
  | [], vs, ms, h, h' => by
    simp only [RelKs] at h; subst h
    cases vs with
    | nil => exact ⟨rfl, rfl, rfl⟩
    | cons v vs => simp [RelVs] at h'
  | k :: ks, [], ms, h, h' => by
    simp only [RelVs] at h'; subst h'
    simp [RelKs] at h
  | k :: ks, v :: vs, ms, h, h' => by
    simp only [RelKs] at h
    simp only [RelVs] at h'
    obtain ⟨c, cs, rfl, _, h1, h2⟩ := h
    obtain ⟨c', cs', he, _, h3, h4⟩ := h'
    cases he
    obtain ⟨h5, h6, h7⟩ := RelEnt_of h2 h4
    exact ⟨⟨c, cs, rfl, h1, h3, rfl, h5⟩, by simp [h6], by simp [h7]⟩

theorem findR_eq : ∀ {ks vs : List V} {bs : List Nat} (k : List V) (j : Nat), ks.length = bs.length → vs.length = bs.length → (findE k (ks.zip (vs.zip bs)) j).map (·.2) = findR k ks vs
  | [], vs, bs, k, j, _, _ => by cases vs <;> simp [findE, findR]
  | k' :: ks, [], bs, k, j, h1, h2 => by simp at h1 h2; omega
  | k' :: ks, v :: vs, [], k, j, h1, h2 => by simp at h1
  | k' :: ks, v :: vs, b :: bs, k, j, h1, h2 => by
    simp only [List.zip_cons_cons, findE, findR]
    split
    · rfl
    · exact findR_eq k (j + 1) (by simpa using h1) (by simpa using h2)

def FoundV (M : Mem) (β : Places) : Option V → Option (Nat × Value) → Prop
  | none, r' => r' = none
  | some v, r' => ∃ j c, r' = some (j, c) ∧ Rel M β v c

theorem f_lookup (G : Globs gl M) (E : EnvRel M β N e a) (S : Sim M β hp.get w0 w) (hg : ∀ b o, g b = some o → hp.get b = some o) {t : TypeId} {x y : Operand} {ok : Bool} (ho : o.op = .lookup t x y ok) (hc : cOp P gl (.lookup t x y ok) = some i) (hev : evI g id e i = some eff) :
    Follows P M β w0 w (execOp a.eval o) hp id eff := by
  simp only [cOp] at hc
  split at hc
  · rename_i kty el hd
    simp only [Option.bind_eq_some_iff, Option.map_eq_some_iff] at hc
    obtain ⟨kt, hkt, z, hz, x', hx, y', hy, rfl⟩ := hc
    obtain ⟨zc, hzr, hzrel⟩ := tZero_run hz
    have hr := cX_rel G E hx
    have hq := cX_rel G E hy
    simp only [evI, Option.map_eq_some_iff] at hev
    obtain ⟨r, hl, rfl⟩ := hev
    -- the end, out of what the search told
    have fin : ∀ (es : Array MapEntry) (r' : Option (Nat × Value)), kt.fits (y'.val e) = true → (a.eval x = .map none ∧ es = #[] ∨ ∃ q clock, a.eval x = .map (some q) ∧ (getObj q).run P w = .ok (.map es clock) w) →
        (Instr.findKey kty (a.eval y) es.toList).run P w = .ok r' w → FoundV M β r r' →
        Follows P M β w0 w (execOp a.eval o) hp id { val := if ok then .tuple [r.getD z, .bool r.isSome] else r.getD z } := by
      intro es r' hfit hmap hfind hfound
      have hck := checkKey_run hkt hfit hq es.isEmpty w
      have hrun : ∀ (v : Value) (b : Bool), (r' = none ∧ v = zc ∧ b = false ∨ ∃ j, r' = some (j, v) ∧ b = true) →
          (execOp a.eval o).run P w = .ok (.value (if ok then .tuple #[v, .bool b] else v)) w := fun v b h => by
        rcases hmap with ⟨he, rfl⟩ | ⟨q, clock, he, hgo⟩
        · rcases h with ⟨rfl, rfl, rfl⟩ | ⟨j, rfl, rfl⟩
          · simp only [execOp, ho, Instr.lookup, Sem.run_bind, run_underlying hd, Result.andThen_ok, he, Sem.run_pure, hck, hfind, hzr]
          · simp only [execOp, ho, Instr.lookup, Sem.run_bind, run_underlying hd, Result.andThen_ok, he, Sem.run_pure, hck, hfind]
        · rcases h with ⟨rfl, rfl, rfl⟩ | ⟨j, rfl, rfl⟩
          · simp only [execOp, ho, Instr.lookup, Sem.run_bind, run_underlying hd, Result.andThen_ok, he, hgo, Sem.run_pure, hck, hfind, hzr]
          · simp only [execOp, ho, Instr.lookup, Sem.run_bind, run_underlying hd, Result.andThen_ok, he, hgo, Sem.run_pure, hck, hfind]
      cases r with
      | none =>
        simp only [FoundV] at hfound
        subst hfound
        refine Follows.same S (hrun zc false (.inl ⟨rfl, rfl, rfl⟩)) ?_
        cases ok with
        | true => simp only [if_true, Option.getD_none, Option.isSome_none, Rel, RelL]; exact ⟨_, rfl, zc, [.bool false], rfl, hzrel _ _, _, [], rfl, rfl, rfl⟩
        | false => exact hzrel _ _
      | some v =>
        obtain ⟨j, c, rfl, hcr⟩ := hfound
        refine Follows.same S (hrun c true (.inr ⟨j, rfl, rfl⟩)) ?_
        cases ok with
        | true => simp only [if_true, Option.getD_some, Option.isSome_some, Rel, RelL]; exact ⟨_, rfl, c, [.bool true], rfl, hcr, _, [], rfl, rfl, rfl⟩
        | false => exact hcr
    unfold lookupV at hl
    split at hl
    · cases hl
    · rename_i hfit
      have hfit : kt.fits (y'.val e) = true := by simpa using hfit
      split at hl
      · rename_i hv
        cases hl
        rw [hv] at hr; simp only [Rel] at hr
        refine fin #[] none hfit (.inl ⟨hr, rfl⟩) ?_ rfl
        obtain ⟨r2, h2, h3⟩ := findKey_run hkt hfit hq w (es := []) (ms := []) rfl (by simp)
        have : r2 = none := h3
        rw [this] at h2
        exact h2
      · rename_i ks vs hv
        split at hl
        · rename_i hcond
          cases hl
          simp only [Bool.and_eq_true, List.all_eq_true, beq_iff_eq] at hcond
          rw [hv] at hr; simp only [Rel] at hr
          obtain ⟨rr, es, clock, he, hMo, hks, hvs, _⟩ := hr
          obtain ⟨hent, hl1, hl2⟩ := RelEnt_of hks hvs
          obtain ⟨r2, h2, h3⟩ := findKey_run hkt hfit hq w hent (fun x hx => hcond.1 _ (List.of_mem_zip hx).1)
          have hfr := findR_eq (bs := es.toList.map (·.born)) (y'.val e).cells 0 (by simpa using hl1) (by simpa using hl2)
          refine fin es r2 hfit (.inr ⟨rr, clock, he, run_getObj (P := P) (S.memo _ _ hMo) (fun _ _ _ h => by cases h)⟩) h2 ?_
          rw [← hfr]
          cases hfe : findE (y'.val e).cells (ks.zip (vs.zip (es.toList.map (·.born)))) 0 with
          | none => rw [hfe] at h3; exact h3
          | some q => rw [hfe] at h3; obtain ⟨c, h4, h5⟩ := h3; exact ⟨_, c, h4, h5⟩
        · cases hl
      · rename_i b hv
        split at hl
        · rename_i es clock fzn hb
          split at hl
          · rename_i hall
            cases hl
            rw [hv] at hr; simp only [Rel] at hr
            obtain ⟨j, hj, he⟩ := hr
            obtain ⟨j', hj', _, ces, hw, hent, _⟩ := S.obj _ _ (hg _ _ hb)
            rw [hj] at hj'; cases hj'
            obtain ⟨r2, h2, h3⟩ := findKey_run hkt hfit hq w hent (fun x hx => by simpa using List.all_eq_true.1 hall x hx)
            refine fin ces r2 hfit (.inr ⟨j.blk, clock, he, run_getObj (P := P) hw (fun _ _ _ h => by cases h)⟩) h2 ?_
            cases hfe : findE (y'.val e).cells es 0 with
            | none => rw [hfe] at h3; exact h3
            | some q => rw [hfe] at h3; obtain ⟨c, h4, h5⟩ := h3; exact ⟨_, c, h4, h5⟩
          · cases hl
        · cases hl
      · cases hl
  · cases hc

end
end Go.Abs
