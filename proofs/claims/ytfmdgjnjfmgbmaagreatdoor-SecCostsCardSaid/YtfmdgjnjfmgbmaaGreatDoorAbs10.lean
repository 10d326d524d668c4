/-
  ABS, part 10: the other operations on values alone.
-/
import Derived.Test.YtfmdgjnjfmgbmaaGreatDoorAbs9
namespace Go.Abs
open Go Go.RowKit
set_option linter.unusedSectionVars false
variable [Syms]

section
variable {P : Program}

theorem tZero_run {t : TypeId} {z : V} (h : tZero P t = some z) : ∃ c, (∀ w, (zeroValue t).run P w = .ok c w) ∧ ∀ M β, Rel M β z c := by
  unfold tZero at h
  simp only [Option.bind_eq_some_iff] at h
  obtain ⟨c, ⟨i, hi, hz⟩, hc⟩ := h
  exact ⟨c, fun w => by simp [zeroValue, typeInfo, hi, hz], fun M β => ofConst_rel M β _ _ _ hc⟩

theorem tSize_run {t : TypeId} {n : Nat} (h : tSize P t = some n) : ∀ w, (sizeOf t).run P w = .ok n w := by
  unfold tSize at h
  simp only [Option.map_eq_some_iff] at h
  obtain ⟨i, hi, rfl⟩ := h
  intro w; simp [sizeOf, typeInfo, hi]

theorem tSize_cellsOf {t : TypeId} {n : Nat} (h : tSize P t = some n) : P.cellsOf t = n := by
  unfold tSize at h
  simp only [Option.map_eq_some_iff] at h
  obtain ⟨i, hi, rfl⟩ := h
  simp [Program.cellsOf, hi]

theorem tBytes_run {t : TypeId} {n : Nat} (h : tBytes P t = some n) : ∃ i, i.bytes = n ∧ ∀ w, (typeInfo t).run P w = .ok i w := by
  unfold tBytes at h
  simp only [Option.map_eq_some_iff] at h
  obtain ⟨i, hi, rfl⟩ := h
  exact ⟨i, rfl, fun w => by simp [typeInfo, hi]⟩

theorem tAgg_run {t : TypeId} {g : Bool} (h : tAgg P t = some g) : ∀ w, (isAgg t).run P w = .ok g w := by
  unfold tAgg at h
  intro w
  cases hd : P.underlying t with
  | none => simp [hd] at h
  | some d =>
    simp only [hd, Option.map_some, Option.some.injEq] at h
    subst h
    cases d <;> simp [isAgg, run_underlying hd]
end

section
variable {P : Program} {M : Mem} {β : Places} {w0 w : World} {hp : Heap} {id N : Nat} {e : Env} {a : Act} {gl : Nat → Option (List V)} {g : View} {o : Oper} {i : I} {eff : Eff}

theorem eq_of_equalIn {t : TypeId} {x y : Operand} {c d : Value} {b : Bool} {w : World} (he : ∀ n, (Op.equalIn (n + 1) t c d).run P w = .ok b w) (h1 : Go.binOp .eql t c d = (do pure (.bool (← Op.equal t c d))))
    (h2 : Go.binOp .neq t c d = (do pure (.bool (!(← Op.equal t c d))))) (hg : ∀ op, eqGuard op t x y c d = pure ()) :
    (do eqGuard .eql t x y c d; Go.binOp .eql t c d : Sem Value).run P w = .ok (.bool b) w ∧ (do eqGuard .neq t x y c d; Go.binOp .neq t c d : Sem Value).run P w = .ok (.bool !b) w := by
  have he' : (Op.equal t c d).run P w = .ok b w := he 9999
  rw [hg, hg, h1, h2]
  simp only [Sem.run_bind, Sem.run_pure, Result.andThen_ok, he']
  exact ⟨trivial, trivial⟩

set_option maxHeartbeats 2000000 in
theorem run_eqOp {k : EqK} {t : TypeId} {x y : Operand} (hk : cEq P t x y = some k) {u v : V} {b : Bool} (h : eqOp k u v = some b) {c d : Value} (hu : Rel M β u c) (hv : Rel M β v d) (w : World) (hcx : isConst x = true ∨ isConst y = true ∨ k ≠ .ifaceNil) :
    (do eqGuard .eql t x y c d; Go.binOp .eql t c d : Sem Value).run P w = .ok (.bool b) w ∧ (do eqGuard .neq t x y c d; Go.binOp .neq t c d : Sem Value).run P w = .ok (.bool !b) w := by
  unfold cEq at hk
  split at hk
  · -- bool
    rename_i hd
    cases hk
    cases u <;> cases v <;> simp [eqOp] at h
    simp only [Rel] at hu hv
    subst hu hv h
    exact eq_of_equalIn (fun n => by simp [Op.equalIn, run_underlying hd]) rfl rfl (fun _ => eqGuard_at_bool ..)
  · rename_i fs hd
    split at hk
    · cases hk
    · rename_i hm
      simp only [Option.map_eq_some_iff] at hk
      obtain ⟨ks, hks, rfl⟩ := hk
      cases u <;> cases v <;> simp [eqOp] at h
      obtain ⟨⟨h1, h2⟩, rfl⟩ := h
      simp only [Rel] at hu hv
      obtain ⟨xs, rfl, hx⟩ := hu
      obtain ⟨ys, rfl, hy⟩ := hv
      have hm' : P.eqGuardType P.depth t = false := by simpa using hm
      have hq := run_equal_cks (M := M) (β := β) 1000 t ks true 10000 hks (by simp [tAgg, hd]) (by omega) _ _ (.agg xs) (.agg ys) w h1 h2 ⟨_, rfl, hx⟩ ⟨_, rfl, hy⟩
      simp only [Sem.run_bind, run_eqGuard_agg w _ t x y xs ys hm', Result.andThen_ok, run_eql_struct, run_neq_struct, hq]
      exact ⟨trivial, trivial⟩
  · rename_i fs hd
    split at hk
    · cases hk
    · simp only [Option.map_eq_some_iff] at hk
      obtain ⟨ks, hks, rfl⟩ := hk
      unfold tCks at hks
      simp [hd] at hks
  · rename_i el hd
    split at hk
    · cases hk
    · cases hk
      cases u <;> cases v <;> simp [eqOp] at h <;> simp only [Rel] at hu hv
      · subst hu hv h
        exact eq_of_equalIn (fun n => by simp [Op.equalIn, run_underlying hd]) rfl rfl (fun _ => eqGuard_at_pointer ..)
      · obtain ⟨i, _, rfl⟩ := hv; subst hu h
        exact eq_of_equalIn (fun n => by simp [Op.equalIn, run_underlying hd]) rfl rfl (fun _ => eqGuard_at_pointer ..)
      · obtain ⟨i, _, _, rfl⟩ := hv; subst hu h
        exact eq_of_equalIn (fun n => by simp [Op.equalIn, run_underlying hd]) rfl rfl (fun _ => eqGuard_at_pointer ..)
      · obtain ⟨i, _, rfl⟩ := hu; subst hv h
        exact eq_of_equalIn (fun n => by simp [Op.equalIn, run_underlying hd]) rfl rfl (fun _ => eqGuard_at_pointer ..)
      · obtain ⟨i, _, _, rfl⟩ := hu; subst hv h
        exact eq_of_equalIn (fun n => by simp [Op.equalIn, run_underlying hd]) rfl rfl (fun _ => eqGuard_at_pointer ..)
  · rename_i el hd
    cases hk
    cases u <;> cases v <;> simp [eqOp] at h <;> simp only [Rel] at hu hv
    · subst hu hv h
      exact eq_of_equalIn (fun n => by simp [Op.equalIn, run_underlying hd]) rfl rfl (fun _ => eqGuard_at_slice ..)
    · obtain ⟨i, n, _, _, _, _, _, ad, rfl, _⟩ := hv; subst hu h
      exact eq_of_equalIn (fun n => by simp [Op.equalIn, run_underlying hd]) rfl rfl (fun _ => eqGuard_at_slice ..)
    · obtain ⟨i, n, _, _, _, _, ad, rfl, _⟩ := hv; subst hu h
      exact eq_of_equalIn (fun n => by simp [Op.equalIn, run_underlying hd]) rfl rfl (fun _ => eqGuard_at_slice ..)
    · obtain ⟨i, n, _, _, _, _, _, ad, rfl, _⟩ := hu; subst hv h
      exact eq_of_equalIn (fun n => by simp [Op.equalIn, run_underlying hd]) rfl rfl (fun _ => eqGuard_at_slice ..)
    · obtain ⟨i, n, _, _, _, _, ad, rfl, _⟩ := hu; subst hv h
      exact eq_of_equalIn (fun n => by simp [Op.equalIn, run_underlying hd]) rfl rfl (fun _ => eqGuard_at_slice ..)
  · rename_i ky el hd
    cases hk
    cases u <;> cases v <;> simp [eqOp] at h <;> simp only [Rel] at hu hv
    · subst hu hv h
      exact eq_of_equalIn (fun n => by simp [Op.equalIn, run_underlying hd]) rfl rfl (fun _ => eqGuard_at_map ..)
    · obtain ⟨i, _, rfl⟩ := hu; subst hv h
      exact eq_of_equalIn (fun n => by simp [Op.equalIn, run_underlying hd]) rfl rfl (fun _ => eqGuard_at_map ..)
    · obtain ⟨r, es, _, rfl, _⟩ := hu; subst hv h
      exact eq_of_equalIn (fun n => by simp [Op.equalIn, run_underlying hd]) rfl rfl (fun _ => eqGuard_at_map ..)
  · rename_i hd
    cases hk
    cases u <;> cases v <;> simp [eqOp] at h <;> simp only [Rel] at hu hv
    · obtain ⟨f', x', y', _, rfl, _⟩ := hu; subst hv h
      exact eq_of_equalIn (fun n => by simp [Op.equalIn, run_underlying hd]) rfl rfl (fun _ => eqGuard_at_func ..)
    · obtain ⟨f', x', y', _, rfl, _⟩ := hv; subst hu h
      exact eq_of_equalIn (fun n => by simp [Op.equalIn, run_underlying hd]) rfl rfl (fun _ => eqGuard_at_nilFunc ..)
    · subst hu hv h
      exact eq_of_equalIn (fun n => by simp [Op.equalIn, run_underlying hd]) rfl rfl (fun _ => eqGuard_at_nilFunc ..)
  · rename_i ms hd
    split at hk
    · rename_i hxy
      cases hk
      cases u <;> cases v <;> simp [eqOp] at h <;> simp only [Rel] at hu hv
      · obtain ⟨d', rfl, _⟩ := hu; subst hv h
        exact eq_of_equalIn (fun n => by simp [Op.equalIn, run_underlying hd]) rfl rfl (fun _ => eqGuard_at_iface ..)
      · obtain ⟨d', rfl, _⟩ := hv; subst hu h
        exact eq_of_equalIn (fun n => by simp [Op.equalIn, run_underlying hd]) rfl rfl (fun _ => eqGuard_nil_iface ..)
      · subst hu hv h
        have hgd : ∀ op, eqGuard op t x y .nilIface .nilIface = pure () := fun op => by
          cases x <;> cases y <;> first | (simp [isConst] at hxy; done) | exact eqGuard_nil_constR .. | exact eqGuard_nil_constL ..
        exact eq_of_equalIn (fun n => by simp [Op.equalIn, run_underlying hd]) rfl rfl hgd
    · cases hk
  · cases hk

theorem f_eq (G : Globs gl M) (E : EnvRel M β N e a) (S : Sim M β hp.get w0 w) {neg : Bool} {t u : TypeId} {x y : Operand} (ho : o.op = .binOp (if neg then .neq else .eql) t x y u) {x' y' : X} (hx : cX gl x = some x') (hy : cX gl y = some y') {k : EqK}
    (hk : cEq P t x y = some k) (hev : evI g id e (.eq k neg x' y') = some eff) : Follows P M β w0 w (execOp a.eval o) hp id eff := by
  simp only [evI, Option.map_eq_some_iff] at hev
  obtain ⟨b, hb, rfl⟩ := hev
  have hcx : isConst x = true ∨ isConst y = true ∨ k ≠ .ifaceNil := by
    unfold cEq at hk
    split at hk <;> (try split at hk) <;> simp_all
    all_goals first
      | (right; right; rintro rfl; simp_all; done)
      | (rename_i h; rcases h with h | h <;> simp [h]; done)
      | skip
  obtain ⟨h1, h2⟩ := run_eqOp (P := P) hk hb (cX_rel G E hx) (cX_rel G E hy) w hcx
  cases neg with
  | false =>
    refine Follows.same S (c := .bool b) ?_ (by simp only [Rel]; rfl)
    simp only [execOp, ho, Bool.false_eq_true, if_false]
    simp only [Sem.run_bind, Sem.run_pure] at h1 ⊢
    rw [h1]; rfl
  | true =>
    refine Follows.same S (c := .bool !b) ?_ (by simp only [Rel]; rfl)
    simp only [execOp, ho, if_true]
    simp only [Sem.run_bind, Sem.run_pure] at h2 ⊢
    rw [h2]; rfl

end
end Go.Abs
