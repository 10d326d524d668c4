/-
  ABS, part 9: keys and structs are held against each other cell by cell.
-/
import Derived.Test.YtfmdgjnjfmgbmaaGreatDoorAbs8
import Derived.Laws.StructEq
namespace Go.Abs
open Go Go.RowKit
set_option linter.unusedSectionVars false
variable [Syms]

theorem fitsAll_length : ∀ {ks : List CK} {u : List V}, fitsAll ks u = true → u.length = ks.length
  | [], [], _ => rfl
  | [], _ :: _, h => by simp [fitsAll] at h
  | _ :: _, [], h => by simp [fitsAll] at h
  | k :: ks, v :: u, h => by
    simp only [fitsAll, Bool.and_eq_true] at h
    simp [fitsAll_length h.2]

theorem fitsAll_append : ∀ {a b : List CK} {u : List V}, fitsAll (a ++ b) u = true → fitsAll a (u.take a.length) = true ∧ fitsAll b (u.drop a.length) = true
  | [], b, u, h => by simpa [fitsAll] using h
  | k :: a, b, [], h => by simp [fitsAll] at h
  | k :: a, b, v :: u, h => by
    simp only [List.cons_append, fitsAll, Bool.and_eq_true] at h
    obtain ⟨h1, h2⟩ := fitsAll_append h.2
    simp [fitsAll, h.1, h1, h2]

theorem sameAll_append : ∀ {u u' v v' : List V}, u.length = u'.length → sameAll (u ++ v) (u' ++ v') = (sameAll u u' && sameAll v v')
  | [], [], v, v', _ => by simp [sameAll]
  | x :: u, y :: u', v, v', h => by
    simp only [List.cons_append, sameAll]
    rw [sameAll_append (by simpa using h), Bool.and_assoc]

section
variable {P : Program} {M : Mem} {β : Places}

/-- A value of a type, by its cells. -/
def CellsOf (M : Mem) (β : Places) (g : Bool) (u : List V) (c : Value) : Prop :=
  match g with
  | true => ∃ arr, c = .agg arr ∧ RelL M β u arr.toList
  | false => ∃ x, u = [x] ∧ Rel M β x c

theorem run_part_rel {t : TypeId} {g : Bool} (hg : tAgg P t = some g) {xs : Array Value} {u : List V} (hu : RelL M β u xs.toList) {off : Nat} {a : List V} (ha : a = (u.drop off).take (P.cellsOf t)) (hl : a.length = P.cellsOf t)
    (h1 : g = false → P.cellsOf t = 1) (w : World) : ∃ c, (part t xs off).run P w = .ok c w ∧ CellsOf M β g a c := by
  unfold tAgg at hg
  cases hd : P.underlying t with
  | none => simp [hd] at hg
  | some d =>
    simp only [hd, Option.map_some, Option.some.injEq] at hg
    have hi : ∃ i, P.info? t = some i := by
      unfold Program.underlying at hd
      cases hi : P.info? t with
      | none => simp [hi] at hd
      | some i => exact ⟨i, rfl⟩
    obtain ⟨i, hi⟩ := hi
    have hsz : P.cellsOf t = i.size := by simp [Program.cellsOf, hi]
    have key : RelL M β a ((xs.toList.drop off).take (P.cellsOf t)) := by subst ha; exact (hu.drop off).take _
    cases g with
    | true =>
      have hag : ∀ w, (isAgg t).run P w = .ok true w := fun w => by
        cases d <;> first | (simp at hg; done) | simp [isAgg, run_underlying hd]
      refine ⟨.agg (xs.extract off (off + i.size)), by simp [part, hag, sizeOf, typeInfo, hi], _, rfl, ?_⟩
      rw [Array.toList_extract]
      rw [hsz] at key
      simpa [List.extract] using key
    | false =>
      have hag : ∀ w, (isAgg t).run P w = .ok false w := fun w => by
        cases d <;> first | (simp at hg; done) | simp [isAgg, run_underlying hd]
      have h1' := h1 rfl
      rw [h1'] at key hl
      match a, hl, key with
      | [x], _, key =>
        simp only [RelL] at key
        obtain ⟨c, cs, e, hr, rfl⟩ := key
        have hx : xs[off]? = some c := by
          have : ((xs.toList.drop off).take 1)[0]? = some c := by rw [e]; rfl
          rw [List.getElem?_take, if_pos (by omega), List.getElem?_drop] at this
          simpa using this
        exact ⟨c, by simp [part, hag, hx], x, rfl, hr⟩

theorem agg_one {d : Nat} {t : TypeId} {ks : List CK} (h : tCks P d t = some ks) (hg : tAgg P t = some false) : ks.length = 1 := by
  cases d with
  | zero => simp [tCks] at h
  | succ d =>
    unfold tCks at h
    unfold tAgg at hg
    cases hd : P.underlying t with
    | none => simp [hd] at hg
    | some td =>
      rw [hd] at h hg
      cases td <;> simp at h hg
      all_goals (subst h; rfl)

theorem tAgg_some {d : Nat} {t : TypeId} {ks : List CK} (h : tCks P d t = some ks) : ∃ g, tAgg P t = some g := by
  cases d with
  | zero => simp [tCks] at h
  | succ d =>
    unfold tCks at h
    unfold tAgg
    cases hd : P.underlying t with
    | none => rw [hd] at h; cases h
    | some td => exact ⟨_, rfl⟩

mutual
theorem run_equal_cks : ∀ (d : Nat) (t : TypeId) (ks : List CK) (g : Bool) (n : Nat), tCks P d t = some ks → tAgg P t = some g → d ≤ n → ∀ (u v : List V) (c c' : Value) (w : World),
    fitsAll ks u = true → fitsAll ks v = true → CellsOf M β g u c → CellsOf M β g v c' → (Op.equalIn n t c c').run P w = .ok (sameAll u v) w
  | 0, _, _, _, _, h, _, _, _, _, _, _, _, _, _, _, _ => by simp [tCks] at h
  | d + 1, t, ks, g, 0, h, hg, hn, _, _, _, _, _, _, _, _, _ => by omega
  | d + 1, t, ks, g, n + 1, h, hg, hn, u, v, c, c', w, hu, hv, hc, hc' => by
    unfold tCks at h
    have hg' := hg
    unfold tAgg at hg
    split at h
    · rename_i hd
      simp [hd] at hg; subst hg; cases h
      obtain ⟨x, rfl, hx⟩ := hc
      obtain ⟨y, rfl, hy⟩ := hc'
      cases x <;> simp [fitsAll, CK.fits] at hu
      cases y <;> simp [fitsAll, CK.fits] at hv
      simp only [Rel] at hx hy
      subst hx hy
      rw [run_equalIn_bool' w n t _ _ hd]
      simp [sameAll, V.same]
    · rename_i k hd
      simp [hd] at hg; subst hg; cases h
      obtain ⟨x, rfl, hx⟩ := hc
      obtain ⟨y, rfl, hy⟩ := hc'
      cases x <;> simp [fitsAll, CK.fits] at hu
      cases y <;> simp [fitsAll, CK.fits] at hv
      subst hu hv
      simp only [Rel] at hx hy
      subst hx hy
      rw [run_equalIn_int w n t _ _ _ _ hd]
      simp [sameAll, V.same]
    · rename_i hd
      simp [hd] at hg; subst hg; cases h
      obtain ⟨x, rfl, hx⟩ := hc
      obtain ⟨y, rfl, hy⟩ := hc'
      cases x <;> simp [fitsAll, CK.fits] at hu
      cases y <;> simp [fitsAll, CK.fits] at hv
      simp only [Rel] at hx hy
      obtain ⟨s, rfl, hs⟩ := hx
      obtain ⟨s', rfl, hs'⟩ := hy
      rw [run_equalIn_string w n t _ _ hd, bytesOf_beq, hs, hs']
      simp [sameAll, V.same]
    · rename_i fs hd
      simp [hd] at hg; subst hg
      split at h
      · cases h
      · rename_i hst
        obtain ⟨xs, rfl, hx⟩ := hc
        obtain ⟨ys, rfl, hy⟩ := hc'
        have hfs : P.fieldsOf t = fs := by simp [Program.fieldsOf, hd]
        rw [run_equalIn_struct w n t xs ys (by rw [hd, hfs]) (by simpa using hst), hfs]
        have := run_eqFields_cks d 0 fs.toList ks n h (by omega) xs ys u v w hx hy (by simpa using hu) (by simpa using hv)
        simpa using this
    · cases h
theorem run_eqFields_cks : ∀ (d off : Nat) (fs : List Field) (ks : List CK) (n : Nat), tCksF P d off fs = some ks → d ≤ n → ∀ (xs ys : Array Value) (u v : List V) (w : World),
    RelL M β u xs.toList → RelL M β v ys.toList → fitsAll ks (u.drop off) = true → fitsAll ks (v.drop off) = true → (Op.eqFields n xs ys fs).run P w = .ok (sameAll (u.drop off) (v.drop off)) w
  | 0, _, _, _, _, h, _, _, _, _, _, _, _, _, _, _ => by simp [tCksF] at h
  | d + 1, off, [], ks, n, h, _, xs, ys, u, v, w, hx, hy, hu, hv => by
    simp only [tCksF, Option.some.injEq] at h; subst h
    have h1 := fitsAll_length hu
    have h2 := fitsAll_length hv
    rw [List.length_eq_zero_iff.1 h1, List.length_eq_zero_iff.1 h2]
    simp [Op.eqFields, sameAll]
  | d + 1, off, f :: fs, ks, n, h, hn, xs, ys, u, v, w, hx, hy, hu, hv => by
    unfold tCksF at h
    split at h
    · rename_i hf
      obtain ⟨hname, hoff⟩ := hf
      simp only [Option.bind_eq_some_iff] at h
      obtain ⟨a, ha, h⟩ := h
      split at h
      · rename_i hal
        simp only [Option.map_eq_some_iff] at h
        obtain ⟨b, hb, rfl⟩ := h
        obtain ⟨hu1, hu2⟩ := fitsAll_append hu
        obtain ⟨hv1, hv2⟩ := fitsAll_append hv
        obtain ⟨g, hg⟩ := tAgg_some ha
        have h1 : g = false → P.cellsOf f.type = 1 := fun e => by rw [← hal]; exact agg_one ha (by rw [hg, e])
        rw [hal] at hu1 hv1
        have hlu := fitsAll_length hu1
        have hlv := fitsAll_length hv1
        obtain ⟨c, hc, hcr⟩ := run_part_rel (P := P) hg hx (off := off) rfl (by rw [hlu, hal]) h1 w
        obtain ⟨c', hc', hcr'⟩ := run_part_rel (P := P) hg hy (off := off) rfl (by rw [hlv, hal]) h1 w
        have hq := run_equal_cks d f.type a g n ha hg (by omega) _ _ c c' w hu1 hv1 hcr hcr'
        have hrest := run_eqFields_cks d (off + a.length) fs b n hb (by omega) xs ys u v w hx hy (by rw [← List.drop_drop]; exact hu2) (by rw [← List.drop_drop]; exact hv2)
        have split1 : u.drop off = (u.drop off).take (P.cellsOf f.type) ++ u.drop (off + a.length) := by
          rw [hal, ← List.drop_drop, List.take_append_drop]
        have split2 : v.drop off = (v.drop off).take (P.cellsOf f.type) ++ v.drop (off + a.length) := by
          rw [hal, ← List.drop_drop, List.take_append_drop]
        rw [split1, split2, sameAll_append (by rw [hlu, hlv])]
        simp only [Op.eqFields, hname, ne_eq, not_false_eq_true, if_true, hoff, Sem.run_bind, hc, hc', hq, Result.andThen_ok, Sem.run_ite, Sem.run_pure]
        cases sameAll ((u.drop off).take (P.cellsOf f.type)) ((v.drop off).take (P.cellsOf f.type)) with
        | false => simp
        | true => simpa using hrest
      · cases h
    · cases h
end

mutual
theorem run_checkKey_cks : ∀ (d : Nat) (t : TypeId) (ks : List CK) (g : Bool) (n : Nat) (em : Bool), tCks P d t = some ks → tAgg P t = some g → d ≤ n → ∀ (u : List V) (c : Value) (w : World),
    fitsAll ks u = true → CellsOf M β g u c → (Instr.checkKey em n t c).run P w = .ok () w
  | 0, _, _, _, _, _, h, _, _, _, _, _, _, _ => by simp [tCks] at h
  | d + 1, t, ks, g, 0, _, h, hg, hn, _, _, _, _, _ => by omega
  | d + 1, t, ks, g, n + 1, em, h, hg, hn, u, c, w, hu, hc => by
    unfold tCks at h
    have hg' := hg
    unfold tAgg at hg
    split at h
    · rename_i hd
      simp [hd] at hg; subst hg; cases h
      simp [Instr.checkKey, run_underlying hd]
    · rename_i k hd
      simp [hd] at hg; subst hg; cases h
      simp [Instr.checkKey, run_underlying hd]
    · rename_i hd
      simp [hd] at hg; subst hg; cases h
      simp [Instr.checkKey, run_underlying hd]
    · rename_i fs hd
      simp [hd] at hg; subst hg
      split at h
      · cases h
      · rename_i hst
        obtain ⟨xs, rfl, hx⟩ := hc
        simp only [Instr.checkKey, Sem.run_bind, run_underlying hd, Result.andThen_ok]
        rw [← Array.forIn_toList]
        have := run_checkFields_cks d 0 fs.toList ks n em h (by omega) xs u w hx (by simpa using hu)
        simp only [this, Result.andThen_ok, Sem.run_pure]
    · cases h
theorem run_checkFields_cks : ∀ (d off : Nat) (fs : List Field) (ks : List CK) (n : Nat) (em : Bool), tCksF P d off fs = some ks → d ≤ n → ∀ (xs : Array Value) (u : List V) (w : World),
    RelL M β u xs.toList → fitsAll ks (u.drop off) = true →
    (forIn (m := Sem) fs PUnit.unit fun f _ => (do
        if f.name ≠ "_" then do
          Instr.checkKey em n f.type (← part f.type xs f.offset)
          pure (ForInStep.yield PUnit.unit)
        else pure (ForInStep.yield PUnit.unit) : Sem (ForInStep PUnit))).run P w = .ok () w
  | 0, _, _, _, _, _, h, _, _, _, _, _, _ => by simp [tCksF] at h
  | d + 1, off, [], ks, n, em, h, _, xs, u, w, hx, hu => by simp
  | d + 1, off, f :: fs, ks, n, em, h, hn, xs, u, w, hx, hu => by
    unfold tCksF at h
    split at h
    · rename_i hf
      obtain ⟨hname, hoff⟩ := hf
      simp only [Option.bind_eq_some_iff] at h
      obtain ⟨a, ha, h⟩ := h
      split at h
      · rename_i hal
        simp only [Option.map_eq_some_iff] at h
        obtain ⟨b, hb, rfl⟩ := h
        obtain ⟨hu1, hu2⟩ := fitsAll_append hu
        obtain ⟨g, hg⟩ := tAgg_some ha
        have h1 : g = false → P.cellsOf f.type = 1 := fun e => by rw [← hal]; exact agg_one ha (by rw [hg, e])
        rw [hal] at hu1
        have hlu := fitsAll_length hu1
        obtain ⟨c, hc, hcr⟩ := run_part_rel (P := P) hg hx (off := off) rfl (by rw [hlu, hal]) h1 w
        have hq := run_checkKey_cks d f.type a g n em ha hg (by omega) _ c w hu1 hcr
        have hrest := run_checkFields_cks d (off + a.length) fs b n em hb (by omega) xs u w hx (by rw [← List.drop_drop]; exact hu2)
        simp only [List.forIn_cons, Sem.run_bind, hname, ne_eq, not_false_eq_true, if_true, hoff, Result.andThen_ok, hc, hq, Sem.run_pure]
        exact hrest
      · cases h
    · cases h
end
end
end Go.Abs
