/-
  ABS, part 11: conversions, addresses, parts, lengths, loads: followed.
-/
import Derived.Test.YtfmdgjnjfmgbmaaGreatDoorAbs10
namespace Go.Abs
open Go Go.RowKit
set_option linter.unusedSectionVars false
variable [Syms]

section
variable {P : Program} {M : Mem} {β : Places} {w0 w : World} {hp : Heap} {id N : Nat} {e : Env} {a : Act} {gl : Nat → Option (List V)} {g : View} {o : Oper} {i : I} {eff : Eff}

theorem f_nilCheck (G : Globs gl M) (E : EnvRel M β N e a) (S : Sim M β hp.get w0 w) {x : Operand} (ho : o.op = .nilCheck x) (hc : cOp P gl (.nilCheck x) = some i) (hev : evI g id e i = some eff) :
    Follows P M β w0 w (execOp a.eval o) hp id eff := by
  simp only [cOp, Option.map_eq_some_iff] at hc
  obtain ⟨x', hx, rfl⟩ := hc
  have hr := cX_rel G E hx
  simp only [evI] at hev
  split at hev
  · rename_i b off hv
    cases hev; rw [hv] at hr
    have hr' := hr
    simp only [Rel] at hr'
    obtain ⟨j, hj, he⟩ := hr'
    exact Follows.same S (c := a.eval x) (by simp [execOp, ho, he]) hr
  · rename_i b off hv
    cases hev; rw [hv] at hr
    have hr' := hr
    simp only [Rel] at hr'
    obtain ⟨B, O, hj, he⟩ := hr'
    exact Follows.same S (c := a.eval x) (by simp [execOp, ho, he]) hr
  · rename_i b off f hv
    cases hev; rw [hv] at hr
    have hr' := hr
    simp only [Rel] at hr'
    obtain ⟨f', p, q, hf', he, hj⟩ := hr'
    simp only [FnRel] at hf'
    subst hf'
    exact Follows.same S (c := a.eval x) (by simp [execOp, ho, he]) hr
  · rename_i b off hv
    cases hev; rw [hv] at hr
    have hr' := hr
    simp only [Rel] at hr'
    obtain ⟨d, he, hj⟩ := hr'
    exact Follows.same S (c := a.eval x) (by simp [execOp, ho, he]) hr
  · cases hev

theorem symConv_ok {k : IntKind} {x : Sx} {v : V} {n : Int} (h : symConv k x = some v) (hm : x.Means n) : k.wrap n = n ∧ Rel M β v (.int k n) := by
  unfold symConv at h
  split at h
  · split at h
    · rename_i hz
      cases h
      have hm' := hm
      obtain ⟨h1, h2, h3, _⟩ := hm'
      exact ⟨wrap_lim (by omega) (by omega), by simp only [Rel]; exact ⟨n, rfl, hm⟩⟩
    · cases h
  · split at h
    · cases h
      have hm' := hm
      obtain ⟨h1, h2, _⟩ := hm'
      exact ⟨wrap_lim (by omega) (by omega), by simp only [Rel]; exact ⟨n, rfl, hm⟩⟩
    · cases h
  · split at h
    · rename_i hz
      cases h
      have hm' := hm
      obtain ⟨h1, h2⟩ := hm'
      exact ⟨wrap_lim (by omega) (by omega), by simp only [Rel]; exact ⟨n, rfl, hm⟩⟩
    · cases h

theorem f_convI (G : Globs gl M) (E : EnvRel M β N e a) (S : Sim M β hp.get w0 w) {src dst : TypeId} {x : Operand} (ho : o.op = .convert src dst x) {k k' : IntKind} (hs : P.underlying src = some (.int k')) (hd : P.underlying dst = some (.int k)) {x' : X}
    (hx : cX gl x = some x') (hev : evI g id e (.convI k x') = some eff) : Follows P M β w0 w (execOp a.eval o) hp id eff := by
  have hr := cX_rel G E hx
  simp only [evI] at hev
  split at hev
  · rename_i k2 n hv
    cases hev; rw [hv] at hr; simp only [Rel] at hr
    exact Follows.same S (c := .int k (k.wrap n)) (by simp [execOp, ho, hr, convert, run_underlying hs, run_underlying hd, Conv.intToInt]) (by simp only [Rel])
  · rename_i sx hv
    simp only [Option.map_eq_some_iff] at hev
    obtain ⟨v, hsv, rfl⟩ := hev
    rw [hv] at hr; simp only [Rel] at hr
    obtain ⟨n, hn, hm⟩ := hr
    obtain ⟨h1, h2⟩ := symConv_ok (M := M) (β := β) hsv hm
    refine Follows.same S (c := .int k (k.wrap n)) (by simp [execOp, ho, hn, convert, run_underlying hs, run_underlying hd, Conv.intToInt]) (by rw [h1]; exact h2)
  · cases hev

theorem f_runeS (G : Globs gl M) (E : EnvRel M β N e a) (S : Sim M β hp.get w0 w) {src dst : TypeId} {x : Operand} (ho : o.op = .convert src dst x) {k' : IntKind} (hs : P.underlying src = some (.int k')) (hd : P.underlying dst = some .string) {x' : X}
    (hx : cX gl x = some x') (hev : evI g id e (.runeS x') = some eff) : Follows P M β w0 w (execOp a.eval o) hp id eff := by
  have hr := cX_rel G E hx
  simp only [evI] at hev
  split at hev
  · rename_i k2 n hv
    split at hev
    · rename_i hn
      cases hev; rw [hv] at hr; simp only [Rel] at hr
      refine Follows.same S (c := .string (Utf8.encode n)) (by simp [execOp, ho, hr, convert, run_underlying hs, run_underlying hd, Conv.intToString]) ?_
      simp only [Rel]
      refine ⟨_, rfl, ?_⟩
      have h1 : Utf8.valid n = true := by simp [Utf8.valid]; omega
      have h2 : n.toNat < 128 := by omega
      simp only [Utf8.encode, h1, if_true, h2, bytesOf]
      simp
      omega
    · cases hev
  · rename_i sx hv
    split at hev
    · rename_i hb
      cases hev
      rw [hv] at hr; simp only [Rel] at hr
      obtain ⟨n, hn, hm⟩ := hr
      have hbn := hm.bnd
      refine Follows.same S (c := .string (Utf8.encode n)) (by simp [execOp, ho, hn, convert, run_underlying hs, run_underlying hd, Conv.intToString]) ?_
      simp only [Rel]
      refine ⟨_, rfl, ?_⟩
      have h1 : Utf8.valid n = true := by simp [Utf8.valid]; omega
      have h2 : n.toNat < 128 := by omega
      simp only [Utf8.encode, h1, if_true, h2, bytesOf]
      refine ⟨n.toNat, [], ?_, .inr ⟨rfl, by omega, by omega⟩, rfl⟩
      simp
      omega
    · cases hev
  · cases hev

theorem f_convId (G : Globs gl M) (E : EnvRel M β N e a) (S : Sim M β hp.get w0 w) {src dst : TypeId} {x : Operand} (ho : o.op = .convert src dst x) (hs : P.underlying src = some .string) (hd : P.underlying dst = some .string) {x' : X}
    (hx : cX gl x = some x') (hev : evI g id e (.convId x') = some eff) : Follows P M β w0 w (execOp a.eval o) hp id eff := by
  have hr := cX_rel G E hx
  simp only [evI] at hev
  split at hev
  · rename_i s hv
    cases hev; rw [hv] at hr
    have hr' := hr
    simp only [Rel] at hr'
    obtain ⟨s', he, hb⟩ := hr'
    exact Follows.same S (c := a.eval x) (by simp [execOp, ho, he, convert, run_underlying hs, run_underlying hd]) hr
  · cases hev

theorem f_iface (G : Globs gl M) (E : EnvRel M β N e a) (S : Sim M β hp.get w0 w) {t : TypeId} {x : Operand} (ho : o.op = .makeInterface t x) (hc : cOp P gl (.makeInterface t x) = some i) (hev : evI g id e i = some eff) :
    Follows P M β w0 w (execOp a.eval o) hp id eff := by
  simp only [cOp] at hc
  split at hc
  · cases hc
  · cases hc
  · rename_i d hd1 hd2
    simp only [Option.map_eq_some_iff] at hc
    obtain ⟨x', hx, rfl⟩ := hc
    simp only [evI, Option.some.injEq] at hev
    subst hev
    refine Follows.same S (c := .iface t (a.eval x)) ?_ (by simp only [Rel]; exact ⟨_, rfl, cX_rel G E hx⟩)
    cases hu : P.underlying t with
    | none => exact absurd hu hd2
    | some d => cases d <;> first | (exact absurd hu (hd1 _)) | simp [execOp, ho, Instr.makeInterface, run_underlying hu]

theorem f_func (G : Globs gl M) (E : EnvRel M β N e a) (S : Sim M β hp.get w0 w) {fn : Fn} {x y : Array Operand} (ho : o.op = .makeFunc fn x y) (hc : cOp P gl (.makeFunc fn x y) = some i) (hev : evI g id e i = some eff) :
    Follows P M β w0 w (execOp a.eval o) hp id eff := by
  simp only [cOp] at hc
  split at hc
  case isFalse => cases hc
  rename_i hny
  simp only [Option.bind_eq_some_iff, Option.map_eq_some_iff] at hc
  obtain ⟨x', hx, y', hy, rfl⟩ := hc
  simp only [evI, Option.some.injEq] at hev
  subst hev
  refine Follows.same S (c := .func fn (x.map a.eval) (y.map a.eval)) ?_ ?_
  · simp [execOp, ho, Instr.makeFunc]
  · simp only [Rel]
    exact ⟨_, _, _, FnRel.self β hny, rfl, by simpa using cXs_rel G E hx, by simpa using cXs_rel G E hy⟩

theorem f_fieldAddr (G : Globs gl M) (E : EnvRel M β N e a) (S : Sim M β hp.get w0 w) {t : TypeId} {x : Operand} {f : Nat} (ho : o.op = .fieldAddr t x f) (hc : cOp P gl (.fieldAddr t x f) = some i) (hev : evI g id e i = some eff) :
    Follows P M β w0 w (execOp a.eval o) hp id eff := by
  simp only [cOp] at hc
  split at hc
  · rename_i fs hd
    simp only [Option.bind_eq_some_iff] at hc
    obtain ⟨fd, hf, n, hn, hc⟩ := hc
    split at hc
    · cases hc
    · rename_i hn0
      simp only [Option.map_eq_some_iff] at hc
      obtain ⟨x', hx, rfl⟩ := hc
      have hr := cX_rel G E hx
      have key : ∀ (B O : Nat), a.eval x = .pointer (some ⟨B, O, none⟩) → (execOp a.eval o).run P w = .ok (.value (.pointer (some ⟨B, O + fd.offset, none⟩))) w := fun B O he => by
        simp [execOp, ho, he, Instr.fieldAt, run_underlying hd, hf, Instr.sureAddr, fieldPlace, tSize_run hn, hn0, add_none]
      simp only [evI] at hev
      split at hev
      · rename_i b off hv
        cases hev; rw [hv] at hr; simp only [Rel] at hr
        obtain ⟨j, hj, he⟩ := hr
        exact Follows.same S (key _ _ he) (by simp only [Rel]; exact ⟨j, hj, by rw [Nat.add_assoc]⟩)
      · rename_i b off hv
        cases hev; rw [hv] at hr; simp only [Rel] at hr
        obtain ⟨B, O, hj, he⟩ := hr
        exact Follows.same S (key _ _ he) (by simp only [Rel]; exact ⟨B, O, hj, by rw [Nat.add_assoc]⟩)
      · cases hev
  · cases hc

theorem f_indexAddr (G : Globs gl M) (E : EnvRel M β N e a) (S : Sim M β hp.get w0 w) {t : TypeId} {x y : Operand} (ho : o.op = .indexAddr t x y) (hc : cOp P gl (.indexAddr t x y) = some i) (hev : evI g id e i = some eff) :
    Follows P M β w0 w (execOp a.eval o) hp id eff := by
  simp only [cOp, Option.bind_eq_some_iff] at hc
  obtain ⟨x', hx, y', hy, hc⟩ := hc
  have hr := cX_rel G E hx
  have hq := cX_rel G E hy
  split at hc
  · rename_i el hd
    simp only [Option.map_eq_some_iff] at hc
    obtain ⟨n, hn, rfl⟩ := hc
    have key : ∀ (A : Addr) (len cap : Nat) (k : IntKind) (m : Int), a.eval x = .slice (some A) len cap → a.eval y = .int k m → 0 ≤ m ∧ m < len → (execOp a.eval o).run P w = .ok (.value (.pointer (some (A.add (m.toNat * n))))) w := fun A len cap k m he hy hm => by
      simp [execOp, ho, he, hy, Instr.indexAt, asIntOf, run_underlying hd, hm, tSize_run hn]
    simp only [evI] at hev
    split at hev
    · rename_i b off len cap k m hv1 hv2
      rw [hv1] at hr; rw [hv2] at hq; simp only [Rel] at hr hq
      obtain ⟨j, c, hj, hle, _, _, _, A, he, hA⟩ := hr
      split at hev
      · rename_i hm
        cases hev
        have := hA (by omega)
        subst this
        exact Follows.same S (key _ _ _ _ _ he hq hm) (by simp only [Rel, add_none]; exact ⟨j, hj, by rw [Nat.add_assoc]⟩)
      · cases hev
    · rename_i row off len cap k m hv1 hv2
      rw [hv1] at hr; rw [hv2] at hq; simp only [Rel] at hr hq
      obtain ⟨B, O, c, hj, hle, _, A, he, hA⟩ := hr
      split at hev
      · rename_i hm
        cases hev
        have := hA (by omega)
        subst this
        exact Follows.same S (key _ _ _ _ _ he hq hm) (by simp only [Rel, add_none]; exact ⟨B, O, hj, by rw [Nat.add_assoc]⟩)
      · cases hev
    · cases hev
  · rename_i len el hd
    simp only [Option.map_eq_some_iff] at hc
    obtain ⟨n, hn, rfl⟩ := hc
    have key : ∀ (A : Addr) (k : IntKind) (m : Int), a.eval x = .pointer (some A) → a.eval y = .int k m → 0 ≤ m ∧ m < len → (execOp a.eval o).run P w = .ok (.value (.pointer (some (A.add (m.toNat * n))))) w := fun A k m he hy hm => by
      simp [execOp, ho, he, hy, Instr.indexAt, Instr.sureAddr, asIntOf, run_underlying hd, hm, tSize_run hn]
    simp only [evI] at hev
    split at hev
    · rename_i b off k m hv1 hv2
      rw [hv1] at hr; rw [hv2] at hq; simp only [Rel] at hr hq
      obtain ⟨j, hj, he⟩ := hr
      split at hev
      · rename_i hm
        cases hev
        exact Follows.same S (key _ _ _ he hq hm) (by simp only [Rel, add_none]; exact ⟨j, hj, by rw [Nat.add_assoc]⟩)
      · cases hev
    · rename_i row off k m hv1 hv2
      rw [hv1] at hr; rw [hv2] at hq; simp only [Rel] at hr hq
      obtain ⟨B, O, hj, he⟩ := hr
      split at hev
      · rename_i hm
        cases hev
        exact Follows.same S (key _ _ _ he hq hm) (by simp only [Rel, add_none]; exact ⟨B, O, hj, by rw [Nat.add_assoc]⟩)
      · cases hev
    · cases hev
  · cases hc

theorem f_extract (G : Globs gl M) (E : EnvRel M β N e a) (S : Sim M β hp.get w0 w) {x : Operand} {n : Nat} (ho : o.op = .extract x n) (hc : cOp P gl (.extract x n) = some i) (hev : evI g id e i = some eff) :
    Follows P M β w0 w (execOp a.eval o) hp id eff := by
  simp only [cOp, Option.map_eq_some_iff] at hc
  obtain ⟨x', hx, rfl⟩ := hc
  have hr := cX_rel G E hx
  simp only [evI] at hev
  split at hev
  · rename_i vs hv
    simp only [Option.map_eq_some_iff] at hev
    obtain ⟨v, hvn, rfl⟩ := hev
    rw [hv] at hr; simp only [Rel] at hr
    obtain ⟨arr, he, hl⟩ := hr
    obtain ⟨c, hc, hcr⟩ := hl.get hvn
    exact Follows.same S (c := c) (by simp [execOp, ho, he, Instr.extract, ← Array.getElem?_toList, hc]) hcr
  · cases hev

/-- Part of a row, as the type reads. -/
theorem run_part_cells {t : TypeId} {gg : Bool} {n : Nat} (hg : tAgg P t = some gg) (hn : tSize P t = some n) {xs : Array Value} {u cs : List V} {v : V} (hu : RelL M β u xs.toList) {off : Nat}
    (hcs : cellsAt u off (if gg then n else 1) = some cs) (hv : ofCells gg cs = some v) (w : World) : ∃ c, (part t xs off).run P w = .ok c w ∧ Rel M β v c := by
  obtain ⟨hle, hlen, hget⟩ := cellsAt_some hcs
  have hcs' : cs = (u.drop off).take (if gg then n else 1) := by
    unfold cellsAt at hcs
    rw [if_pos hle] at hcs
    exact (Option.some.inj hcs).symm
  have key : RelL M β cs ((xs.toList.drop off).take (if gg then n else 1)) := by rw [hcs']; exact (hu.drop off).take _
  obtain ⟨h1, h2⟩ := ofCells_rel hv key
  cases gg with
  | true =>
    refine ⟨_, ?_, h1 rfl⟩
    simp only [part, Sem.run_bind, tAgg_run hg, tSize_run hn, Result.andThen_ok, if_true, Sem.run_pure]
    congr 2
    apply Array.ext'
    simp [Array.toList_extract, List.extract]
  | false =>
    obtain ⟨c, hc, hcr⟩ := h2 rfl
    refine ⟨c, ?_, hcr⟩
    have hx : xs[off]? = some c := by
      have : ((xs.toList.drop off).take 1)[0]? = some c := by
        have hc' : (xs.toList.drop off).take 1 = [c] := by simpa using hc
        rw [hc']; rfl
      rw [List.getElem?_take, if_pos (by omega), List.getElem?_drop] at this
      simpa using this
    simp [part, tAgg_run hg, hx]

theorem f_field (G : Globs gl M) (E : EnvRel M β N e a) (S : Sim M β hp.get w0 w) {t : TypeId} {x : Operand} {f : Nat} (ho : o.op = .field t x f) (hc : cOp P gl (.field t x f) = some i) (hev : evI g id e i = some eff) :
    Follows P M β w0 w (execOp a.eval o) hp id eff := by
  simp only [cOp] at hc
  split at hc
  · rename_i fs hd
    simp only [Option.bind_eq_some_iff, Option.map_eq_some_iff] at hc
    obtain ⟨fd, hf, gg, hg, n, hn, x', hx, rfl⟩ := hc
    have hr := cX_rel G E hx
    simp only [evI] at hev
    split at hev
    · rename_i cs hv
      simp only [Option.bind_eq_some_iff, Option.map_eq_some_iff] at hev
      obtain ⟨cs', hcs, v, hv', rfl⟩ := hev
      rw [hv] at hr; simp only [Rel] at hr
      obtain ⟨arr, he, hl⟩ := hr
      obtain ⟨c, h1, h2⟩ := run_part_cells (P := P) hg hn hl hcs hv' w
      exact Follows.same S (c := c) (by simp [execOp, ho, he, Instr.field, run_underlying hd, hf, asAgg, h1]) h2
    · cases hev
  · cases hc

theorem ba_get? (bs : ByteArray) (k : Nat) : bs[k]? = bs.data.toList[k]? := by
  by_cases h : k < bs.size
  · rw [getElem?_pos bs k h]
    have h' : k < bs.data.toList.length := by simpa using h
    rw [getElem?_pos bs.data.toList k h']
    simp
    rfl
  · rw [getElem?_neg bs k h]
    have h' : ¬ k < bs.data.toList.length := by simpa using h
    rw [getElem?_neg bs.data.toList k h']

theorem f_index (G : Globs gl M) (E : EnvRel M β N e a) (S : Sim M β hp.get w0 w) {t : TypeId} {x y : Operand} (ho : o.op = .index t x y) (hc : cOp P gl (.index t x y) = some i) (hev : evI g id e i = some eff) :
    Follows P M β w0 w (execOp a.eval o) hp id eff := by
  simp only [cOp, Option.bind_eq_some_iff] at hc
  obtain ⟨x', hx, y', hy, hc⟩ := hc
  have hr := cX_rel G E hx
  have hq := cX_rel G E hy
  split at hc
  · rename_i hd
    cases hc
    simp only [evI] at hev
    split at hev
    · rename_i s k m hv1 hv2
      rw [hv1] at hr; rw [hv2] at hq; simp only [Rel] at hr hq
      obtain ⟨bs, he, hb⟩ := hr
      split at hev
      · rename_i hm
        simp only [Option.map_eq_some_iff] at hev
        obtain ⟨b, hb', rfl⟩ := hev
        subst hb
        simp only [bytesOf, List.getElem?_map, Option.map_eq_some_iff] at hb'
        obtain ⟨u, hu, rfl⟩ := hb'
        have hu' : bs[m.toNat]? = some u := by rw [ba_get?]; exact hu
        exact Follows.same S (c := .int .u8 u.toNat) (by simp [execOp, ho, he, hq, Instr.index, asIntOf, run_underlying hd, hm, hu']) (by simp only [Rel])
      · cases hev
    · cases hev
  · rename_i len el hd
    simp only [Option.bind_eq_some_iff] at hc
    obtain ⟨gg, hg, n, hn, hc⟩ := hc
    split at hc
    · rename_i hgn
      cases hc
      simp only [evI] at hev
      split at hev
      · rename_i cs k m hv1 hv2
        rw [hv1] at hr; rw [hv2] at hq; simp only [Rel] at hr hq
        obtain ⟨arr, he, hl⟩ := hr
        split at hev
        · rename_i hm
          simp only [Option.bind_eq_some_iff, Option.map_eq_some_iff] at hev
          obtain ⟨cs', hcs, v, hv', rfl⟩ := hev
          have hcs2 : cellsAt cs (m.toNat * n) (if gg then n else 1) = some cs' := by
            cases gg with
            | true => exact hcs
            | false => simp at hgn; subst hgn; exact hcs
          obtain ⟨c, h1, h2⟩ := run_part_cells (P := P) hg hn hl hcs2 hv' w
          exact Follows.same S (c := c) (by simp [execOp, ho, he, hq, Instr.index, asIntOf, run_underlying hd, hm, tSize_run hn, h1]) h2
        · cases hev
      · cases hev
    · cases hc
  · cases hc

theorem f_load (G : Globs gl M) (E : EnvRel M β N e a) (S : Sim M β hp.get w0 w) (hg : ∀ b o, g b = some o → hp.get b = some o) {t : TypeId} {x : Operand} (ho : o.op = .load t x) (hc : cOp P gl (.load t x) = some i) (hev : evI g id e i = some eff) :
    Follows P M β w0 w (execOp a.eval o) hp id eff := by
  simp only [cOp, Option.bind_eq_some_iff, Option.map_eq_some_iff] at hc
  obtain ⟨gg, hgg, n, hn, x', hx, rfl⟩ := hc
  have hr := cX_rel G E hx
  simp only [evI, Option.bind_eq_some_iff, Option.map_eq_some_iff] at hev
  obtain ⟨cs, hcs, v, hv, rfl⟩ := hev
  obtain ⟨B, O, l, he, hl, hlen, _, hcell⟩ := S.readAt hg hr hcs
  obtain ⟨h1, h2⟩ := ofCells_rel hv hl
  have hload := run_loadCells_at (P := P) hcell
  cases gg with
  | true =>
    have hln : l.length = n := by rw [hl.length, hlen]; rfl
    rw [hln] at hload
    exact Follows.same S (c := .agg l.toArray) (by simp [execOp, ho, he, Instr.loadAt, Instr.sureAddr, loadVar, tAgg_run hgg, tSize_run hn, hload]) (h1 rfl)
  | false =>
    obtain ⟨c, rfl, hcr⟩ := h2 rfl
    have hc0 : w.cell? ⟨B, O, none⟩ = some c := by simpa using hcell 0 c rfl
    exact Follows.same S (c := c) (by simp [execOp, ho, he, Instr.loadAt, Instr.sureAddr, loadVar, tAgg_run hgg, hc0]) hcr

theorem f_assertC (G : Globs gl M) (E : EnvRel M β N e a) (S : Sim M β hp.get w0 w) {x : Operand} {t u : TypeId} {ok : Bool} (ho : o.op = .typeAssert x u t ok) (hc : cOp P gl (.typeAssert x u t ok) = some i) (hev : evI g id e i = some eff) :
    Follows P M β w0 w (execOp a.eval o) hp id eff := by
  simp only [cOp] at hc
  split at hc
  · cases hc
  · cases hc
  · rename_i d hd1 hd2
    simp only [Option.bind_eq_some_iff, Option.map_eq_some_iff] at hc
    obtain ⟨z, hz, x', hx, rfl⟩ := hc
    obtain ⟨zc, hzr, hzrel⟩ := tZero_run hz
    have hr := cX_rel G E hx
    have htup : ∀ (v : V) (c : Value) (b : Bool), Rel M β v c → Rel M β (.tuple [v, .bool b]) (.tuple #[c, .bool b]) := fun v c b h => by
      simp only [Rel, RelL]; exact ⟨_, rfl, c, [.bool b], rfl, h, _, [], rfl, rfl, rfl⟩
    cases hu : P.underlying t with
    | none => exact absurd hu hd2
    | some dd =>
      have hni : ∀ ms, dd ≠ .interface ms := fun ms hm => hd1 ms (by rw [hu, hm])
      simp only [evI] at hev
      split at hev
      · rename_i hv
        rw [hv] at hr; simp only [Rel] at hr
        split at hev
        · rename_i hok
          cases hev
          subst hok
          refine Follows.same S (c := .tuple #[zc, .bool false]) ?_ (htup _ _ _ (hzrel _ _))
          cases dd <;> first | (exact absurd rfl (hni _)) | simp [execOp, ho, hr, Instr.typeAssert, run_underlying hu, hzr]
        · cases hev
      · rename_i u' v hv
        rw [hv] at hr; simp only [Rel] at hr
        obtain ⟨c, he, hcr⟩ := hr
        split at hev
        · rename_i hut
          subst hut
          cases hev
          cases ok with
          | true =>
            refine Follows.same S (c := .tuple #[c, .bool true]) ?_ (htup _ _ _ hcr)
            cases dd <;> first | (exact absurd rfl (hni _)) | simp [execOp, ho, he, Instr.typeAssert, run_underlying hu]
          | false =>
            refine Follows.same S (c := c) ?_ hcr
            cases dd <;> first | (exact absurd rfl (hni _)) | simp [execOp, ho, he, Instr.typeAssert, run_underlying hu]
        · rename_i hut
          split at hev
          · rename_i hok
            cases hev
            subst hok
            refine Follows.same S (c := .tuple #[zc, .bool false]) ?_ (htup _ _ _ (hzrel _ _))
            cases dd <;> first | (exact absurd rfl (hni _)) | simp [execOp, ho, he, Instr.typeAssert, run_underlying hu, hzr, hut]
          · cases hev
      · cases hev

end
end Go.Abs
