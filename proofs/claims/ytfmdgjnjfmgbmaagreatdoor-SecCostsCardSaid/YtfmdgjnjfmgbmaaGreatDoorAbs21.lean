/-
  ABS, part 21: every operation that is compiled is followed.
-/
import Derived.Test.YtfmdgjnjfmgbmaaGreatDoorAbs20
namespace Go.Abs
open Go Go.RowKit
set_option linter.unusedSectionVars false
variable [Syms]

section
variable {P : Program} {M : Mem} {β : Places} {w0 w : World} {hp : Heap} {id N : Nat} {e : Env} {a : Act} {gl : Nat → Option (List V)} {g : View} {o : Oper} {i : I} {eff : Eff}

theorem f_binop (G : Globs gl M) (E : EnvRel M β N e a) (S : Sim M β hp.get w0 w) {op : BinOp} {t u : TypeId} {x y : Operand} (ho : o.op = .binOp op t x y u) (hc : cOp P gl (.binOp op t x y u) = some i) (hev : evI g id e i = some eff) :
    Follows P M β w0 w (execOp a.eval o) hp id eff := by
  simp only [cOp, Option.bind_eq_some_iff] at hc
  obtain ⟨x', hx, y', hy, hc⟩ := hc
  split at hc
  · split at hc
    · cases hc; exact f_bin G E S ho hx hy hev
    · cases hc; exact f_bin G E S ho hx hy hev
    · simp only [Option.map_eq_some_iff] at hc
      obtain ⟨k, hk, rfl⟩ := hc
      exact f_eq G E S (neg := false) ho hx hy hk hev
  · split at hc
    · cases hc; exact f_bin G E S ho hx hy hev
    · cases hc; exact f_bin G E S ho hx hy hev
    · simp only [Option.map_eq_some_iff] at hc
      obtain ⟨k, hk, rfl⟩ := hc
      exact f_eq G E S (neg := true) ho hx hy hk hev
  · cases hc; exact f_bin G E S ho hx hy hev

theorem f_convert (G : Globs gl M) (E : EnvRel M β N e a) (S : Sim M β hp.get w0 w) {src dst : TypeId} {x : Operand} (ho : o.op = .convert src dst x) (hc : cOp P gl (.convert src dst x) = some i) (hev : evI g id e i = some eff) :
    Follows P M β w0 w (execOp a.eval o) hp id eff := by
  simp only [cOp, Option.bind_eq_some_iff] at hc
  obtain ⟨x', hx, hc⟩ := hc
  split at hc
  · rename_i hs hd; cases hc; exact f_convI G E S ho hs hd hx hev
  · rename_i hs hd; cases hc; exact f_convId G E S ho hs hd hx hev
  · rename_i hs hd; cases hc; exact f_runeS G E S ho hs hd hx hev
  · cases hc

theorem f_slice (G : Globs gl M) (E : EnvRel M β N e a) (S : Sim M β hp.get w0 w) (hg : ∀ b o, g b = some o → hp.get b = some o) {t : TypeId} {x : Operand} {lo hi mx : Option Operand} (ho : o.op = .slice t x lo hi mx) (hc : cOp P gl (.slice t x lo hi mx) = some i) (hev : evI g id e i = some eff) :
    Follows P M β w0 w (execOp a.eval o) hp id eff := by
  simp only [cOp, Option.bind_eq_some_iff] at hc
  obtain ⟨x', hx, lo', hlo, hi', hhi, mx', hmx, hc⟩ := hc
  split at hc
  · rename_i hd
    cases mx' with
    | some _ => cases hc
    | none =>
      have hmn : mx = none := by
        cases mx with
        | none => rfl
        | some m => simp only [cXo, Option.map_eq_some_iff] at hmx; obtain ⟨_, _, h⟩ := hmx; cases h
      subst hmn
      cases hc
      exact f_sliceS G E S ho hd hx hlo hhi hev
  · rename_i el hd
    simp only [Option.bind_eq_some_iff] at hc
    obtain ⟨n, hn, hc⟩ := hc
    have h1 : ∀ {q : Option Operand} {q' : Option X}, cXo gl q = some q' → q'.isSome = q.isSome := fun {q q'} h => by
      cases q with
      | none => simp only [cXo] at h; cases h; rfl
      | some m => simp only [cXo, Option.map_eq_some_iff] at h; obtain ⟨_, _, rfl⟩ := h; rfl
    have h2 : ∀ {q : Option Operand} {q' : Option X}, cXo gl q = some q' → q'.isNone = q.isNone := fun {q q'} h => by
      cases q with
      | none => simp only [cXo] at h; cases h; rfl
      | some m => simp only [cXo, Option.map_eq_some_iff] at h; obtain ⟨_, _, rfl⟩ := h; rfl
    split at hc
    · cases hc
    · rename_i hmh
      cases hc
      exact f_sliceL G E S hg ho hd hn (by rw [← h1 hmx, ← h2 hhi]; exact Bool.eq_false_iff.2 hmh) hx hlo hhi hmx hev
  · cases hc

theorem f_range (G : Globs gl M) (E : EnvRel M β N e a) (S : Sim M β hp.get w0 w) (hg : ∀ b o, g b = some o → hp.get b = some o) (hid : β id = none) {t : TypeId} {x : Operand} (ho : o.op = .range t x) (hc : cOp P gl (.range t x) = some i) (hev : evI g id e i = some eff) :
    Follows P M β w0 w (execOp a.eval o) hp id eff := by
  simp only [cOp, Option.bind_eq_some_iff] at hc
  obtain ⟨x', hx, hc⟩ := hc
  split at hc
  · rename_i hd; cases hc; exact f_rangeS G E S hid ho hd hx hev
  · rename_i kt el hd; cases hc; exact f_rangeM G E S hg hid ho hd hx hev
  · cases hc

theorem cXs_list : ∀ {l : List Operand} {l' : List X}, cXs gl l = some l' → l.length = l'.length ∧ ∀ (n : Nat) (x : Operand), l[n]? = some x → ∃ x', l'[n]? = some x' ∧ cX gl x = some x'
  | [], l', h => by simp only [cXs, List.mapM_nil] at h; cases h; exact ⟨rfl, fun n x h => by simp at h⟩
  | y :: l, l', h => by
    simp only [cXs, List.mapM_cons, Option.pure_def, Option.bind_eq_bind, Option.bind_eq_some_iff, Option.some.injEq] at h
    obtain ⟨y', hy, ys, hys, rfl⟩ := h
    obtain ⟨h1, h2⟩ := cXs_list hys
    refine ⟨by simp [h1], fun n x h => ?_⟩
    cases n with
    | zero => simp at h; subst h; exact ⟨y', rfl, hy⟩
    | succ n => simp at h; exact h2 n x h

theorem cXs_one {l : List Operand} {x' : X} (h : cXs gl l = some [x']) : ∃ x, l = [x] ∧ cX gl x = some x' := by
  obtain ⟨h1, h2⟩ := cXs_list h
  match l, h1 with
  | [x], _ => obtain ⟨x'', h3, h4⟩ := h2 0 x rfl; simp at h3; subst h3; exact ⟨x, rfl, h4⟩

theorem cXs_two {l : List Operand} {x' y' : X} (h : cXs gl l = some [x', y']) : ∃ x y, l = [x, y] ∧ cX gl x = some x' ∧ cX gl y = some y' := by
  obtain ⟨h1, h2⟩ := cXs_list h
  match l, h1 with
  | [x, y], _ =>
    obtain ⟨x'', h3, h4⟩ := h2 0 x rfl; simp at h3; subst h3
    obtain ⟨y'', h5, h6⟩ := h2 1 y rfl; simp at h5; subst h5
    exact ⟨x, y, rfl, h4, h6⟩

theorem f_call (G : Globs gl M) (E : EnvRel M β N e a) (S : Sim M β hp.get w0 w) (hg : ∀ b o, g b = some o → hp.get b = some o) (hid : β id = none) {c : Call} (ho : o.op = .call c) (hc : cOp P gl (.call c) = some i) (hev : evI g id e i = some eff) :
    Follows P M β w0 w (execOp a.eval o) hp id eff := by
  simp only [cOp, Option.bind_eq_some_iff] at hc
  obtain ⟨as, has, hc⟩ := hc
  split at hc
  · simp only [Option.map_eq_some_iff] at hc
    obtain ⟨_, _, rfl⟩ := hc
    simp only [evI] at hev; cases hev
  · cases hc
  · rename_i b hcal
    split at hc
    · rename_i x t hts
      obtain ⟨y, hl, hx⟩ := cXs_one has
      split at hc
      · rename_i hd; cases hc; exact f_lenStr G E S ho hcal hl hts hd hx hev
      · rename_i hd; cases hc; exact f_lenSlice G E S ho hcal hl hts hd hx hev
      · rename_i hd; cases hc; exact f_lenMap G E S hg ho hcal hl hts hd hx hev
      · cases hc
    · rename_i s x t u hts
      obtain ⟨y, z, hl, hx, hy⟩ := cXs_two has
      split at hc
      · rename_i el e' hd hu
        simp only [Option.bind_eq_some_iff] at hc
        obtain ⟨n, hn, b, hb, z, hz, hc⟩ := hc
        split at hc
        · rename_i hzl
          cases hc; exact f_append G E S hg hid ho hcal hl hts hd (.inl ⟨e', hu⟩) hn hb hz hzl hx hy hev
        · cases hc
      · rename_i el hd hu
        simp only [Option.bind_eq_some_iff] at hc
        obtain ⟨n, hn, b, hb, z, hz, hc⟩ := hc
        split at hc
        · rename_i hzl
          cases hc; exact f_append G E S hg hid ho hcal hl hts hd (.inr hu) hn hb hz hzl hx hy hev
        · cases hc
      · cases hc
    · rename_i d s t u hts
      obtain ⟨y, z, hl, hx, hy⟩ := cXs_two has
      split at hc
      · rename_i el hd
        simp only [Option.map_eq_some_iff] at hc
        obtain ⟨n, hn, rfl⟩ := hc
        exact f_copy G E S hg ho hcal hl hts hd hn hx hy hev
      · cases hc
    · rename_i m k t u hts
      obtain ⟨y, z, hl, hx, hy⟩ := cXs_two has
      split at hc
      · rename_i kt el hd
        simp only [Option.map_eq_some_iff] at hc
        obtain ⟨n, hn, rfl⟩ := hc
        exact f_delete G E S hg ho hcal hl hts hd hn hx hy hev
      · cases hc
    · obtain ⟨y, z, hl, hx, hy⟩ := cXs_two has
      cases hc; exact f_minmax G E S (mx := true) ho hcal hl hx hy hev
    · obtain ⟨y, z, hl, hx, hy⟩ := cXs_two has
      cases hc; exact f_minmax G E S (mx := false) ho hcal hl hx hy hev
    · cases hc; simp only [evI] at hev; cases hev
    · cases hc

/-- Every compiled operation is followed. -/
theorem follows_op (G : Globs gl M) (E : EnvRel M β N e a) (S : Sim M β hp.get w0 w) (hg : ∀ b o, g b = some o → hp.get b = some o) (hid : β id = none) (hc : cOp P gl o.op = some i) (hev : evI g id e i = some eff) :
    Follows P M β w0 w (execOp a.eval o) hp id eff := by
  generalize ho : o.op = op at hc
  cases op with
  | move x => exact f_move G E S (.inl ho) hc hev
  | assign x => exact f_move G E S (.inr ho) hc hev
  | pick c x y => exact f_pick G E S ho hc hev
  | alloc t => exact f_alloc S hid ho hc hev
  | box t x => exact f_box G E S hid ho hc hev
  | build t ps => exact f_build G E S ho hc hev
  | buildSlice t l ps => exact f_buildSlice G E S hid ho hc hev
  | insert t m k v => exact f_mapSet G E S hg (.inr ho) hc hev
  | mapUpdate t m k v => exact f_mapSet G E S hg (.inl ho) hc hev
  | load t x => exact f_load G E S hg ho hc hev
  | store t x y => exact f_store G E S hg ho hc hev
  | nilCheck x => exact f_nilCheck G E S ho hc hev
  | binOp op t x y u => exact f_binop G E S ho hc hev
  | unOp op t x => exact f_un G E S ho hc hev
  | convert s d x => exact f_convert G E S ho hc hev
  | makeInterface t x => exact f_iface G E S ho hc hev
  | makeFunc f x y => exact f_func G E S ho hc hev
  | makeMap t x => exact f_mkMap G E S hid ho hc hev
  | makeSlice t x y => exact f_mkSlice G E S hid ho hc hev
  | slice t x lo hi mx => exact f_slice G E S hg ho hc hev
  | fieldAddr t x f => exact f_fieldAddr G E S ho hc hev
  | field t x f => exact f_field G E S ho hc hev
  | indexAddr t x y => exact f_indexAddr G E S ho hc hev
  | index t x y => exact f_index G E S ho hc hev
  | lookup t x y ok => exact f_lookup G E S hg ho hc hev
  | range t x => exact f_range G E S hg hid ho hc hev
  | next x s =>
    simp only [cOp, Option.map_eq_some_iff] at hc
    obtain ⟨x', hx, rfl⟩ := hc
    cases s with
    | true => exact f_nextS G E S hg ho hx hev
    | false => simp only [Bool.false_eq_true, if_false, evI] at hev; cases hev
  | entry x =>
    simp only [cOp, Option.map_eq_some_iff] at hc
    obtain ⟨x', hx, rfl⟩ := hc
    exact f_entry G E S hg ho hx hev
  | typeAssert x u t ok => exact f_assertC G E S ho hc hev
  | extract x n => exact f_extract G E S ho hc hev
  | panic x =>
    simp only [cOp, Option.map_eq_some_iff] at hc
    obtain ⟨x', hx, rfl⟩ := hc
    simp only [evI] at hev; cases hev
  | call c => exact f_call G E S hg hid ho hc hev
  | defer c =>
    simp only [cOp, Option.bind_eq_some_iff] at hc
    obtain ⟨as, _, hc⟩ := hc
    split at hc
    · simp only [Option.map_eq_some_iff] at hc
      obtain ⟨_, _, rfl⟩ := hc
      simp only [evI] at hev; cases hev
    · cases hc
  | _ => simp only [cOp] at hc; cases hc

end
end Go.Abs
