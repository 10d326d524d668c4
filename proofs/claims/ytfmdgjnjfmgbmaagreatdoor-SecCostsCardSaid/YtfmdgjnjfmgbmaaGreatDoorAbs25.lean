/-
  ABS, part 25: calls that are told by functions on values.
-/
import Derived.Test.YtfmdgjnjfmgbmaaGreatDoorAbs24
namespace Go.Abs
open Go Go.RowKit
set_option linter.unusedSectionVars false
variable [Syms]

structure MemOk (M : Mem) (w : World) : Prop where
  mem : ∀ a c, M.c a = some c → w.cell? a = some c
  memo : ∀ r o, M.o r = some o → w.heap[r]? = some o
  maps : ∀ r o, M.o r = some o → ∃ es clock, o = .map es clock

abbrev nowhere : Places := fun _ => none

/-- A function's answer, told on values. -/
def PureSpec (P : Program) (gl : Nat → Option (List V)) (f : FuncId) (F : List V → Option V) : Prop :=
  ∀ (M : Mem) (args : List V) (cargs : List Value) (r : V) (w : World), Globs gl M → MemOk M w → V.imm.imms args = true → RelL M nowhere args cargs → F args = some r →
    OpCall P f cargs.toArray w fun e w' => ∃ M' c, e = .returned c ∧ M.le M' ∧ M.above w.heap.size M' ∧ MemOk M' w' ∧ Below w.heap.size w w' ∧ r.imm = true ∧ Rel M' nowhere r c

mutual
theorem Rel.flat {M M' : Mem} {β β' : Places} : ∀ (v : V) (c : Value), v.flat = true → Rel M β v c → Rel M' β' v c
  | .bool _, c, _, h => by simp only [Rel] at h ⊢; exact h
  | .int .., c, _, h => by simp only [Rel] at h ⊢; exact h
  | .str _, c, _, h => by simp only [Rel] at h ⊢; exact h
  | .nilPtr, c, _, h => by simp only [Rel] at h ⊢; exact h
  | .nilSlice, c, _, h => by simp only [Rel] at h ⊢; exact h
  | .nilMap, c, _, h => by simp only [Rel] at h ⊢; exact h
  | .nilFunc, c, _, h => by simp only [Rel] at h ⊢; exact h
  | .nilIface, c, _, h => by simp only [Rel] at h ⊢; exact h
  | .sym _, c, _, h => by simp only [Rel] at h ⊢; exact h
  | .sstr _, c, _, h => by simp only [Rel] at h ⊢; exact h
  | .iface t v, c, hf, h => by
    simp only [V.flat] at hf
    simp only [Rel] at h ⊢
    obtain ⟨d, e, hd⟩ := h
    exact ⟨d, e, Rel.flat v d hf hd⟩
  | .agg cs, c, hf, h => by
    simp only [V.flat] at hf
    simp only [Rel] at h ⊢
    obtain ⟨d, e, hd⟩ := h
    exact ⟨d, e, RelL.flat cs _ hf hd⟩
  | .tuple cs, c, hf, h => by
    simp only [V.flat] at hf
    simp only [Rel] at h ⊢
    obtain ⟨d, e, hd⟩ := h
    exact ⟨d, e, RelL.flat cs _ hf hd⟩
  | .ptr .., _, hf, _ => by simp [V.flat] at hf
  | .rptr .., _, hf, _ => by simp [V.flat] at hf
  | .slice .., _, hf, _ => by simp [V.flat] at hf
  | .rslice .., _, hf, _ => by simp [V.flat] at hf
  | .map _, _, hf, _ => by simp [V.flat] at hf
  | .rmap .., _, hf, _ => by simp [V.flat] at hf
  | .func .., _, hf, _ => by simp [V.flat] at hf
theorem RelL.flat {M M' : Mem} {β β' : Places} : ∀ (l : List V) (cs : List Value), V.flat.flats l = true → RelL M β l cs → RelL M' β' l cs
  | [], _, _, h => by simp only [RelL] at h ⊢; exact h
  | v :: vs, _, hf, h => by
    simp only [V.flat.flats, Bool.and_eq_true] at hf
    simp only [RelL] at h ⊢
    obtain ⟨c, cs, e, h1, h2⟩ := h
    exact ⟨c, cs, e, Rel.flat _ _ hf.1 h1, RelL.flat _ _ hf.2 h2⟩
end

mutual
theorem touched_imm {g : View} : ∀ {d : Nat} {v : V}, v.imm = true → touched g d v = []
  | 0, v, h => by simp only [touched]
  | d + 1, v, h => by
    cases v <;> simp only [V.imm, Bool.and_eq_true] at h <;> simp only [touched]
    case ptr => cases h
    case slice => cases h
    case map => cases h
    case func => rw [touchedL_imm h.1.2, touchedL_imm h.2]; rfl
    case iface => exact touched_imm h
    case agg => exact touchedL_imm h
    case tuple => exact touchedL_imm h
theorem touchedL_imm {g : View} : ∀ {d : Nat} {l : List V}, V.imm.imms l = true → touchedL g d l = []
  | 0, l, h => by simp only [touchedL]
  | d + 1, [], h => by simp only [touchedL]
  | d + 1, v :: vs, h => by
    simp only [V.imm.imms, Bool.and_eq_true] at h
    simp only [touchedL, touched_imm h.1, touchedL_imm h.2, List.append_nil]
end

section
variable {P : Program} {gl : Nat → Option (List V)} {M M' : Mem} {β : Places} {w0 w w' : World} {h : View}

theorem Sim.memOk (S : Sim M β h w0 w) : MemOk M w := ⟨S.mem, S.memo, S.maps⟩

theorem MemOk.below (H : MemOk M w) (hb : Below w.heap.size w w') : MemOk M w' where
  mem a c e := by
    have := H.mem a c e
    rw [← this]
    exact cell?_eq (hb.block _ (lt_of_cell? this))
  memo r o e := by
    have := H.memo r o e
    rw [← this]
    exact hb.block _ (lt_of_get? this)
  maps := H.maps

/-- After a call that left alone what was there. -/
theorem Sim.called (S : Sim M β h w0 w) (hb : Below w.heap.size w w') (hM : M.le M') (ha : M.above w.heap.size M') (hok : MemOk M' w') : Sim M' β h w0 w' := by
  have k : Keeps M w.heap.size w w' := ⟨hb.os, hb.tape, hb.output, hb.size, fun r hr hlt => hb.block r hlt, fun a c e _ => hok.mem a c (hM.1 a c e), fun r o e _ => hok.memo r o (hM.2 r o e)⟩
  have S1 : Sim M β h w0 w' := S.change k S.base (fun b o i _ hi _ => by have := S.sane b i hi; omega)
  exact {
    below := S1.below
    mem := hok.mem
    memo := hok.memo
    maps := hok.maps
    sane := S1.sane
    obj := fun b o e => by
      obtain ⟨i, hi, hbase, hs⟩ := S1.obj b o e
      have hlt := S.sane b i hi
      refine ⟨i, hi, hbase, hs.grow hM (fun _ a c hac hab => ?_) (fun _ => ?_)⟩
      · rcases ha.1 a c hac with h | h
        · exact h
        · omega
      · cases hq : M'.o i.blk with
        | none =>
          cases hp : M.o i.blk with
          | none => rfl
          | some q => have := hM.2 _ _ hp; rw [hq] at this; cases this
        | some q =>
          rcases ha.2 _ _ hq with h | h
          · exact h.symm
          · omega
    sep := S1.sep }

theorem callSum_ok {f : FuncId} {F : List V → Option V} (hF : PureSpec P gl f F) (G : Globs gl M) {hp : Heap} (S : Sim M β hp.get w0 w) {g : View} (hg : ∀ b o, g b = some o → hp.get b = some o) {args : List V} {cargs : List Value} (R : RelL M β args cargs) {r : V}
    (hc : callSum g F args = some r) : OpCall P f cargs.toArray w fun e w' => ∃ M' c, e = .returned c ∧ M.le M' ∧ M.above w0.heap.size M' ∧ Sim M' β hp.get w0 w' ∧ Rel M' β r c := by
  unfold callSum at hc
  simp only [Option.bind_eq_some_iff] at hc
  obtain ⟨as, has, r', hr, hc⟩ := hc
  have hr' : r' = r ∧ (r.flat || immL args) = true := by
    split at hc
    · rename_i e; cases hc; exact ⟨rfl, e⟩
    · cases hc
  obtain ⟨rfl, hcond⟩ := hr'
  obtain ⟨Mp, h1, h2, S2, h4⟩ := Sim.freezeAll (touchedL g deep args) S
  have R2 : RelL Mp nowhere as cargs := reifyL_rel (β := β) (fun b hb o ho => h4 b hb o (hg b o ho)) has (R.mono h1 (.refl β)) nowhere
  refine (hF Mp as cargs r' w (G.mono h1) S2.memOk (reifyL_imm has) R2 hr).mono ?_
  rintro e w' ⟨M', c, rfl, k1, k2, k3, k4, k5, k6⟩
  by_cases hfl : r'.flat = true
  · exact ⟨M, c, rfl, .refl M, .refl _ M, S.called k4 (.refl M) (.refl _ M) (S.memOk.below k4), k6.flat _ _ hfl⟩
  · have himm : immL args = true := by simpa [hfl] using hcond
    rw [touchedL_imm himm] at S2
    simp only [Abs.freezeAll] at S2
    refine ⟨M', c, rfl, h1.trans k1, h2.trans ⟨fun a c e => (k2.1 a c e).imp id (fun h => Nat.le_trans S.base h), fun a c e => (k2.2 a c e).imp id (fun h => Nat.le_trans S.base h)⟩, S2.called k4 k1 k2 k3, k6.imm _ _ k5⟩

theorem callSumF_ok {f : FuncId} {F : List V → Option V} (hF : PureSpec P gl f F) (G : Globs gl M) {hp hp' : Heap} (S : Sim M β hp.get w0 w) {args : List V} {cargs : List Value} (R : RelL M β args cargs) {r : V}
    (hc : callSumF hp F args = some (r, hp')) : OpCall P f cargs.toArray w fun e w' => ∃ M' c, e = .returned c ∧ M.le M' ∧ M.above w0.heap.size M' ∧ Sim M' β hp'.get w0 w' ∧ Rel M' β r c := by
  unfold callSumF at hc
  simp only [Option.bind_eq_some_iff, Option.map_eq_some_iff] at hc
  obtain ⟨as, has, r', hr, hc⟩ := hc
  split at hc
  · rename_i hcond
    cases hc
    refine callSum_ok hF G S (fun _ _ h => h) R ?_
    unfold callSum
    simp only [has, hr, Option.bind_some, if_pos hcond]
  · cases hc
    obtain ⟨Mp, h1, h2, S2, h4⟩ := Sim.freezeAll (touchedL hp.get deep args) S
    have R2 : RelL Mp nowhere as cargs := reifyL_rel (β := β) (fun b hb o ho => h4 b hb o ho) has (R.mono h1 (.refl β)) nowhere
    refine (hF Mp as cargs r w (G.mono h1) S2.memOk (reifyL_imm has) R2 hr).mono ?_
    rintro e w' ⟨M', c, rfl, k1, k2, k3, k4, k5, k6⟩
    exact ⟨M', c, rfl, h1.trans k1, h2.trans ⟨fun a c e => (k2.1 a c e).imp id (fun h => Nat.le_trans S.base h), fun a c e => (k2.2 a c e).imp id (fun h => Nat.le_trans S.base h)⟩, S2.called k4 k1 k2 k3, k6.imm _ _ k5⟩

end
end Go.Abs
