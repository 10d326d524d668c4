/-
  ABS, part 24: objects are held fast; values with all they lead to, inline.
-/
import Derived.Test.YtfmdgjnjfmgbmaaGreatDoorAbs23
namespace Go.Abs
open Go Go.RowKit
set_option linter.unusedSectionVars false
variable [Syms]

/-- An object's contents stand in what is never written any more. -/
def HeldO (M : Mem) (β : Places) (b : Nat) : AObj → Prop
  | .cells cs _ _ _ => ∃ i, β b = some i ∧ ∀ k v, cs[k]? = some v → v.one = true ∧ ∃ c, M.c ⟨i.blk, i.off + k, none⟩ = some c ∧ Rel M β v c
  | .map es _ _ => ∃ i ces clock, β b = some i ∧ M.o i.blk = some (.map ces clock) ∧ RelEnt M β es ces.toList ∧ (∀ e ∈ ces.toList, e.born < clock) ∧ (ces.toList.map (·.born)).Nodup
  | _ => True

section
variable {M M' : Mem} {β : Places} {w0 w : World}

theorem HeldO.mono (hM : M.le M') {b : Nat} : ∀ {o : AObj}, HeldO M β b o → HeldO M' β b o
  | .cells .., ⟨i, hi, h⟩ => ⟨i, hi, fun k v hk => by
      obtain ⟨h1, c, h2, h3⟩ := h k v hk
      exact ⟨h1, c, hM.1 _ _ h2, h3.mono hM (.refl β)⟩⟩
  | .map .., ⟨i, ces, clock, hi, h1, h2, h3, h4⟩ => ⟨i, ces, clock, hi, hM.2 _ _ h1, RelEnt.mono hM (.refl β) _ _ h2, h3, h4⟩
  | .mapIter .., h => h
  | .rmapIter .., h => h
  | .strIter .., h => h
  | .loop _, h => h
  | .shut, h => h

theorem HeldO.freeze {b : Nat} : ∀ {o : AObj}, HeldO M β b o.freeze → HeldO M β b o
  | .cells .., h => h
  | .map .., h => h
  | .mapIter .., h => h
  | .rmapIter .., h => h
  | .strIter .., h => h
  | .loop _, h => h
  | .shut, h => h

theorem ObjSim.grow (hM : M.le M') {i : Place} {o : AObj} (hc : o.owns = true → ∀ a c, M'.c a = some c → a.block = i.blk → M.c a = some c) (ho : o.owns = true → M'.o i.blk = M.o i.blk) (h : ObjSim M β w i o) : ObjSim M' β w i o := by
  cases o with
  | cells cs esz fz sp =>
    cases sp with
    | false =>
      obtain ⟨h1, h2, arr, T, fr, C⟩ := h
      refine ⟨h1, h2, arr, T, fr, ⟨C.blk, C.size, C.thaw, C.fits, fun k v hk => ?_, C.fzle, fun e k c hk he => hM.1 _ _ (C.ice e k c hk he), fun a c ha hb => C.free a c (hc rfl a c ha hb) hb⟩⟩
      obtain ⟨h3, c, h4, h5⟩ := C.rel k v hk
      exact ⟨h3, c, h4, h5.mono hM (.refl β)⟩
    | true =>
      obtain ⟨h1, h2, h3⟩ := h
      refine ⟨h1, h2, fun k v hk => ?_⟩
      obtain ⟨h4, c, h5, h6⟩ := h3 k v hk
      exact ⟨h4, c, hM.1 _ _ h5, h6.mono hM (.refl β)⟩
  | map es clock fzn =>
    obtain ⟨ces, h1, h2, h3, h4, h5, h6⟩ := h
    exact ⟨ces, h1, RelEnt.mono hM (.refl β) _ _ h2, h3, h4, fun e => hM.2 _ _ (h5 e), fun e => by rw [ho rfl]; exact h6 e⟩
  | mapIter m since seen last =>
    obtain ⟨h1, h2, h3⟩ := h
    exact ⟨h1, by rw [ho rfl]; exact h2, h3⟩
  | rmapIter ks vs seen =>
    obtain ⟨⟨r, ces, clock, last, h1, h2, h3, h4, h5, h6, h7, h8⟩, h9, h10⟩ := h
    exact ⟨⟨r, ces, clock, last, h1, h2, h3, hM.2 _ _ h4, RelKs.mono hM (.refl β) _ _ h5, RelVs.mono hM (.refl β) _ _ h6, h7, h8⟩, by rw [ho rfl]; exact h9, h10⟩
  | strIter s pos =>
    obtain ⟨h1, h2, h3⟩ := h
    exact ⟨h1, by rw [ho rfl]; exact h2, h3⟩
  | loop busy =>
    obtain ⟨h1, h2⟩ := h
    exact ⟨h1, by rw [ho rfl]; exact h2⟩
  | shut =>
    obtain ⟨h1, h2⟩ := h
    exact ⟨h1, by rw [ho rfl]; exact h2⟩

theorem Sim.grow {h : View} (S : Sim M β h w0 w) (hM : M.le M') {B : Nat} (hc : ∀ a c, M'.c a = some c → M.c a = some c ∨ a.block = B) (ho : ∀ r, r ≠ B → M'.o r = M.o r)
    (hmem : ∀ a c, M'.c a = some c → w.cell? a = some c) (hmemo : ∀ r o, M'.o r = some o → w.heap[r]? = some o) (hmaps : ∀ r o, M'.o r = some o → ∃ es clock, o = .map es clock)
    (hno : ∀ b o i, h b = some o → β b = some i → o.owns = true → i.blk ≠ B) : Sim M' β h w0 w where
  below := S.below
  mem := hmem
  memo := hmemo
  maps := hmaps
  sane := S.sane
  obj b o e := by
    obtain ⟨i, hi, hb, hs⟩ := S.obj b o e
    refine ⟨i, hi, hb, hs.grow hM (fun hown a c ha hab => ?_) (fun hown => ho _ (hno b o i e hi hown))⟩
    rcases hc a c ha with h | h
    · exact h
    · exact absurd (hab.symm.trans h) (hno b o i e hi hown)
  sep := S.sep

/-- One object is held fast. -/
theorem Sim.freeze {h : Heap} (S : Sim M β h.get w0 w) {b : Nat} {o : AObj} (hb : h.get b = some o) :
    ∃ M', M.le M' ∧ M.above w0.heap.size M' ∧ Sim M' β (h.set b o.freeze).get w0 w ∧ HeldO M' β b o := by
  obtain ⟨i, hi, hbase, hs⟩ := S.obj b o hb
  have hno : o.owns = true → ∀ b' o' i', upd h.get b none b' = some o' → β b' = some i' → o'.owns = true → i'.blk ≠ i.blk := fun ho b' o' i' hb' hi' hown => by
    by_cases e : b' = b
    · subst e; rw [upd_eq] at hb'; cases hb'
    · rw [upd_ne _ _ e] at hb'
      exact S.sep b' b o' _ i' i e hb' hb hi' hi hown ho
  have hset : ∀ o', upd (upd h.get b none) b (some o') = (h.set b o').get := fun o' => by
    rw [get_set]
    funext x
    by_cases e : x = b
    · subst e; rw [upd_eq, upd_eq]
    · rw [upd_ne _ _ e, upd_ne _ _ e, upd_ne _ _ e]
  cases o with
  | cells cs esz fz sp =>
    cases sp with
    | true =>
      obtain ⟨h1, h2, h3⟩ := hs
      refine ⟨M, .refl M, .refl _ M, ?_, ⟨i, hi, h3⟩⟩
      rw [← hset]
      exact (S.drop b).put hi hbase ⟨h1, h2, h3⟩ (fun h => by cases h)
    | false =>
      obtain ⟨h1, h2, arr, T, fr, C⟩ := hs
      let f : Addr → Option Value := fun a => match M.c a with
        | some c => some c
        | none => if a.block = i.blk ∧ i.off ≤ a.off ∧ a.off < i.off + cs.length ∧ a.spot = none then arr[a.off]? else none
      have hf : ∀ a c, f a = some c → M.c a = some c ∨ (a.block = i.blk ∧ i.off ≤ a.off ∧ a.off < i.off + cs.length ∧ a.spot = none ∧ arr[a.off]? = some c) := fun a c ha => by
        simp only [f] at ha
        split at ha
        · rename_i c' hc'; cases ha; exact .inl hc'
        · split at ha
          · rename_i hq; exact .inr ⟨hq.1, hq.2.1, hq.2.2.1, hq.2.2.2, ha⟩
          · cases ha
      have hcell : ∀ a c, f a = some c → w.cell? a = some c := fun a c ha => by
        rcases hf a c ha with h | ⟨e1, _, _, e4, e5⟩
        · exact S.mem a c h
        · obtain ⟨B, O, sp⟩ := a
          simp only at e1 e4 e5
          subst e1; subst e4
          rw [cell?_of C.blk]; exact e5
      have hfr : ∀ k c, k < cs.length → arr[i.off + k]? = some c → f ⟨i.blk, i.off + k, none⟩ = some c := fun k c hk hc => by
        simp only [f]
        split
        · rename_i c' hc'
          have := S.mem _ _ hc'
          rw [cell?_of C.blk, hc] at this
          exact this.symm
        · rw [if_pos ⟨trivial, by omega, by omega, trivial⟩]; exact hc
      let M' : Mem := ⟨f, M.o⟩
      have hM : M.le M' := ⟨fun a c h => by simp only [M', f, h], fun _ _ h => h⟩
      have hrel : ∀ k v, cs[k]? = some v → v.one = true ∧ ∃ c, arr[i.off + k]? = some c ∧ Rel M' β v c := fun k v hk => by
        obtain ⟨h3, c, h4, h5⟩ := C.rel k v hk
        exact ⟨h3, c, h4, h5.mono hM (.refl β)⟩
      refine ⟨M', hM, ⟨fun a c ha => ?_, fun _ _ h => .inl h⟩, ?_, ⟨i, hi, fun k v hk => ?_⟩⟩
      · rcases hf a c ha with h | ⟨e1, _⟩
        · exact .inl h
        · right; rw [e1]; exact hbase
      · rw [← hset]
        have S1 : Sim M' β (upd h.get b none) w0 w := (S.drop b).grow hM (B := i.blk) (fun a c ha => (hf a c ha).imp id (·.1)) (fun _ _ => rfl) hcell S.memo S.maps (hno rfl)
        refine S1.put hi hbase ⟨h1, h2, arr, T, fr, ⟨C.blk, C.size, C.thaw, C.fits, hrel, Nat.le_refl _, fun _ k c hk hc => hfr k c hk hc, fun a c ha hab => ?_⟩⟩ (fun _ => fun b' o' i' hne hb' => hno rfl b' o' i' hb')
        rcases hf a c ha with h | ⟨_, _, e3, _⟩
        · have := C.free a c h hab
          have := C.fzle
          omega
        · exact e3
      · obtain ⟨h3, c, h4, h5⟩ := hrel k v hk
        exact ⟨h3, c, hfr k c (by
          rcases Nat.lt_or_ge k cs.length with h | h
          · exact h
          · rw [List.getElem?_eq_none h] at hk; cases hk) h4, h5⟩
  | map es clock fzn =>
    obtain ⟨ces, h1, h2, h3, h4, h5, h6⟩ := hs
    let M' : Mem := ⟨M.c, fun r => if r = i.blk then some (.map ces clock) else M.o r⟩
    have hM : M.le M' := ⟨fun _ _ h => h, fun r o h => by
      simp only [M']
      split
      · rename_i e; subst e
        have := S.memo _ _ h
        rw [h1] at this
        exact this
      · exact h⟩
    refine ⟨M', hM, ⟨fun _ _ h => .inl h, fun r o h => ?_⟩, ?_, ⟨i, ces, clock, hi, by simp [M'], RelEnt.mono hM (.refl β) _ _ h2, h3, h4⟩⟩
    · simp only [M'] at h
      split at h
      · rename_i e; subst e; exact .inr hbase
      · exact .inl h
    · rw [← hset]
      have S1 : Sim M' β (upd h.get b none) w0 w := (S.drop b).grow hM (B := i.blk) (fun _ _ h => .inl h) (fun r hr => by simp only [M']; rw [if_neg hr]) S.mem (fun r o h => by
          simp only [M'] at h
          split at h
          · rename_i e; subst e; cases h; exact h1
          · exact S.memo _ _ h) (fun r o h => by
          simp only [M'] at h
          split at h
          · cases h; exact ⟨_, _, rfl⟩
          · exact S.maps _ _ h) (hno rfl)
      exact S1.put hi hbase ⟨ces, h1, RelEnt.mono hM (.refl β) _ _ h2, h3, h4, fun _ => by simp [M'], fun h => by cases h⟩ (fun _ => fun b' o' i' hne hb' => hno rfl b' o' i' hb')
  | mapIter m since seen last =>
    refine ⟨M, .refl M, .refl _ M, ?_, trivial⟩
    rw [← hset]
    exact (S.drop b).put hi hbase hs (fun _ => fun b' o' i' hne hb' => hno rfl b' o' i' hb')
  | rmapIter ks vs seen =>
    refine ⟨M, .refl M, .refl _ M, ?_, trivial⟩
    rw [← hset]
    exact (S.drop b).put hi hbase hs (fun _ => fun b' o' i' hne hb' => hno rfl b' o' i' hb')
  | strIter s pos =>
    refine ⟨M, .refl M, .refl _ M, ?_, trivial⟩
    rw [← hset]
    exact (S.drop b).put hi hbase hs (fun _ => fun b' o' i' hne hb' => hno rfl b' o' i' hb')
  | loop busy =>
    refine ⟨M, .refl M, .refl _ M, ?_, trivial⟩
    rw [← hset]
    exact (S.drop b).put hi hbase hs (fun _ => fun b' o' i' hne hb' => hno rfl b' o' i' hb')
  | shut =>
    refine ⟨M, .refl M, .refl _ M, ?_, trivial⟩
    rw [← hset]
    exact (S.drop b).put hi hbase hs (fun _ => fun b' o' i' hne hb' => hno rfl b' o' i' hb')

theorem Sim.freezeAll : ∀ (l : List Nat) {M : Mem} {h : Heap}, Sim M β h.get w0 w →
    ∃ M', M.le M' ∧ M.above w0.heap.size M' ∧ Sim M' β (freezeAll h l).get w0 w ∧ ∀ b ∈ l, ∀ o, h.get b = some o → HeldO M' β b o
  | [], M, h, S => ⟨M, .refl M, .refl _ M, S, fun b hb => by cases hb⟩
  | b :: l, M, h, S => by
    simp only [Abs.freezeAll]
    cases hb : h.get b with
    | none =>
      obtain ⟨M', h1, h2, h3, h4⟩ := Sim.freezeAll l S
      refine ⟨M', h1, h2, h3, fun x hx o ho => ?_⟩
      rcases List.mem_cons.1 hx with e | hx
      · subst e; rw [hb] at ho; cases ho
      · exact h4 x hx o ho
    | some o =>
      obtain ⟨M1, h1, h2, h3, h4⟩ := S.freeze hb
      obtain ⟨M', k1, k2, k3, k4⟩ := Sim.freezeAll l h3
      refine ⟨M', h1.trans k1, h2.trans k2, k3, fun x hx o' ho => ?_⟩
      by_cases e : x = b
      · subst e; rw [hb] at ho; cases ho; exact h4.mono k1
      · rcases List.mem_cons.1 hx with e' | hx
        · exact absurd e' e
        · exact k4 x hx o' (by rw [get_set, upd_ne _ _ e]; exact ho)

/-! Inline. -/
theorem RelKs_of {M : Mem} {β β' : Places} : ∀ {es : List (V × V × Nat)} {ces : List MapEntry} {ks : List V}, RelEnt M β es ces → RelL M β' ks (ces.map (·.key)) → V.imm.imms ks = true → RelKs M β' ks ces
  | [], _, [], h, k, _ => by simp only [RelEnt] at h; subst h; simp only [RelKs]
  | [], _, _ :: _, h, k, _ => by simp only [RelEnt] at h; subst h; simp only [List.map_nil, RelL] at k; obtain ⟨_, _, h, _⟩ := k; cases h
  | e :: es, _, ks, h, k, hi => by
    simp only [RelEnt] at h
    obtain ⟨m, ms, rfl, h1, h2, h3, h4⟩ := h
    cases ks with
    | nil => simp only [List.map_cons, RelL] at k; cases k
    | cons v vs =>
      simp only [List.map_cons, RelL] at k
      obtain ⟨c, cs, he, hc, hcs⟩ := k
      cases he
      simp only [V.imm.imms, Bool.and_eq_true] at hi
      simp only [RelKs]
      exact ⟨m, ms, rfl, hi.1, hc, RelKs_of h4 hcs hi.2⟩

theorem RelVs_of {M : Mem} {β β' : Places} : ∀ {es : List (V × V × Nat)} {ces : List MapEntry} {ks : List V}, RelEnt M β es ces → RelL M β' ks (ces.map (·.val)) → V.imm.imms ks = true → RelVs M β' ks ces
  | [], _, [], h, k, _ => by simp only [RelEnt] at h; subst h; simp only [RelVs]
  | [], _, _ :: _, h, k, _ => by simp only [RelEnt] at h; subst h; simp only [List.map_nil, RelL] at k; obtain ⟨_, _, h, _⟩ := k; cases h
  | e :: es, _, ks, h, k, hi => by
    simp only [RelEnt] at h
    obtain ⟨m, ms, rfl, h1, h2, h3, h4⟩ := h
    cases ks with
    | nil => simp only [List.map_cons, RelL] at k; cases k
    | cons v vs =>
      simp only [List.map_cons, RelL] at k
      obtain ⟨c, cs, he, hc, hcs⟩ := k
      cases he
      simp only [V.imm.imms, Bool.and_eq_true] at hi
      simp only [RelVs]
      exact ⟨m, ms, rfl, hi.1, hc, RelVs_of h4 hcs hi.2⟩

theorem RelEnt.keys {M : Mem} {β : Places} : ∀ {es : List (V × V × Nat)} {ces : List MapEntry}, RelEnt M β es ces → RelL M β (es.map (·.1)) (ces.map (·.key))
  | [], _, h => by simp only [RelEnt] at h; subst h; simp only [List.map_nil, RelL]
  | e :: es, _, h => by
    simp only [RelEnt] at h
    obtain ⟨m, ms, rfl, h1, h2, h3, h4⟩ := h
    simp only [List.map_cons, RelL]
    exact ⟨_, _, rfl, h1, RelEnt.keys h4⟩

theorem RelEnt.vals {M : Mem} {β : Places} : ∀ {es : List (V × V × Nat)} {ces : List MapEntry}, RelEnt M β es ces → RelL M β (es.map (·.2.1)) (ces.map (·.val))
  | [], _, h => by simp only [RelEnt] at h; subst h; simp only [List.map_nil, RelL]
  | e :: es, _, h => by
    simp only [RelEnt] at h
    obtain ⟨m, ms, rfl, h1, h2, h3, h4⟩ := h
    simp only [List.map_cons, RelL]
    exact ⟨_, _, rfl, h2, RelEnt.vals h4⟩

theorem imms_get : ∀ {l : List V} {k : Nat} {v : V}, V.imm.imms l = true → l[k]? = some v → v.imm = true
  | x :: l, k, v, h, e => by
    simp only [V.imm.imms, Bool.and_eq_true] at h
    cases k with
    | zero => simp at e; subst e; exact h.1
    | succ k => simp at e; exact imms_get h.2 e

mutual
theorem reify_one {g : View} : ∀ {d : Nat} {v v' : V}, reify g d v = some v' → v'.one = v.one ∧ v'.imm = true
  | 0, v, v', h => by simp only [reify] at h; cases h
  | d + 1, v, v', h => by
    cases v <;> simp only [reify] at h
    case ptr b off =>
      split at h
      · simp only [Option.map_eq_some_iff] at h; obtain ⟨_, _, rfl⟩ := h; exact ⟨rfl, rfl⟩
      · cases h
    case slice b off len cap =>
      split at h
      · simp only [Option.map_eq_some_iff] at h; obtain ⟨_, _, rfl⟩ := h; exact ⟨rfl, rfl⟩
      · cases h
    case map b =>
      split at h
      · simp only [Option.bind_eq_some_iff, Option.map_eq_some_iff] at h; obtain ⟨_, _, _, _, rfl⟩ := h; exact ⟨rfl, rfl⟩
      · cases h
    case func fn a b =>
      split at h
      case isFalse => cases h
      rename_i hny
      simp only [Option.bind_eq_some_iff, Option.map_eq_some_iff] at h
      obtain ⟨a', ha, b', hb, rfl⟩ := h
      refine ⟨rfl, ?_⟩
      simp only [V.imm, hny, reifyL_imm ha, reifyL_imm hb, Bool.and_self]
    case iface t v =>
      simp only [Option.map_eq_some_iff] at h
      obtain ⟨v', hv, rfl⟩ := h
      exact ⟨rfl, by simp only [V.imm]; exact (reify_one hv).2⟩
    case agg cs =>
      simp only [Option.map_eq_some_iff] at h
      obtain ⟨v', hv, rfl⟩ := h
      exact ⟨rfl, by simp only [V.imm]; exact reifyL_imm hv⟩
    case tuple cs =>
      simp only [Option.map_eq_some_iff] at h
      obtain ⟨v', hv, rfl⟩ := h
      exact ⟨rfl, by simp only [V.imm]; exact reifyL_imm hv⟩
    all_goals (cases h; exact ⟨rfl, rfl⟩)
theorem reifyL_imm {g : View} : ∀ {d : Nat} {l l' : List V}, reifyL g d l = some l' → V.imm.imms l' = true
  | 0, l, l', h => by simp only [reifyL] at h; cases h
  | d + 1, [], l', h => by simp only [reifyL] at h; cases h; rfl
  | d + 1, v :: vs, l', h => by
    simp only [reifyL, Option.bind_eq_some_iff, Option.map_eq_some_iff] at h
    obtain ⟨v', hv, vs', hvs, rfl⟩ := h
    simp only [V.imm.imms, (reify_one hv).2, reifyL_imm hvs, Bool.and_self]
end

theorem reifyL_get {g : View} : ∀ {d : Nat} {l l' : List V}, reifyL g d l = some l' → l'.length = l.length ∧ ∀ (k : Nat) (v' : V), l'[k]? = some v' → ∃ v : V, l[k]? = some v ∧ v'.one = v.one
  | 0, l, l', h => by simp only [reifyL] at h; cases h
  | d + 1, [], l', h => by simp only [reifyL] at h; cases h; exact ⟨rfl, fun k v' h => by simp at h⟩
  | d + 1, v :: vs, l', h => by
    simp only [reifyL, Option.bind_eq_some_iff, Option.map_eq_some_iff] at h
    obtain ⟨v', hv, vs', hvs, rfl⟩ := h
    obtain ⟨h1, h2⟩ := reifyL_get hvs
    refine ⟨by simp [h1], fun k q hq => ?_⟩
    cases k with
    | zero => simp at hq; subst hq; exact ⟨v, rfl, (reify_one hv).1⟩
    | succ k => simp at hq; simpa using h2 k q hq

/-- A row from cells that are held. -/
theorem row_of {M : Mem} {β : Places} {g : View} {d : Nat} {cs row : List V} {i : Place} (hr : reifyL g d cs = some row) (h : ∀ k v, cs[k]? = some v → v.one = true ∧ ∃ c, M.c ⟨i.blk, i.off + k, none⟩ = some c ∧ Rel M β v c)
    (ih : ∀ (l : List Value), RelL M β cs l → ∀ β', RelL M β' row l) (β' : Places) : RelRow M β' row i.blk i.off := by
  obtain ⟨hlen, hone⟩ := reifyL_get hr
  have himm := reifyL_imm hr
  have hex : ∀ k : Nat, k < cs.length → ∃ c, M.c ⟨i.blk, i.off + k, none⟩ = some c := fun k hk => by
    obtain ⟨_, c, h1, _⟩ := h k cs[k] (List.getElem?_eq_getElem hk)
    exact ⟨c, h1⟩
  let l : List Value := (List.range cs.length).map fun k => ((M.c ⟨i.blk, i.off + k, none⟩).getD undef)
  have hl : ∀ k, k < cs.length → l[k]? = some ((M.c ⟨i.blk, i.off + k, none⟩).getD undef) := fun k hk => by
    simp [l, hk]
  have hL : RelL M β cs l := RelL.of_get (by simp [l]) fun k v hk => by
    obtain ⟨_, c, h1, h2⟩ := h k v hk
    have hk' : k < cs.length := by
      rcases Nat.lt_or_ge k cs.length with h | h
      · exact h
      · rw [List.getElem?_eq_none h] at hk; cases hk
    exact ⟨c, by rw [hl k hk', h1]; rfl, h2⟩
  refine RelRow.of_get fun k v' hk => ?_
  have hk' : k < cs.length := by
    rw [← hlen]
    rcases Nat.lt_or_ge k row.length with h | h
    · exact h
    · rw [List.getElem?_eq_none h] at hk; cases hk
  obtain ⟨c, hc1, hc2⟩ := (ih l hL β').get hk
  rw [hl k hk'] at hc1
  obtain ⟨c', hc'⟩ := hex k hk'
  rw [hc'] at hc1
  simp only [Option.getD_some, Option.some.injEq] at hc1
  subst hc1
  obtain ⟨v, hv, ho⟩ := hone k v' hk
  exact ⟨c', hc', imms_get himm hk, by rw [ho]; exact (h k v hv).1, hc2⟩

mutual
theorem reify_rel {g : View} : ∀ {d : Nat} {v v' : V} {c : Value}, (∀ b ∈ touched g d v, ∀ o, g b = some o → HeldO M β b o) → reify g d v = some v' → Rel M β v c → ∀ β', Rel M β' v' c
  | 0, v, v', c, H, h, R => by simp only [reify] at h; cases h
  | d + 1, v, v', c, H, h, R => by
    intro β'
    cases v <;> simp only [reify] at h
    case ptr b off =>
      split at h
      · rename_i cs esz fz sp hb
        simp only [Option.map_eq_some_iff] at h
        obtain ⟨row, hrow, rfl⟩ := h
        simp only [touched, hb, List.mem_cons] at H
        obtain ⟨i, hi, hh⟩ := H b (.inl rfl) _ hb
        simp only [Rel] at R
        obtain ⟨i', hi', rfl⟩ := R
        rw [hi] at hi'; cases hi'
        simp only [Rel]
        exact ⟨i.blk, i.off, row_of hrow hh (fun l hl => reifyL_rel (fun b hb => H b (.inr hb)) hrow hl) β', rfl⟩
      · cases h
    case slice b off len cap =>
      split at h
      · rename_i cs esz fz sp hb
        simp only [Option.map_eq_some_iff] at h
        obtain ⟨row, hrow, rfl⟩ := h
        simp only [touched, hb, List.mem_cons] at H
        obtain ⟨i, hi, hh⟩ := H b (.inl rfl) _ hb
        simp only [Rel] at R
        obtain ⟨i', n, hi', h1, h2, h3, h4, a, rfl, h5⟩ := R
        rw [hi] at hi'; cases hi'
        simp only [Rel]
        exact ⟨i.blk, i.off, n, row_of hrow hh (fun l hl => reifyL_rel (fun b hb => H b (.inr hb)) hrow hl) β', h1, (fun k h => by cases h), a, rfl, h5⟩
      · cases h
    case map b =>
      split at h
      · rename_i es clock fzn hb
        simp only [Option.bind_eq_some_iff, Option.map_eq_some_iff] at h
        obtain ⟨ks, hks, vs, hvs, rfl⟩ := h
        simp only [touched, hb, List.mem_cons, List.mem_append] at H
        obtain ⟨i, ces, clk, hi, hh, hent, hborn, hnd⟩ := H b (.inl rfl) _ hb
        simp only [Rel] at R
        obtain ⟨i', hi', rfl⟩ := R
        rw [hi] at hi'; cases hi'
        simp only [Rel]
        refine ⟨i.blk, ces, clk, rfl, hh, RelKs_of hent (reifyL_rel (fun b hb => H b (.inr (.inl hb))) hks hent.keys β') (reifyL_imm hks), RelVs_of hent (reifyL_rel (fun b hb => H b (.inr (.inr hb))) hvs hent.vals β') (reifyL_imm hvs), hborn, hnd⟩
      · cases h
    case func fn a b =>
      split at h
      case isFalse => cases h
      rename_i hny
      simp only [Option.bind_eq_some_iff, Option.map_eq_some_iff] at h
      obtain ⟨a', ha, b', hb, rfl⟩ := h
      simp only [touched, List.mem_append] at H
      simp only [Rel] at R ⊢
      obtain ⟨f', x, y, hf', rfl, hx, hy⟩ := R
      exact ⟨f', x, y, hf'.plain hny, rfl, reifyL_rel (fun b hb => H b (.inl hb)) ha hx β', reifyL_rel (fun b hb => H b (.inr hb)) hb hy β'⟩
    case iface t v =>
      simp only [Option.map_eq_some_iff] at h
      obtain ⟨v', hv, rfl⟩ := h
      simp only [touched] at H
      simp only [Rel] at R ⊢
      obtain ⟨x, rfl, hx⟩ := R
      exact ⟨x, rfl, reify_rel H hv hx β'⟩
    case agg cs =>
      simp only [Option.map_eq_some_iff] at h
      obtain ⟨v', hv, rfl⟩ := h
      simp only [touched] at H
      simp only [Rel] at R ⊢
      obtain ⟨x, rfl, hx⟩ := R
      exact ⟨x, rfl, reifyL_rel H hv hx β'⟩
    case tuple cs =>
      simp only [Option.map_eq_some_iff] at h
      obtain ⟨v', hv, rfl⟩ := h
      simp only [touched] at H
      simp only [Rel] at R ⊢
      obtain ⟨x, rfl, hx⟩ := R
      exact ⟨x, rfl, reifyL_rel H hv hx β'⟩
    all_goals (cases h; exact Rel.imm _ _ rfl R)
theorem reifyL_rel {g : View} : ∀ {d : Nat} {l l' : List V} {c : List Value}, (∀ b ∈ touchedL g d l, ∀ o, g b = some o → HeldO M β b o) → reifyL g d l = some l' → RelL M β l c → ∀ β', RelL M β' l' c
  | 0, l, l', c, H, h, R => by simp only [reifyL] at h; cases h
  | d + 1, [], l', c, H, h, R => by
    intro β'
    simp only [reifyL] at h; cases h
    simp only [RelL] at R ⊢; exact R
  | d + 1, v :: vs, l', c, H, h, R => by
    intro β'
    simp only [reifyL, Option.bind_eq_some_iff, Option.map_eq_some_iff] at h
    obtain ⟨v', hv, vs', hvs, rfl⟩ := h
    simp only [touchedL, List.mem_append] at H
    simp only [RelL] at R ⊢
    obtain ⟨x, xs, rfl, hx, hxs⟩ := R
    exact ⟨x, xs, rfl, reify_rel (fun b hb => H b (.inl hb)) hv hx β', reifyL_rel (fun b hb => H b (.inr hb)) hvs hxs β'⟩
end

end
end Go.Abs
