/-
  ABS, part 5: a run's heap and the world: what holds between them, and how a change of one object's block leaves the rest.
-/
import Derived.Test.YtfmdgjnjfmgbmaaGreatDoorAbs4
import Derived.RowKit
namespace Go.Abs
open Go Go.RowKit
set_option linter.unusedSectionVars false
variable [Syms]

mutual
theorem Rel.imm {M : Mem} {β β' : Places} : ∀ (v : V) (c : Value), v.imm = true → Rel M β v c → Rel M β' v c
  | .bool _, _, _, h | .int _ _, _, _, h | .str _, _, _, h | .nilPtr, _, _, h | .nilSlice, _, _, h | .nilMap, _, _, h | .nilFunc, _, _, h | .nilIface, _, _, h | .sym _, _, _, h | .sstr _, _, _, h => by simpa only [Rel] using h
  | .ptr b off, c, hi, h => by simp [V.imm] at hi
  | .rptr row off, c, _, h => by simp only [Rel] at h ⊢; obtain ⟨B, O, hr, e⟩ := h; exact ⟨B, O, RelRow.imm _ _ _ hr, e⟩
  | .slice b off len cap, c, hi, h => by simp [V.imm] at hi
  | .rslice row off len cap, c, _, h => by simp only [Rel] at h ⊢; obtain ⟨B, O, n, hr, r⟩ := h; exact ⟨B, O, n, RelRow.imm _ _ _ hr, r⟩
  | .map b, c, hi, h => by simp [V.imm] at hi
  | .rmap ks vs, c, _, h => by
    simp only [Rel] at h ⊢
    obtain ⟨r, es, clock, e, ho, hk, hv, hb⟩ := h
    exact ⟨r, es, clock, e, ho, RelKs.imm _ _ hk, RelVs.imm _ _ hv, hb⟩
  | .func fn a b, c, hi, h => by
    simp only [V.imm, Bool.and_eq_true] at hi
    simp only [Rel] at h ⊢; obtain ⟨f', x, y, hf, e, ha, hb⟩ := h; exact ⟨f', x, y, hf.plain hi.1.1, e, RelL.imm _ _ hi.1.2 ha, RelL.imm _ _ hi.2 hb⟩
  | .iface t v, c, hi, h => by
    simp only [V.imm] at hi
    simp only [Rel] at h ⊢; obtain ⟨d, e, hd⟩ := h; exact ⟨d, e, Rel.imm _ _ hi hd⟩
  | .agg cs, c, hi, h => by
    simp only [V.imm] at hi
    simp only [Rel] at h ⊢; obtain ⟨a, e, ha⟩ := h; exact ⟨a, e, RelL.imm _ _ hi ha⟩
  | .tuple cs, c, hi, h => by
    simp only [V.imm] at hi
    simp only [Rel] at h ⊢; obtain ⟨a, e, ha⟩ := h; exact ⟨a, e, RelL.imm _ _ hi ha⟩
theorem RelRow.imm {M : Mem} {β β' : Places} : ∀ (l : List V) (B O : Nat), RelRow M β l B O → RelRow M β' l B O
  | [], _, _, _ => by simp only [RelRow]
  | v :: vs, B, O, h => by
    simp only [RelRow] at h ⊢
    obtain ⟨⟨c, hc, hi, ho, hr⟩, ht⟩ := h
    exact ⟨⟨c, hc, hi, ho, Rel.imm _ _ hi hr⟩, RelRow.imm _ _ _ ht⟩
theorem RelL.imm {M : Mem} {β β' : Places} : ∀ (l : List V) (cs : List Value), V.imm.imms l = true → RelL M β l cs → RelL M β' l cs
  | [], _, _, h => by simpa only [RelL] using h
  | v :: vs, l, hi, h => by
    simp only [V.imm.imms, Bool.and_eq_true] at hi
    simp only [RelL] at h ⊢
    obtain ⟨c, cs, e, hr, ht⟩ := h
    exact ⟨c, cs, e, Rel.imm _ _ hi.1 hr, RelL.imm _ _ hi.2 ht⟩
theorem RelKs.imm {M : Mem} {β β' : Places} : ∀ (l : List V) (cs : List MapEntry), RelKs M β l cs → RelKs M β' l cs
  | [], _, h => by simpa only [RelKs] using h
  | v :: vs, l, h => by
    simp only [RelKs] at h ⊢
    obtain ⟨c, cs, e, hi, hr, ht⟩ := h
    exact ⟨c, cs, e, hi, Rel.imm _ _ hi hr, RelKs.imm _ _ ht⟩
theorem RelVs.imm {M : Mem} {β β' : Places} : ∀ (l : List V) (cs : List MapEntry), RelVs M β l cs → RelVs M β' l cs
  | [], _, h => by simpa only [RelVs] using h
  | v :: vs, l, h => by
    simp only [RelVs] at h ⊢
    obtain ⟨c, cs, e, hi, hr, ht⟩ := h
    exact ⟨c, cs, e, hi, Rel.imm _ _ hi hr, RelVs.imm _ _ ht⟩
end

/-- A map's entries. -/
def RelEnt (M : Mem) (β : Places) : List (V × V × Nat) → List MapEntry → Prop
  | [], l => l = []
  | e :: es, l => ∃ m ms, l = m :: ms ∧ Rel M β e.1 m.key ∧ Rel M β e.2.1 m.val ∧ m.born = e.2.2 ∧ RelEnt M β es ms

theorem RelEnt.mono {M M' : Mem} {β β' : Places} (hM : M.le M') (hβ : β.le β') : ∀ (l : List (V × V × Nat)) (cs : List MapEntry), RelEnt M β l cs → RelEnt M' β' l cs
  | [], _, h => h
  | _ :: es, _, ⟨m, ms, e, h1, h2, h3, h4⟩ => ⟨m, ms, e, Rel.mono hM hβ _ _ h1, Rel.mono hM hβ _ _ h2, h3, RelEnt.mono hM hβ es ms h4⟩

structure CellsOk (M : Mem) (β : Places) (w : World) (i : Place) (cs : List V) (fz : Nat) (arr : Array Value) (T : TypeId) (fr : Nat × Nat) : Prop where
  blk : w.heap[i.blk]? = some (.cells arr T fr)
  size : arr.size = i.size
  thaw : ∀ k, k < arr.size → (decide (fr.1 ≤ k) && decide (k < fr.2)) = false
  fits : i.off + cs.length ≤ arr.size
  rel : ∀ k v, cs[k]? = some v → v.one = true ∧ ∃ c, arr[i.off + k]? = some c ∧ Rel M β v c
  fzle : fz ≤ cs.length
  ice : fz = cs.length → ∀ k c, k < cs.length → arr[i.off + k]? = some c → M.c ⟨i.blk, i.off + k, none⟩ = some c
  free : ∀ a c, M.c a = some c → a.block = i.blk → a.off < i.off + fz

def ObjSim (M : Mem) (β : Places) (w : World) (i : Place) : AObj → Prop
  | .cells cs esz fz false => esz = i.esz ∧ cs.length = i.ext ∧ ∃ arr T fr, CellsOk M β w i cs fz arr T fr
  | .cells cs esz _ true => esz = i.esz ∧ cs.length = i.ext ∧ ∀ k v, cs[k]? = some v → v.one = true ∧ ∃ c, M.c ⟨i.blk, i.off + k, none⟩ = some c ∧ Rel M β v c
  | .map es clock fzn => ∃ ces, w.heap[i.blk]? = some (.map ces clock) ∧ RelEnt M β es ces.toList ∧ (∀ e ∈ ces.toList, e.born < clock) ∧ (ces.toList.map (·.born)).Nodup ∧
      (fzn = true → M.o i.blk = some (.map ces clock)) ∧ (fzn = false → M.o i.blk = none)
  | .mapIter m since seen last => (∃ r, w.heap[i.blk]? = some (.mapIter r since seen.toArray last) ∧ (match m with | none => r = none | some b => ∃ j, β b = some j ∧ r = some j.blk)) ∧ M.o i.blk = none ∧ i.off = 0
  | .rmapIter ks vs seen => (∃ r ces clock last, w.heap[i.blk]? = some (.mapIter (some r) clock (seen.map fun k => ((ces.toList[k]?).map (·.born)).getD 0).toArray last) ∧
      (∀ k ∈ seen, k < ks.length) ∧ last = clock ∧
      M.o r = some (.map ces clock) ∧ RelKs M β ks ces.toList ∧ RelVs M β vs ces.toList ∧ (∀ e ∈ ces.toList, e.born < clock) ∧ (ces.toList.map (·.born)).Nodup) ∧ M.o i.blk = none ∧ i.off = 0
  | .strIter s pos => (∃ bs, w.heap[i.blk]? = some (.stringIter bs pos) ∧ Wild s (bytesOf bs)) ∧ M.o i.blk = none ∧ i.off = 0
  | .loop busy => (∃ r, i.lp = some r ∧ r.pending = none ∧ w.heap[i.blk]? = some (.loop { r with state := if busy then .busy else .ready })) ∧ M.o i.blk = none
  | .shut => w.heap[i.blk]? = some (.deferred (some [])) ∧ M.o i.blk = none

def AObj.owns : AObj → Bool
  | .cells _ _ _ spent => !spent
  | _ => true

def upd (h : View) (b : Nat) (o : Option AObj) : View := fun x => if x = b then o else h x
theorem upd_eq (h : View) (b : Nat) (o : Option AObj) : upd h b o b = o := if_pos rfl
theorem upd_ne (h : View) {b x : Nat} (o : Option AObj) (e : x ≠ b) : upd h b o x = h x := if_neg e
theorem get_put (t : Heap) (b : Nat) (o : Option AObj) : (t.put b o).get = upd t.get b o := funext fun x => T.get_put t b x o
theorem get_set (t : Heap) (b : Nat) (o : AObj) : (t.set b o).get = upd t.get b (some o) := get_put t b _

structure Sim (M : Mem) (β : Places) (h : View) (w0 w : World) : Prop where
  below : Below w0.heap.size w0 w
  mem : ∀ a c, M.c a = some c → w.cell? a = some c
  memo : ∀ r o, M.o r = some o → w.heap[r]? = some o
  maps : ∀ r o, M.o r = some o → ∃ es clock, o = .map es clock
  sane : ∀ b i, β b = some i → i.blk < w.heap.size
  obj : ∀ b o, h b = some o → ∃ i, β b = some i ∧ w0.heap.size ≤ i.blk ∧ ObjSim M β w i o
  sep : ∀ b b' o o' i i', b ≠ b' → h b = some o → h b' = some o' → β b = some i → β b' = some i' → o.owns = true → o'.owns = true → i.blk ≠ i'.blk

/-- From w to w' block B alone may have turned, and there nothing that is never written any more; blocks may have come. -/
structure Keeps (M : Mem) (B : Nat) (w w' : World) : Prop where
  os : w'.os = w.os
  tape : w'.tape = w.tape
  output : w'.output = w.output
  size : w.heap.size ≤ w'.heap.size
  other : ∀ r, r ≠ B → r < w.heap.size → w'.heap[r]? = w.heap[r]?
  cells : ∀ a c, M.c a = some c → w.cell? a = some c → w'.cell? a = some c
  objs : ∀ r o, M.o r = some o → w.heap[r]? = some o → w'.heap[r]? = some o

theorem cell?_eq {w w' : World} {a : Addr} (h : w'.heap[a.block]? = w.heap[a.block]?) : w'.cell? a = w.cell? a := by
  unfold World.cell?; rw [h]

theorem lt_of_cell? {w : World} {a : Addr} {c : Value} (h : w.cell? a = some c) : a.block < w.heap.size := by
  unfold World.cell? at h
  by_cases hb : a.block < w.heap.size
  · exact hb
  · rw [Array.getElem?_eq_none (Nat.le_of_not_lt hb)] at h; simp at h

theorem lt_of_get? {w : World} {r : Nat} {o : Go.Obj} (h : w.heap[r]? = some o) : r < w.heap.size := by
  by_cases hb : r < w.heap.size
  · exact hb
  · rw [Array.getElem?_eq_none (Nat.le_of_not_lt hb)] at h; simp at h

theorem CellsOk.mono {M : Mem} {β β' : Places} (hβ : β.le β') {w : World} {i : Place} {cs : List V} {fz : Nat} {arr : Array Value} {T : TypeId} {fr : Nat × Nat} (h : CellsOk M β w i cs fz arr T fr) :
    CellsOk M β' w i cs fz arr T fr :=
  ⟨h.blk, h.size, h.thaw, h.fits, fun k v hk => let ⟨h1, c, hc, hr⟩ := h.rel k v hk; ⟨h1, c, hc, Rel.mono (.refl M) hβ _ _ hr⟩, h.fzle, h.ice, h.free⟩

theorem ObjSim.mono {M : Mem} {β β' : Places} (hβ : β.le β') {w : World} {i : Place} : ∀ {o : AObj}, ObjSim M β w i o → ObjSim M β' w i o
  | .cells _ _ _ false, ⟨h1, h2, arr, T, fr, h⟩ => ⟨h1, h2, arr, T, fr, h.mono hβ⟩
  | .cells _ _ _ true, ⟨h1, h2, h3⟩ => ⟨h1, h2, fun k v hk => let ⟨h4, c, hc, hr⟩ := h3 k v hk; ⟨h4, c, hc, Rel.mono (.refl M) hβ _ _ hr⟩⟩
  | .map _ _ _, ⟨ces, h1, h2, h3⟩ => ⟨ces, h1, RelEnt.mono (.refl M) hβ _ _ h2, h3⟩
  | .mapIter none _ _ _, h => h
  | .mapIter (some _) _ _ _, ⟨⟨r, h1, j, hj, e⟩, h2⟩ => ⟨⟨r, h1, j, hβ _ _ hj, e⟩, h2⟩
  | .rmapIter _ _ _, ⟨⟨r, ces, clock, last, h1, h3, h4, h5, h6, h7, h8⟩, h9⟩ => ⟨⟨r, ces, clock, last, h1, h3, h4, h5, RelKs.mono (.refl M) hβ _ _ h6, RelVs.mono (.refl M) hβ _ _ h7, h8⟩, h9⟩
  | .strIter _ _, h => h
  | .loop _, h => h
  | .shut, h => h

theorem ObjSim.change {M : Mem} {β : Places} {w w' : World} {B : Nat} (k : Keeps M B w w') {i : Place} (hlt : i.blk < w.heap.size) : ∀ {o : AObj}, (o.owns = true → i.blk ≠ B) → ObjSim M β w i o → ObjSim M β w' i o
  | .cells _ _ _ false, hne, ⟨h1, h2, arr, T, fr, h⟩ => ⟨h1, h2, arr, T, fr, ⟨by rw [k.other _ (hne rfl) hlt]; exact h.blk, h.size, h.thaw, h.fits, h.rel, h.fzle, h.ice, h.free⟩⟩
  | .cells _ _ _ true, _, h => h
  | .map _ _ _, hne, ⟨ces, h1, h2⟩ => ⟨ces, by rw [k.other _ (hne rfl) hlt]; exact h1, h2⟩
  | .mapIter none _ _ _, hne, ⟨⟨r, h1, h2⟩, h3⟩ => ⟨⟨r, by rw [k.other _ (hne rfl) hlt]; exact h1, h2⟩, h3⟩
  | .mapIter (some _) _ _ _, hne, ⟨⟨r, h1, h2⟩, h3⟩ => ⟨⟨r, by rw [k.other _ (hne rfl) hlt]; exact h1, h2⟩, h3⟩
  | .rmapIter _ _ _, hne, ⟨⟨r, ces, clock, last, h1, h2⟩, h3⟩ => ⟨⟨r, ces, clock, last, by rw [k.other _ (hne rfl) hlt]; exact h1, h2⟩, h3⟩
  | .strIter _ _, hne, ⟨⟨bs, h1, h2⟩, h3⟩ => ⟨⟨bs, by rw [k.other _ (hne rfl) hlt]; exact h1, h2⟩, h3⟩
  | .loop _, hne, ⟨⟨r, h1, h2, h4⟩, h3⟩ => ⟨⟨r, h1, h2, by rw [k.other _ (hne rfl) hlt]; exact h4⟩, h3⟩
  | .shut, hne, ⟨h1, h3⟩ => ⟨by rw [k.other _ (hne rfl) hlt]; exact h1, h3⟩

section
variable {M : Mem} {β : Places} {h : View} {w0 w w' : World}

theorem Sim.base (S : Sim M β h w0 w) : w0.heap.size ≤ w.heap.size := S.below.size

/-- A block that no object owns may turn. -/
theorem Sim.change (S : Sim M β h w0 w) {B : Nat} (k : Keeps M B w w') (hB : w0.heap.size ≤ B) (hno : ∀ b o i, h b = some o → β b = some i → o.owns = true → i.blk ≠ B) : Sim M β h w0 w' where
  below := S.below.trans ⟨k.os, k.tape, k.output, k.size, fun r hr => k.other r (by omega) (by have := S.base; omega)⟩
  mem a c e := k.cells a c e (S.mem a c e)
  memo r o e := k.objs r o e (S.memo r o e)
  maps := S.maps
  sane b i e := Nat.lt_of_lt_of_le (S.sane b i e) k.size
  obj b o e := by
    obtain ⟨i, hi, hb, ho⟩ := S.obj b o e
    exact ⟨i, hi, hb, ho.change k (S.sane b i hi) (hno b o i e hi)⟩
  sep := S.sep

theorem Sim.drop (S : Sim M β h w0 w) (b : Nat) : Sim M β (upd h b none) w0 w where
  below := S.below
  mem := S.mem
  memo := S.memo
  maps := S.maps
  sane := S.sane
  obj x o e := by
    by_cases hx : x = b
    · subst hx; rw [upd_eq] at e; cases e
    · rw [upd_ne _ _ hx] at e; exact S.obj x o e
  sep x y o o' i i' hne e e' := by
    by_cases hx : x = b
    · subst hx; rw [upd_eq] at e; cases e
    · by_cases hy : y = b
      · subst hy; rw [upd_eq] at e'; cases e'
      · rw [upd_ne _ _ hx] at e; rw [upd_ne _ _ hy] at e'; exact S.sep x y o o' i i' hne e e'

theorem Sim.put (S : Sim M β h w0 w) {b : Nat} {i : Place} {o : AObj} (hi : β b = some i) (hb : w0.heap.size ≤ i.blk) (ho : ObjSim M β w i o)
    (hsep : o.owns = true → ∀ b' o' i', b' ≠ b → h b' = some o' → β b' = some i' → o'.owns = true → i'.blk ≠ i.blk) : Sim M β (upd h b (some o)) w0 w where
  below := S.below
  mem := S.mem
  memo := S.memo
  maps := S.maps
  sane := S.sane
  obj x o' e := by
    by_cases hx : x = b
    · subst hx; rw [upd_eq] at e; cases e; exact ⟨i, hi, hb, ho⟩
    · rw [upd_ne _ _ hx] at e; exact S.obj x o' e
  sep x y o1 o2 i1 i2 hne e1 e2 p1 p2 n1 n2 := by
    by_cases hx : x = b
    · subst hx
      rw [upd_eq] at e1; cases e1
      rw [hi] at p1; cases p1
      rw [upd_ne _ _ (Ne.symm hne)] at e2
      exact Ne.symm (hsep n1 y o2 i2 (Ne.symm hne) e2 p2 n2)
    · rw [upd_ne _ _ hx] at e1
      by_cases hy : y = b
      · subst hy
        rw [upd_eq] at e2; cases e2
        rw [hi] at p2; cases p2
        exact hsep n2 x o1 i1 hx e1 p1 n1
      · rw [upd_ne _ _ hy] at e2; exact S.sep x y o1 o2 i1 i2 hne e1 e2 p1 p2 n1 n2

theorem Sim.more (S : Sim M β h w0 w) {β' : Places} (hβ : β.le β') (hs : ∀ b i, β' b = some i → i.blk < w.heap.size) : Sim M β' h w0 w where
  below := S.below
  mem := S.mem
  memo := S.memo
  maps := S.maps
  sane := hs
  obj x o e := by
    obtain ⟨i, hi, hb, ho⟩ := S.obj x o e
    exact ⟨i, hβ _ _ hi, hb, ho.mono hβ⟩
  sep x y o1 o2 i1 i2 hne e1 e2 p1 p2 := by
    obtain ⟨j1, q1, _⟩ := S.obj x o1 e1
    obtain ⟨j2, q2, _⟩ := S.obj y o2 e2
    have a1 := hβ _ _ q1; rw [p1] at a1; cases a1
    have a2 := hβ _ _ q2; rw [p2] at a2; cases a2
    exact S.sep x y o1 o2 i1 i2 hne e1 e2 q1 q2

theorem Sim.none_of (S : Sim M β h w0 w) {b : Nat} (hb : β b = none) : h b = none := by
  cases e : h b with
  | none => rfl
  | some o => obtain ⟨i, hi, _⟩ := S.obj b o e; rw [hb] at hi; cases hi

/-- Places with one more. -/
def Places.set (β : Places) (b : Nat) (i : Place) : Places := fun x => if x = b then some i else β x
theorem Places.set_eq (β : Places) (b : Nat) (i : Place) : β.set b i b = some i := if_pos rfl
theorem Places.set_ne (β : Places) {b x : Nat} (i : Place) (e : x ≠ b) : β.set b i x = β x := if_neg e
theorem Places.le_set (β : Places) {b : Nat} (i : Place) (hb : β b = none) : β.le (β.set b i) := by
  intro x j hx
  by_cases e : x = b
  · subst e; rw [hb] at hx; cases hx
  · rw [Places.set_ne _ _ e]; exact hx

/-- A new object, under a number that nobody has, in a block that nobody owns. -/
theorem Sim.add (S : Sim M β h w0 w) {b : Nat} {i : Place} {o : AObj} (hb : β b = none) (hB : w0.heap.size ≤ i.blk) (hlt : i.blk < w.heap.size) (ho : ObjSim M (β.set b i) w i o)
    (hsep : ∀ b' o' i', h b' = some o' → β b' = some i' → o'.owns = true → i'.blk ≠ i.blk) : Sim M (β.set b i) (upd h b (some o)) w0 w := by
  have S' : Sim M (β.set b i) h w0 w := S.more (β.le_set i hb) (fun x j hx => by
    by_cases e : x = b
    · subst e; rw [Places.set_eq] at hx; cases hx; exact hlt
    · rw [Places.set_ne _ _ e] at hx; exact S.sane x j hx)
  refine S'.put (Places.set_eq _ _ _) hB ho (fun _ b' o' i' hne he hi hown => hsep b' o' i' he ?_ hown)
  rw [Places.set_ne _ _ hne] at hi; exact hi

/-- A new block. -/
theorem Keeps.alloc (o : Go.Obj) : Keeps M w.heap.size w (w.alloc o) where
  os := rfl
  tape := rfl
  output := rfl
  size := by simp
  other r _ hr := Below.heap_alloc _ _ _ hr
  cells a c _ e := by rw [← e]; exact cell?_eq (Below.heap_alloc _ _ _ (lt_of_cell? e))
  objs r o _ e := by rw [← e]; exact Below.heap_alloc _ _ _ (lt_of_get? e)

theorem Sim.alloc (S : Sim M β h w0 w) (o : Go.Obj) : Sim M β h w0 (w.alloc o) :=
  S.change (.alloc o) S.base (fun b _ i _ hi _ => by have := S.sane b i hi; omega)

theorem Sim.drew (S : Sim M β h w0 w) : Sim M β h w0 w.drew where
  below := S.below.drew
  mem := S.mem
  memo := S.memo
  maps := S.maps
  sane := S.sane
  obj b o e := by
    obtain ⟨i, hi, hb, ho⟩ := S.obj b o e
    exact ⟨i, hi, hb, ho.change (B := w.heap.size) (w := w) (w' := w.drew) ⟨rfl, rfl, rfl, Nat.le_refl _, fun _ _ _ => rfl, fun _ _ _ e => e, fun _ _ _ e => e⟩ (S.sane b i hi) (fun _ => by have := S.sane b i hi; omega)⟩
  sep := S.sep
end
end Go.Abs
