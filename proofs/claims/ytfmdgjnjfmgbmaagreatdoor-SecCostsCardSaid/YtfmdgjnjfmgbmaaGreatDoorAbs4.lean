/-
  ABS, part 4: what an abstract value means in a world: what nobody writes any more (Mem), where the run's own objects lie (the places), and that both tell of the world as it is.
-/
import Derived.Test.YtfmdgjnjfmgbmaaGreatDoorAbs3
import Derived.Below
namespace Go.Abs
open Go Go.RowKit

def bytesOf (s : ByteArray) : List Nat := s.data.toList.map (·.toNat)

/-- Cells and maps that are never written any more. -/
structure Mem where
  c : Addr → Option Value
  o : Nat → Option Go.Obj

def Mem.le (M M' : Mem) : Prop := (∀ a v, M.c a = some v → M'.c a = some v) ∧ ∀ r o, M.o r = some o → M'.o r = some o
theorem Mem.le.refl (M : Mem) : M.le M := ⟨fun _ _ h => h, fun _ _ h => h⟩
theorem Mem.le.trans {A B C : Mem} (h : A.le B) (k : B.le C) : A.le C := ⟨fun a v e => k.1 a v (h.1 a v e), fun a v e => k.2 a v (h.2 a v e)⟩

/-- Where an object lies: its block, its first cell there; an element's cells, how many cells it has, and how many the block has. -/
structure Place where
  blk : Nat
  off : Nat
  esz : Nat
  ext : Nat
  size : Nat
  /-- A loop's record. -/
  lp : Option Go.Loop

abbrev Places := Nat → Option Place
def Places.le (β β' : Places) : Prop := ∀ b i, β b = some i → β' b = some i
theorem Places.le.refl (β : Places) : β.le β := fun _ _ h => h
theorem Places.le.trans {A B C : Places} (h : A.le B) (k : B.le C) : A.le C := fun b i e => k b i (h b i e)

/-- Functions: a loop's own is told by the loop's object. -/
def FnRel (β : Places) : Fn → Fn → Prop
  | .yield b, f => ∃ i, β b = some i ∧ f = .yield i.blk
  | f, f' => f' = f

theorem FnRel.mono {β β' : Places} (hβ : β.le β') : ∀ {f f' : Fn}, FnRel β f f' → FnRel β' f f'
  | .yield _, _, ⟨i, hi, h⟩ => ⟨i, hβ _ _ hi, h⟩
  | .func _, _, h => h
  | .method _, _, h => h
  | .methodOf .., _, h => h
  | .via .., _, h => h

theorem FnRel.plain {β β' : Places} : ∀ {f f' : Fn}, plainFn f = true → FnRel β f f' → FnRel β' f f'
  | .yield _, _, hf, _ => by cases hf
  | .func _, _, _, h => h
  | .method _, _, _, h => h
  | .methodOf .., _, _, h => h
  | .via .., _, _, h => h

theorem FnRel.self (β : Places) : ∀ {f : Fn}, plainFn f = true → FnRel β f f
  | .yield _, hf => by cases hf
  | .func _, _ => rfl
  | .method _, _ => rfl
  | .methodOf .., _ => rfl
  | .via .., _ => rfl

/-- A text with digits that aren't known. -/
def Wild : List Nat → List Nat → Prop
  | [], s => s = []
  | c :: l, s => ∃ d r, s = d :: r ∧ (c = d ∨ c = 256 ∧ 48 ≤ d ∧ d ≤ 57) ∧ Wild l r

theorem Wild.refl : ∀ l, Wild l l
  | [] => rfl
  | c :: l => ⟨c, l, rfl, .inl rfl, Wild.refl l⟩
theorem Wild.length : ∀ {l s : List Nat}, Wild l s → s.length = l.length
  | [], _, h => by cases h; rfl
  | _ :: _, _, ⟨_, _, rfl, _, h⟩ => by simp [h.length]
theorem Wild.append : ∀ {l s l' s' : List Nat}, Wild l s → Wild l' s' → Wild (l ++ l') (s ++ s')
  | [], _, _, _, h, h' => by cases h; exact h'
  | _ :: _, _, _, _, ⟨d, r, rfl, h1, h2⟩, h' => ⟨d, _, rfl, h1, h2.append h'⟩
theorem Wild.get : ∀ {l s : List Nat} (i : Nat), Wild l s → i < l.length → (l.getD i 0 = s.getD i 0 ∨ l.getD i 0 = 256 ∧ 48 ≤ s.getD i 0 ∧ s.getD i 0 ≤ 57)
  | [], _, _, _, h => by simp at h
  | _ :: _, _, 0, ⟨_, _, rfl, h, _⟩, _ => by simpa using h
  | _ :: _, _, i + 1, ⟨_, _, rfl, _, h⟩, hi => by simpa using Wild.get i h (by simpa using hi)
theorem Wild.eq_of_plain : ∀ {l s : List Nat}, Wild l s → l.all (fun c => c != 256) = true → s = l
  | [], _, h, _ => h
  | c :: l, _, ⟨d, r, rfl, h1, h2⟩, h => by
    simp only [List.all_cons, Bool.and_eq_true, bne_iff_ne, ne_eq] at h
    rw [h2.eq_of_plain h.2]
    rcases h1 with rfl | ⟨h3, _⟩
    · rfl
    · exact absurd h3 h.1

set_option linter.unusedSectionVars false
variable [Syms]

mutual
def Rel (M : Mem) (β : Places) : V → Value → Prop
  | .bool b, c => c = .bool b
  | .int k n, c => c = .int k n
  | .str l, c => ∃ s, c = .string s ∧ bytesOf s = l
  | .nilPtr, c => c = .pointer none
  | .ptr b off, c => ∃ i, β b = some i ∧ c = .pointer (some ⟨i.blk, i.off + off, none⟩)
  | .rptr row off, c => ∃ B O, RelRow M β row B O ∧ c = .pointer (some ⟨B, O + off, none⟩)
  | .nilSlice, c => c = .slice none 0 0
  | .slice b off len cap, c => ∃ i n, β b = some i ∧ len ≤ n ∧ (∀ k, cap = some k → k = n) ∧ (cap = none → i.ext ≤ off + n * i.esz) ∧ i.off + off + n * i.esz ≤ i.size ∧
      ∃ a, c = .slice (some a) len n ∧ (n ≠ 0 → a = ⟨i.blk, i.off + off, none⟩)
  | .rslice row off len cap, c => ∃ B O n, RelRow M β row B O ∧ len ≤ n ∧ (∀ k, cap = some k → k = n) ∧ ∃ a, c = .slice (some a) len n ∧ (n ≠ 0 → a = ⟨B, O + off, none⟩)
  | .nilMap, c => c = .map none
  | .map b, c => ∃ i, β b = some i ∧ c = .map (some i.blk)
  | .rmap ks vs, c => ∃ r es clock, c = .map (some r) ∧ M.o r = some (.map es clock) ∧ RelKs M β ks es.toList ∧ RelVs M β vs es.toList ∧ (∀ e ∈ es.toList, e.born < clock) ∧ (es.toList.map (·.born)).Nodup
  | .func fn first captured, c => ∃ fn' a b, FnRel β fn fn' ∧ c = .func fn' a b ∧ RelL M β first a.toList ∧ RelL M β captured b.toList
  | .nilFunc, c => c = .nilFunc
  | .iface t v, c => ∃ d, c = .iface t d ∧ Rel M β v d
  | .nilIface, c => c = .nilIface
  | .agg cs, c => ∃ a, c = .agg a ∧ RelL M β cs a.toList
  | .tuple cs, c => ∃ a, c = .tuple a ∧ RelL M β cs a.toList
  | .sym x, c => ∃ n, c = .int x.kind n ∧ x.Means n
  | .sstr l, c => ∃ s, c = .string s ∧ Wild l (bytesOf s)
/-- A row that is never written any more. -/
def RelRow (M : Mem) (β : Places) : List V → Nat → Nat → Prop
  | [], _, _ => True
  | v :: vs, B, O => (∃ c, M.c ⟨B, O, none⟩ = some c ∧ v.imm = true ∧ v.one = true ∧ Rel M β v c) ∧ RelRow M β vs B (O + 1)
def RelL (M : Mem) (β : Places) : List V → List Value → Prop
  | [], l => l = []
  | v :: vs, l => ∃ c cs, l = c :: cs ∧ Rel M β v c ∧ RelL M β vs cs
def RelKs (M : Mem) (β : Places) : List V → List MapEntry → Prop
  | [], l => l = []
  | v :: vs, l => ∃ c cs, l = c :: cs ∧ v.imm = true ∧ Rel M β v c.key ∧ RelKs M β vs cs
def RelVs (M : Mem) (β : Places) : List V → List MapEntry → Prop
  | [], l => l = []
  | v :: vs, l => ∃ c cs, l = c :: cs ∧ v.imm = true ∧ Rel M β v c.val ∧ RelVs M β vs cs
end

mutual
theorem Rel.mono {M M' : Mem} {β β' : Places} (hM : M.le M') (hβ : β.le β') : ∀ (v : V) (c : Value), Rel M β v c → Rel M' β' v c
  | .bool _, _, h | .int _ _, _, h | .str _, _, h | .nilPtr, _, h | .nilSlice, _, h | .nilMap, _, h | .nilFunc, _, h | .nilIface, _, h | .sym _, _, h | .sstr _, _, h => by simpa only [Rel] using h
  | .ptr b off, c, h => by simp only [Rel] at h ⊢; obtain ⟨i, hi, e⟩ := h; exact ⟨i, hβ _ _ hi, e⟩
  | .rptr row off, c, h => by simp only [Rel] at h ⊢; obtain ⟨B, O, hr, e⟩ := h; exact ⟨B, O, RelRow.mono hM hβ _ _ _ hr, e⟩
  | .slice b off len cap, c, h => by simp only [Rel] at h ⊢; obtain ⟨i, n, hi, r⟩ := h; exact ⟨i, n, hβ _ _ hi, r⟩
  | .rslice row off len cap, c, h => by simp only [Rel] at h ⊢; obtain ⟨B, O, n, hr, r⟩ := h; exact ⟨B, O, n, RelRow.mono hM hβ _ _ _ hr, r⟩
  | .map b, c, h => by simp only [Rel] at h ⊢; obtain ⟨i, hi, e⟩ := h; exact ⟨i, hβ _ _ hi, e⟩
  | .rmap ks vs, c, h => by
    simp only [Rel] at h ⊢
    obtain ⟨r, es, clock, e, ho, hk, hv, hb⟩ := h
    exact ⟨r, es, clock, e, hM.2 _ _ ho, RelKs.mono hM hβ _ _ hk, RelVs.mono hM hβ _ _ hv, hb⟩
  | .func fn a b, c, h => by simp only [Rel] at h ⊢; obtain ⟨f', x, y, hf, e, ha, hb⟩ := h; exact ⟨f', x, y, hf.mono hβ, e, RelL.mono hM hβ _ _ ha, RelL.mono hM hβ _ _ hb⟩
  | .iface t v, c, h => by simp only [Rel] at h ⊢; obtain ⟨d, e, hd⟩ := h; exact ⟨d, e, Rel.mono hM hβ _ _ hd⟩
  | .agg cs, c, h => by simp only [Rel] at h ⊢; obtain ⟨a, e, ha⟩ := h; exact ⟨a, e, RelL.mono hM hβ _ _ ha⟩
  | .tuple cs, c, h => by simp only [Rel] at h ⊢; obtain ⟨a, e, ha⟩ := h; exact ⟨a, e, RelL.mono hM hβ _ _ ha⟩
theorem RelRow.mono {M M' : Mem} {β β' : Places} (hM : M.le M') (hβ : β.le β') : ∀ (l : List V) (B O : Nat), RelRow M β l B O → RelRow M' β' l B O
  | [], _, _, _ => by simp only [RelRow]
  | v :: vs, B, O, h => by
    simp only [RelRow] at h ⊢
    obtain ⟨⟨c, hc, hi, ho, hr⟩, ht⟩ := h
    exact ⟨⟨c, hM.1 _ _ hc, hi, ho, Rel.mono hM hβ _ _ hr⟩, RelRow.mono hM hβ _ _ _ ht⟩
theorem RelL.mono {M M' : Mem} {β β' : Places} (hM : M.le M') (hβ : β.le β') : ∀ (l : List V) (cs : List Value), RelL M β l cs → RelL M' β' l cs
  | [], _, h => by simpa only [RelL] using h
  | v :: vs, l, h => by
    simp only [RelL] at h ⊢
    obtain ⟨c, cs, e, hr, ht⟩ := h
    exact ⟨c, cs, e, Rel.mono hM hβ _ _ hr, RelL.mono hM hβ _ _ ht⟩
theorem RelKs.mono {M M' : Mem} {β β' : Places} (hM : M.le M') (hβ : β.le β') : ∀ (l : List V) (cs : List MapEntry), RelKs M β l cs → RelKs M' β' l cs
  | [], _, h => by simpa only [RelKs] using h
  | v :: vs, l, h => by
    simp only [RelKs] at h ⊢
    obtain ⟨c, cs, e, hi, hr, ht⟩ := h
    exact ⟨c, cs, e, hi, Rel.mono hM hβ _ _ hr, RelKs.mono hM hβ _ _ ht⟩
theorem RelVs.mono {M M' : Mem} {β β' : Places} (hM : M.le M') (hβ : β.le β') : ∀ (l : List V) (cs : List MapEntry), RelVs M β l cs → RelVs M' β' l cs
  | [], _, h => by simpa only [RelVs] using h
  | v :: vs, l, h => by
    simp only [RelVs] at h ⊢
    obtain ⟨c, cs, e, hi, hr, ht⟩ := h
    exact ⟨c, cs, e, hi, Rel.mono hM hβ _ _ hr, RelVs.mono hM hβ _ _ ht⟩
end

end Go.Abs
