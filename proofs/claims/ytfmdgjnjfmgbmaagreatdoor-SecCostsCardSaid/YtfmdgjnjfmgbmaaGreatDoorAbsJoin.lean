/-
  ABS: strings.Join, told on values; the program is a variable, the walk is the shelf's.
-/
import Derived.Test.YtfmdgjnjfmgbmaaGreatDoorAbs34
import Derived.Lib.Join
namespace Go.Abs
open Go Go.RowKit
set_option linter.unusedSectionVars false
variable [Syms]

/-- Elements with a separator between. -/
noncomputable def joinB (sep : List Nat) (l : List (List Nat)) : List Nat := List.rec [] (fun a r _ => a ++ (r.map (sep ++ ·)).flatten) l

noncomputable def strsOf (l : List V) : Option (List (List Nat)) := List.rec (some []) (fun v _ ih => match v with
  | .str s => ih.map (s :: ·)
  | _ => none) l

/-- The same of texts with digits that aren't known. -/
noncomputable def strsW (l : List V) : Option (List (List Nat)) := List.rec (some []) (fun v _ ih => match v with
  | .str s => ih.map (s :: ·)
  | .sstr s => ih.map (s :: ·)
  | _ => none) l

noncomputable def joinF : List V → Option V
  | [.nilSlice, .str _] => some (.str [])
  | [.rslice row off len _, .str sep] => match strsOf ((row.drop off).take len) with
    | some l => if Nat.beq l.length len && Nat.ble len 1000000 && Nat.ble (joinB sep l).length 1000000 then some (.str (joinB sep l)) else none
    | none => match strsW ((row.drop off).take len) with
      | some l => if Nat.beq l.length len && Nat.ble len 1000000 && Nat.ble (joinB sep l).length 1000000 then some (.sstr (joinB sep l)) else none
      | none => none
  | _ => none

theorem joinB_map (xs : List (List UInt8)) (sep : List UInt8) : (Lib.join xs sep).map (·.toNat) = joinB (sep.map (·.toNat)) (xs.map (·.map (·.toNat))) := by
  cases xs with
  | nil => rfl
  | cons x r =>
    rw [Lib.join_cons]
    simp only [joinB, Lib.joinTail, List.map_cons, List.map_append, List.map_flatten, List.map_map]
    congr 3
    funext y
    simp

theorem strsOf_cons {v : V} {vs : List V} {l : List (List Nat)} (h : strsOf (v :: vs) = some l) : ∃ s r, v = .str s ∧ strsOf vs = some r ∧ l = s :: r := by
  cases v with
  | str s =>
    have h' : (strsOf vs).map (s :: ·) = some l := h
    simp only [Option.map_eq_some_iff] at h'
    obtain ⟨r, hr, rfl⟩ := h'
    exact ⟨s, r, rfl, hr, rfl⟩
  | _ => exact nomatch (show (none : Option (List (List Nat))) = some l from h)

theorem strs_cells {M : Mem} {β : Places} {B : Nat} : ∀ (vs : List V) (l : List (List Nat)) (O : Nat), strsOf vs = some l → RelRow M β vs B O → ∃ xs : List ByteArray, xs.map bytesOf = l ∧ ∀ (j : Nat) x, xs[j]? = some x → M.c ⟨B, O + j, none⟩ = some (.string x)
  | [], l, O, h, _ => by cases h; exact ⟨[], rfl, fun j x h => by simp at h⟩
  | v :: vs, l, O, h, hr => by
    obtain ⟨s, r, rfl, h1, rfl⟩ := strsOf_cons h
    simp only [RelRow] at hr
    obtain ⟨⟨c, hc, _, _, hrel⟩, ht⟩ := hr
    simp only [Rel] at hrel
    obtain ⟨b, rfl, hb⟩ := hrel
    obtain ⟨xs, hx, hcells⟩ := strs_cells vs r (O + 1) h1 ht
    refine ⟨b :: xs, by rw [List.map_cons, hx, hb], fun j x hj => ?_⟩
    cases j with
    | zero => simp at hj; subst hj; exact hc
    | succ j =>
      simp at hj
      have := hcells j x hj
      rw [show O + 1 + j = O + (j + 1) by omega] at this
      exact this

theorem strsW_cons {v : V} {vs : List V} {l : List (List Nat)} (h : strsW (v :: vs) = some l) : ∃ s r, (v = .str s ∨ v = .sstr s) ∧ strsW vs = some r ∧ l = s :: r := by
  cases v with
  | str s =>
    have h' : (strsW vs).map (s :: ·) = some l := h
    simp only [Option.map_eq_some_iff] at h'
    obtain ⟨r, hr, rfl⟩ := h'
    exact ⟨s, r, .inl rfl, hr, rfl⟩
  | sstr s =>
    have h' : (strsW vs).map (s :: ·) = some l := h
    simp only [Option.map_eq_some_iff] at h'
    obtain ⟨r, hr, rfl⟩ := h'
    exact ⟨s, r, .inr rfl, hr, rfl⟩
  | _ => exact nomatch (show (none : Option (List (List Nat))) = some l from h)

def WildL : List (List Nat) → List (List Nat) → Prop
  | [], t => t = []
  | c :: l, t => ∃ d r, t = d :: r ∧ Wild c d ∧ WildL l r

theorem WildL.length : ∀ {l t : List (List Nat)}, WildL l t → t.length = l.length
  | [], _, h => by cases h; rfl
  | _ :: _, _, ⟨_, _, rfl, _, h⟩ => by simp [h.length]

theorem WildL.join (sep : List Nat) {l t : List (List Nat)} (h : WildL l t) : Wild (joinB sep l) (joinB sep t) := by
  have flat : ∀ {l t : List (List Nat)}, WildL l t → Wild ((l.map (sep ++ ·)).flatten) ((t.map (sep ++ ·)).flatten) := by
    intro l
    induction l with
    | nil => intro t h; cases h; exact rfl
    | cons c l ih =>
      intro t h
      obtain ⟨d, r, rfl, h1, h2⟩ := h
      simp only [List.map_cons, List.flatten_cons]
      exact ((Wild.refl sep).append h1).append (ih h2)
  cases l with
  | nil => cases h; exact rfl
  | cons c l =>
    obtain ⟨d, r, rfl, h1, h2⟩ := h
    exact h1.append (flat h2)

theorem strsW_cells {M : Mem} {β : Places} {B : Nat} : ∀ (vs : List V) (l : List (List Nat)) (O : Nat), strsW vs = some l → RelRow M β vs B O → ∃ xs : List ByteArray, WildL l (xs.map bytesOf) ∧ ∀ (j : Nat) x, xs[j]? = some x → M.c ⟨B, O + j, none⟩ = some (.string x)
  | [], l, O, h, _ => by cases h; exact ⟨[], rfl, fun j x h => by simp at h⟩
  | v :: vs, l, O, h, hr => by
    obtain ⟨s, r, hv, h1, rfl⟩ := strsW_cons h
    simp only [RelRow] at hr
    obtain ⟨⟨c, hc, _, _, hrel⟩, ht⟩ := hr
    have hw : ∃ b, c = .string b ∧ Wild s (bytesOf b) := by
      rcases hv with rfl | rfl
      · simp only [Rel] at hrel
        obtain ⟨b, rfl, hb⟩ := hrel
        exact ⟨b, rfl, by rw [hb]; exact Wild.refl _⟩
      · simp only [Rel] at hrel
        exact hrel
    obtain ⟨b, rfl, hb⟩ := hw
    obtain ⟨xs, hx, hcells⟩ := strsW_cells vs r (O + 1) h1 ht
    refine ⟨b :: xs, ⟨_, _, rfl, hb, hx⟩, fun j x hj => ?_⟩
    cases j with
    | zero => simp at hj; subst hj; exact hc
    | succ j =>
      simp at hj
      have := hcells j x hj
      rw [show O + 1 + j = O + (j + 1) by omega] at this
      exact this

theorem relRow_drop {M : Mem} {β : Places} {B : Nat} : ∀ (k : Nat) (l : List V) (O : Nat), RelRow M β l B O → RelRow M β (l.drop k) B (O + k)
  | 0, l, O, h => h
  | k + 1, [], O, h => by simp only [List.drop_nil, RelRow]
  | k + 1, v :: l, O, h => by
    simp only [RelRow] at h
    have := relRow_drop k l (O + 1) h.2
    rw [show O + 1 + k = O + (k + 1) by omega] at this
    exact this
theorem relRow_take {M : Mem} {β : Places} {B : Nat} : ∀ (k : Nat) (l : List V) (O : Nat), RelRow M β l B O → RelRow M β (l.take k) B O
  | 0, l, O, h => by simp only [List.take_zero, RelRow]
  | k + 1, [], O, h => by simp only [List.take_nil, RelRow]
  | k + 1, v :: l, O, h => by
    simp only [RelRow, List.take_succ_cons] at h ⊢
    exact ⟨h.1, relRow_take k l (O + 1) h.2⟩

theorem PureSpec.join {P : Program} {gl : Nat → Option (List V)} {f : FuncId} (hfn : FnOk P f)
    (h0 : ∀ (a : Option Addr) (c : Nat) (sep : ByteArray) (w : World), Calls P f #[.slice a 0 c, .string sep] w fun e w' => e = .returned (.string ⟨#[]⟩) ∧ w' = w)
    (h1 : ∀ (bk o c : Nat) (xs : List ByteArray) (sep : ByteArray) (w : World), (∀ (j : Nat) x, xs[j]? = some x → w.cell? ⟨bk, o + j, none⟩ = some (.string x)) → bk < w.heap.size → xs.length ≤ 140737488355328 → xs.length ≤ c →
      (Lib.join (xs.map (·.data.toList)) sep.data.toList).length ≤ 140737488355328 →
      Calls P f #[.slice (some ⟨bk, o, none⟩) xs.length c, .string sep] w fun e w' => e = .returned (.string ⟨(Lib.join (xs.map (·.data.toList)) sep.data.toList).toArray⟩) ∧ Below w.heap.size w w') : PureSpec P gl f joinF := by
  intro M args cargs r w G hok himm R hr
  have core : ∀ (B O off n len : Nat) (a : Addr) (xs : List ByteArray) (sep : ByteArray) (r : V), xs.length = len → len ≤ n → len ≤ 1000000 → (n ≠ 0 → a = ⟨B, O + off, none⟩) →
      (∀ (j : Nat) x, xs[j]? = some x → M.c ⟨B, O + off + j, none⟩ = some (.string x)) → (joinB (bytesOf sep) (xs.map bytesOf)).length ≤ 1000000 → r.imm = true →
      (∀ s : ByteArray, bytesOf s = joinB (bytesOf sep) (xs.map bytesOf) → Rel M nowhere r (.string s)) →
      OpCall P f [Value.slice (some a) len n, .string sep].toArray w fun e w' => ∃ M' c, e = .returned c ∧ M.le M' ∧ M.above w.heap.size M' ∧ MemOk M' w' ∧ Below w.heap.size w w' ∧ r.imm = true ∧ Rel M' nowhere r c := by
    intro B O off n len a xs sep r hlen hn k2 ha hcells k3 himm' hrel
    have hj : (Lib.join (xs.map (·.data.toList)) sep.data.toList).map (·.toNat) = joinB (bytesOf sep) (xs.map bytesOf) := by
      rw [joinB_map]
      simp only [List.map_map]
      rfl
    have hjl : (Lib.join (xs.map (·.data.toList)) sep.data.toList).length ≤ 140737488355328 := by
      have := congrArg List.length hj
      rw [List.length_map] at this
      omega
    by_cases hz : len = 0
    · subst hz
      have hx0 : xs = [] := List.eq_nil_of_length_eq_zero hlen
      subst hx0
      refine .inl ⟨hfn, (h0 (some a) n sep w).mono ?_⟩
      rintro e w' ⟨rfl, rfl⟩
      exact ⟨M, _, rfl, .refl M, .refl _ M, hok, .refl _ _, himm', hrel _ rfl⟩
    · have ha := ha (by omega)
      subst ha
      have hc : ∀ (j : Nat) x, xs[j]? = some x → w.cell? ⟨B, O + off + j, none⟩ = some (.string x) := fun j x hj => hok.mem _ _ (hcells j x hj)
      have hB : B < w.heap.size := by
        cases xs with
        | nil => simp at hlen; omega
        | cons x xs => exact lt_of_cell? (hc 0 x rfl)
      have := h1 B (O + off) n xs sep w hc hB (by omega) (by omega) hjl
      rw [hlen] at this
      refine .inl ⟨hfn, this.mono ?_⟩
      rintro e w' ⟨rfl, hb⟩
      exact ⟨M, _, rfl, .refl M, .refl _ M, hok.below hb, hb, himm', hrel _ (by rw [← hj]; simp [bytesOf])⟩
  unfold joinF at hr
  split at hr
  · rename_i s
    cases hr
    simp only [RelL, Rel] at R
    obtain ⟨c1, cs1, rfl, rfl, c2, cs2, rfl, ⟨sep, rfl, _⟩, rfl⟩ := R
    refine .inl ⟨hfn, (h0 none 0 sep w).mono ?_⟩
    rintro e w' ⟨rfl, rfl⟩
    refine ⟨M, _, rfl, .refl M, .refl _ M, hok, .refl _ _, rfl, ?_⟩
    simp only [Rel]
    exact ⟨_, rfl, rfl⟩
  · rename_i row off len cap s
    simp only [RelL, Rel] at R
    obtain ⟨c1, cs1, rfl, ⟨B, O, n, hrow, hn, _, a, rfl, ha⟩, c2, cs2, rfl, ⟨sep, rfl, hsep⟩, rfl⟩ := R
    have hrow' := relRow_take len _ _ (relRow_drop off row O hrow)
    split at hr
    · rename_i l hl
      split at hr
      · rename_i hcond
        cases hr
        simp only [Bool.and_eq_true] at hcond
        obtain ⟨⟨k1, k2⟩, k3⟩ := hcond
        have k1 := Nat.eq_of_beq_eq_true k1
        have k2 := Nat.le_of_ble_eq_true k2
        have k3 := Nat.le_of_ble_eq_true k3
        obtain ⟨xs, hxs, hcells⟩ := strs_cells _ _ _ hl hrow'
        subst hsep hxs
        refine core B O off n len a xs sep _ (by rw [← k1, List.length_map]) hn k2 ha hcells k3 rfl fun s hs => ?_
        simp only [Rel]
        exact ⟨_, rfl, hs⟩
      · cases hr
    · split at hr
      · rename_i l hl
        split at hr
        · rename_i hcond
          cases hr
          simp only [Bool.and_eq_true] at hcond
          obtain ⟨⟨k1, k2⟩, k3⟩ := hcond
          have k1 := Nat.eq_of_beq_eq_true k1
          have k2 := Nat.le_of_ble_eq_true k2
          have k3 := Nat.le_of_ble_eq_true k3
          obtain ⟨xs, hxs, hcells⟩ := strsW_cells _ _ _ hl hrow'
          subst hsep
          have hjw := WildL.join (bytesOf sep) hxs
          have hl1 := hjw.length
          have hl2 := hxs.length
          rw [List.length_map] at hl2
          refine core B O off n len a xs sep _ (by omega) hn k2 ha hcells (by omega) rfl fun s hs => ?_
          simp only [Rel]
          exact ⟨_, rfl, by rw [hs]; exact hjw⟩
        · cases hr
      · cases hr
  · cases hr

theorem ctx_clone {P : Program} {g : Nat → Option (List V)} {fns : FuncId → Option AFn} {s : List (Nat × (List V → Option V))} {k : Nat} (h1 : ∀ f afn, fns f = some afn → ∃ fn, P.funcs[f]? = some fn ∧ cFunc P g fn = some afn ∧ (fn.name == "runtime.NumGoroutine") = false)
    (h2 : ∀ p ∈ s, PureSpec P g p.1 p.2) (h3 : ∀ args w, (callFunc k args).run P w = ((Extern.MapsClone.clone args).run P w).andThen fun v w' => .ok (.value v) w') : CtxOk P g { fn := fns, sum := (T.ofList s).getR, clone := Nat.beq k } :=
  { fn := h1, sum := fun _ _ h => h2 _ (T.ofList_mem s h), clone := fun f h args w => by
      have := Nat.eq_of_beq_eq_true h
      subst this
      exact h3 args w }
end Go.Abs
