/-
  Abs36, AbsJoin, AbsDig, put together in one file.
-/
import Derived.Test.YtfmdgjnjfmgbmaaGreatDoorAbsGh
import Derived.OpenShut
import Derived.LaidMore
import Derived.MakeChecks
import Derived.Lib.Join
/-
  ABS, part 36: listed variables, read: a row of plain data is what the datum says; so a world that meets a row's list is memory that the evaluator's globals tell.
-/
namespace Go.Abs
open Go Go.RowKit
set_option linter.unusedSectionVars false
variable [Syms]

mutual
def DV {H : Type} : DataW H → Option (List V)
  | .lit (.bool b) => some [.bool b]
  | .lit (.int k n) => some [.int k n]
  | .lit (.string bs) => some [.str (bs.map (·.toNat))]
  | .agg ds => DVs ds
  | _ => none
def DVs {H : Type} : List (DataW H) → Option (List V)
  | [] => some []
  | d :: ds => (DV d).bind fun a => (DVs ds).map (a ++ ·)
end

def laysFs (P : Program) (r : TypeId → Bool) : List Field → Nat → Nat → Bool
  | [], o, tot => o == tot
  | f :: fs, o, tot => f.offset == o && r f.type && laysFs P r fs (o + P.cellsOf f.type) tot

/-- A type of plain cells that lie one behind the other. -/
def lays (P : Program) : Nat → TypeId → Bool
  | 0, _ => false
  | n + 1, t => match P.underlying t with
    | some .bool | some (.int _) | some .string => true
    | some (.struct fs) => laysFs P (lays P n) fs.toList 0 (P.cellsOf t)
    | some (.array k e) => lays P n e && P.cellsOf t == k * P.cellsOf e
    | _ => false

section
variable {H : Type} {enc : TypeId × Value → H} {P : Program} {w : World} {base : Nat} {spare : Nat → Bool} {held : Bool} {M : Mem} {β : Places}

theorem DVs_cons {d : DataW H} {ds : List (DataW H)} {vs : List V} (h : DVs (d :: ds) = some vs) : ∃ a b, DV d = some a ∧ DVs ds = some b ∧ vs = a ++ b := by
  simp only [DVs, Option.bind_eq_some_iff, Option.map_eq_some_iff] at h
  obtain ⟨a, ha, b, hb, rfl⟩ := h
  exact ⟨a, b, ha, hb, rfl⟩

theorem drop_split (cs : List Value) (o n : Nat) : cs.drop o = (cs.drop o).take n ++ cs.drop (o + n) := by
  rw [← List.drop_drop]
  exact (List.take_append_drop n _).symm

theorem trod_flat : ∀ (n fuel : Nat) (t : TypeId) (cs : List Value) (d : DataW H) (p : List MemPlace) (vs : List V), lays P n t = true → DataW.trod enc P w base spare held fuel t cs = some (d, p) → DV d = some vs → RelL M β vs cs := by
  intro n
  induction n with
  | zero => intro fuel t cs d p vs h; simp [lays] at h
  | succ n ih =>
    intro fuel t cs d p vs hl ht hd
    simp only [lays] at hl
    split at hl
    · rename_i hu
      obtain ⟨b, rfl, hx⟩ := DataW.trod_bool hu ht
      cases hx
      simp only [DV] at hd
      cases hd
      simp only [RelL, Rel]
      exact ⟨_, _, rfl, rfl, rfl⟩
    · rename_i k hu
      obtain ⟨z, rfl, hx, _⟩ := DataW.trod_int hu ht
      cases hx
      simp only [DV] at hd
      cases hd
      simp only [RelL, Rel]
      exact ⟨_, _, rfl, rfl, rfl⟩
    · rename_i hu
      obtain ⟨s, rfl, hx, _⟩ := DataW.trod_string hu ht
      cases hx
      simp only [DV] at hd
      cases hd
      simp only [RelL, Rel]
      exact ⟨_, _, rfl, ⟨_, rfl, rfl⟩, rfl⟩
    · rename_i fs hu
      obtain ⟨xs, m, rfl, hx, hlen, hxs, hel⟩ := DataW.trod_struct hu ht
      cases hx
      simp only [DV] at hd
      have key : ∀ (l : List Field) (i o : Nat) (ys : List (DataW H × List MemPlace)) (vs : List V), (∀ j f, l[j]? = some f → fs[i + j]? = some f) → l.length = ys.length → (∀ j, ys[j]? = xs[i + j]?) → laysFs P (lays P n) l o (P.cellsOf t) = true → DVs (ys.map (·.1)) = some vs → RelL M β vs (cs.drop o) := by
        intro l
        induction l with
        | nil =>
          intro i o ys vs _ hly _ hlf hv
          simp only [laysFs, beq_iff_eq] at hlf
          have : ys = [] := List.eq_nil_of_length_eq_zero (by simpa using hly.symm)
          subst this
          simp only [List.map_nil, DVs] at hv
          cases hv
          rw [List.drop_of_length_le (by omega)]
          simp only [RelL]
        | cons f l ihl =>
          intro i o ys vs hf hly hys hlf hv
          simp only [laysFs, Bool.and_eq_true, beq_iff_eq] at hlf
          obtain ⟨⟨ho, hlt⟩, hrest⟩ := hlf
          match ys, hly with
          | y :: ys, hly =>
            simp only [List.map_cons] at hv
            obtain ⟨a, b, ha, hb, rfl⟩ := DVs_cons hv
            have h0 := hel i f (by simpa using hf 0 f rfl)
            have hy0 := hys 0
            simp only [List.getElem?_cons_zero, Nat.add_zero] at hy0
            rw [← hy0, ho] at h0
            have r1 := ih m f.type _ y.1 y.2 a hlt h0 ha
            have r2 := ihl (i + 1) (o + P.cellsOf f.type) ys b (fun j f' hj => by have := hf (j + 1) f' (by simpa using hj); rw [show i + 1 + j = i + (j + 1) by omega]; exact this) (by simpa using hly) (fun j => by have := hys (j + 1); rw [show i + 1 + j = i + (j + 1) by omega]; simpa using this) hrest hb
            rw [drop_split cs o (P.cellsOf f.type)]
            exact r1.append r2
      have := key fs.toList 0 0 xs vs (fun j f hj => by simpa using hj) (by simpa using hxs.symm) (fun j => by simp) hl hd
      simpa using this
    · rename_i k e hu
      simp only [Bool.and_eq_true, beq_iff_eq] at hl
      obtain ⟨hle, hsz⟩ := hl
      obtain ⟨xs, m, rfl, hx, hlen, hxs, hel⟩ := DataW.trod_array hu ht
      cases hx
      simp only [DV] at hd
      have key : ∀ (ys : List (DataW H × List MemPlace)) (i : Nat) (vs : List V), i + ys.length = k → (∀ j, ys[j]? = xs[i + j]?) → DVs (ys.map (·.1)) = some vs → RelL M β vs (cs.drop (i * P.cellsOf e)) := by
        intro ys
        induction ys with
        | nil =>
          intro i vs hi _ hv
          simp only [List.map_nil, DVs] at hv
          cases hv
          simp only [List.length_nil, Nat.add_zero] at hi
          rw [List.drop_of_length_le (by rw [hlen, hsz, hi]; exact Nat.le_refl _)]
          simp only [RelL]
        | cons y ys ihy =>
          intro i vs hi hys hv
          simp only [List.map_cons] at hv
          obtain ⟨a, b, ha, hb, rfl⟩ := DVs_cons hv
          simp only [List.length_cons] at hi
          have h0 := hel i (by omega)
          have hy0 := hys 0
          simp only [List.getElem?_cons_zero, Nat.add_zero] at hy0
          rw [← hy0] at h0
          have r1 := ih m e _ y.1 y.2 a hle h0 ha
          have r2 := ihy (i + 1) b (by omega) (fun j => by have := hys (j + 1); rw [show i + 1 + j = i + (j + 1) by omega]; simpa using this) hb
          rw [drop_split cs (i * P.cellsOf e) (P.cellsOf e)]
          rw [Nat.add_mul, Nat.one_mul] at r2
          exact r1.append r2
      have := key xs 0 vs (by simpa using hxs) (fun j => by simp) hd
      simpa using this
    · cases hl
end

mutual
theorem DV_plain {H : Type} : ∀ (d : DataW H) (vs : List V), DV d = some vs → ∀ v ∈ vs, v.imm = true ∧ v.one = true
  | .lit (.bool b), vs, h => by simp only [DV] at h; cases h; simp [V.imm, V.one]
  | .lit (.int k n), vs, h => by simp only [DV] at h; cases h; simp [V.imm, V.one]
  | .lit (.string s), vs, h => by simp only [DV] at h; cases h; simp [V.imm, V.one]
  | .lit (.float _ _), vs, h => by simp only [DV] at h; cases h
  | .lit .nil, vs, h => by simp only [DV] at h; cases h
  | .agg ds, vs, h => DVs_plain ds vs (by simpa only [DV] using h)
  | .nil, vs, h => by simp only [DV] at h; cases h
  | .ptr _, vs, h => by simp only [DV] at h; cases h
  | .slice _ _, vs, h => by simp only [DV] at h; cases h
  | .iface _ _, vs, h => by simp only [DV] at h; cases h
  | .map _, vs, h => by simp only [DV] at h; cases h
  | .held _, vs, h => by simp only [DV] at h; cases h
theorem DVs_plain {H : Type} : ∀ (ds : List (DataW H)) (vs : List V), DVs ds = some vs → ∀ v ∈ vs, v.imm = true ∧ v.one = true
  | [], vs, h => by simp only [DVs] at h; cases h; simp
  | d :: ds, vs, h => by
    obtain ⟨a, b, ha, hb, rfl⟩ := DVs_cons h
    intro v hv
    rcases List.mem_append.1 hv with hv | hv
    · exact DV_plain d a ha v hv
    · exact DVs_plain ds b hb v hv
end

/-- All that lies in a world, as memory. -/
def memOf (w : World) : Mem := ⟨w.cell?, fun _ => none⟩
theorem memOf_ok (w : World) : MemOk (memOf w) w := ⟨fun _ _ h => h, (fun _ _ h => by cases h), (fun _ _ h => by cases h)⟩

theorem RelL.row {M : Mem} {β : Places} {vs : List V} {cs : List Value} {g : Nat} (h : RelL M β vs cs) (hp : ∀ v ∈ vs, v.imm = true ∧ v.one = true) (hc : ∀ k c, cs[k]? = some c → M.c ⟨g, k, none⟩ = some c) : RelRow M β vs g 0 :=
  RelRow.of_get fun {k} {v} hk => by
    obtain ⟨c, hck, hr⟩ := h.get hk
    have := hp v (List.mem_of_getElem? hk)
    exact ⟨c, by rw [Nat.zero_add]; exact hc k c hck, this.1, this.2, hr⟩

/-- A listed variable's row. -/
theorem laid_row {P : Program} {w : World} : ∀ {l : List (String × DataW Unit)} {ps : List MemPlace}, DataW.LaidVars P w l ps → ∀ {x : String × DataW Unit}, x ∈ l → ∀ {g : Nat} {t : TypeId} {n : Nat} {vs : List V}, P.globalNamed x.1 = some g → (P.globals[g]?).map (·.type) = some t → lays P n t = true → DV x.2 = some vs → ∀ β, RelRow (memOf w) β vs g 0
  | [], _, _, x, hx, _, _, _, _, _, _, _, _, _ => by cases hx
  | (m, d) :: r, ps, h, x, hx, g, t, n, vs, hg, ht, hl, hvs, β => by
    obtain ⟨g', t', cs, fuel, p, q, hg', ht', hv, hd, hr, _⟩ := h
    rcases List.mem_cons.1 hx with rfl | hx
    · obtain rfl := Option.some.inj (hg'.symm.trans hg)
      obtain rfl := Option.some.inj (ht'.symm.trans ht)
      refine (trod_flat (M := memOf w) (β := β) n fuel t' cs.toList d p vs hl hd hvs).row (DV_plain d vs hvs) fun k c hk => ?_
      show w.cell? ⟨g', k, none⟩ = some c
      rw [World.var?_cell hg' hv k]
      simpa using hk
    · exact laid_row hr hx hg ht hl hvs β

/-- A function's answer, as a call. -/
theorem calls_of_pure {P : Program} {gl : Nat → Option (List V)} {f : FuncId} {F : List V → Option V} (hp : PureSpec P gl f F) (hf : FnOk P f) {w : World} (G : Globs gl (memOf w)) {args : List V} {cargs : List Value} (hi : V.imm.imms args = true) (R : RelL (memOf w) nowhere args cargs)
    {r : V} (hr : F args = some r) : Calls P f cargs.toArray w fun e w' => ∃ c, e = .returned c ∧ Below w.heap.size w w' ∧ ∃ M, Rel M nowhere r c := by
  obtain ⟨fn, hfn, hbody, hname⟩ := hf
  rcases hp (memOf w) args cargs r w G (memOf_ok w) hi R hr with ⟨_, hc⟩ | ⟨c, w', hv, _⟩
  · refine hc.mono ?_
    rintro e w' ⟨M', c, rfl, _, _, _, hb, _, hrel⟩
    exact ⟨c, rfl, hb, M', hrel⟩
  · have hex : (callFunc f cargs.toArray).run P w = .ok (.enter f cargs.toArray) w := by
      simp only [Sem.run_bind, Result.andThen_ok, callFunc, run_program, hfn, hname, hbody, Bool.false_eq_true, if_false, Sem.run_pure]
    rw [hex] at hv
    cases hv
end Go.Abs

/-
  ABS: strings.Join, told on values; the program is a variable, the walk is the shelf's.
-/
namespace Go.Abs
open Go Go.RowKit
set_option linter.unusedSectionVars false
variable [Syms]

/-- Elements with a separator between. -/
noncomputable def joinB (sep : List Nat) (l : List (List Nat)) : List Nat := List.rec [] (fun a r _ => a ++ (r.map (sep ++ ·)).flatten) l

noncomputable def strsOf (l : List V) : Option (List (List Nat)) := List.rec (some []) (fun v _ ih => match v with
  | .str s => ih.map (s :: ·)
  | _ => none) l

/-- The same of texts with digits that aren't known. -/
noncomputable def strsW (l : List V) : Option (List (List Nat)) := List.rec (some []) (fun v _ ih => match v with
  | .str s => ih.map (s :: ·)
  | .sstr s => ih.map (s :: ·)
  | _ => none) l

noncomputable def joinF : List V → Option V
  | [.nilSlice, .str _] => some (.str [])
  | [.rslice row off len _, .str sep] => match strsOf ((row.drop off).take len) with
    | some l => if Nat.beq l.length len && Nat.ble len 1000000 && Nat.ble (joinB sep l).length 1000000 then some (.str (joinB sep l)) else none
    | none => match strsW ((row.drop off).take len) with
      | some l => if Nat.beq l.length len && Nat.ble len 1000000 && Nat.ble (joinB sep l).length 1000000 then some (.sstr (joinB sep l)) else none
      | none => none
  | _ => none

theorem joinB_map (xs : List (List UInt8)) (sep : List UInt8) : (Lib.join xs sep).map (·.toNat) = joinB (sep.map (·.toNat)) (xs.map (·.map (·.toNat))) := by
  cases xs with
  | nil => rfl
  | cons x r =>
    rw [Lib.join_cons]
    simp only [joinB, Lib.joinTail, List.map_cons, List.map_append, List.map_flatten, List.map_map]
    congr 3
    funext y
    simp

theorem strsOf_cons {v : V} {vs : List V} {l : List (List Nat)} (h : strsOf (v :: vs) = some l) : ∃ s r, v = .str s ∧ strsOf vs = some r ∧ l = s :: r := by
  cases v with
  | str s =>
    have h' : (strsOf vs).map (s :: ·) = some l := h
    simp only [Option.map_eq_some_iff] at h'
    obtain ⟨r, hr, rfl⟩ := h'
    exact ⟨s, r, rfl, hr, rfl⟩
  | _ => exact nomatch (show (none : Option (List (List Nat))) = some l from h)

theorem strs_cells {M : Mem} {β : Places} {B : Nat} : ∀ (vs : List V) (l : List (List Nat)) (O : Nat), strsOf vs = some l → RelRow M β vs B O → ∃ xs : List ByteArray, xs.map bytesOf = l ∧ ∀ (j : Nat) x, xs[j]? = some x → M.c ⟨B, O + j, none⟩ = some (.string x)
  | [], l, O, h, _ => by cases h; exact ⟨[], rfl, fun j x h => by simp at h⟩
  | v :: vs, l, O, h, hr => by
    obtain ⟨s, r, rfl, h1, rfl⟩ := strsOf_cons h
    simp only [RelRow] at hr
    obtain ⟨⟨c, hc, _, _, hrel⟩, ht⟩ := hr
    simp only [Rel] at hrel
    obtain ⟨b, rfl, hb⟩ := hrel
    obtain ⟨xs, hx, hcells⟩ := strs_cells vs r (O + 1) h1 ht
    refine ⟨b :: xs, by rw [List.map_cons, hx, hb], fun j x hj => ?_⟩
    cases j with
    | zero => simp at hj; subst hj; exact hc
    | succ j =>
      simp at hj
      have := hcells j x hj
      rw [show O + 1 + j = O + (j + 1) by omega] at this
      exact this

theorem strsW_cons {v : V} {vs : List V} {l : List (List Nat)} (h : strsW (v :: vs) = some l) : ∃ s r, (v = .str s ∨ v = .sstr s) ∧ strsW vs = some r ∧ l = s :: r := by
  cases v with
  | str s =>
    have h' : (strsW vs).map (s :: ·) = some l := h
    simp only [Option.map_eq_some_iff] at h'
    obtain ⟨r, hr, rfl⟩ := h'
    exact ⟨s, r, .inl rfl, hr, rfl⟩
  | sstr s =>
    have h' : (strsW vs).map (s :: ·) = some l := h
    simp only [Option.map_eq_some_iff] at h'
    obtain ⟨r, hr, rfl⟩ := h'
    exact ⟨s, r, .inr rfl, hr, rfl⟩
  | _ => exact nomatch (show (none : Option (List (List Nat))) = some l from h)

def WildL : List (List Nat) → List (List Nat) → Prop
  | [], t => t = []
  | c :: l, t => ∃ d r, t = d :: r ∧ Wild c d ∧ WildL l r

theorem WildL.length : ∀ {l t : List (List Nat)}, WildL l t → t.length = l.length
  | [], _, h => by cases h; rfl
  | _ :: _, _, ⟨_, _, rfl, _, h⟩ => by simp [h.length]

theorem WildL.join (sep : List Nat) {l t : List (List Nat)} (h : WildL l t) : Wild (joinB sep l) (joinB sep t) := by
  have flat : ∀ {l t : List (List Nat)}, WildL l t → Wild ((l.map (sep ++ ·)).flatten) ((t.map (sep ++ ·)).flatten) := by
    intro l
    induction l with
    | nil => intro t h; cases h; exact rfl
    | cons c l ih =>
      intro t h
      obtain ⟨d, r, rfl, h1, h2⟩ := h
      simp only [List.map_cons, List.flatten_cons]
      exact ((Wild.refl sep).append h1).append (ih h2)
  cases l with
  | nil => cases h; exact rfl
  | cons c l =>
    obtain ⟨d, r, rfl, h1, h2⟩ := h
    exact h1.append (flat h2)

theorem strsW_cells {M : Mem} {β : Places} {B : Nat} : ∀ (vs : List V) (l : List (List Nat)) (O : Nat), strsW vs = some l → RelRow M β vs B O → ∃ xs : List ByteArray, WildL l (xs.map bytesOf) ∧ ∀ (j : Nat) x, xs[j]? = some x → M.c ⟨B, O + j, none⟩ = some (.string x)
  | [], l, O, h, _ => by cases h; exact ⟨[], rfl, fun j x h => by simp at h⟩
  | v :: vs, l, O, h, hr => by
    obtain ⟨s, r, hv, h1, rfl⟩ := strsW_cons h
    simp only [RelRow] at hr
    obtain ⟨⟨c, hc, _, _, hrel⟩, ht⟩ := hr
    have hw : ∃ b, c = .string b ∧ Wild s (bytesOf b) := by
      rcases hv with rfl | rfl
      · simp only [Rel] at hrel
        obtain ⟨b, rfl, hb⟩ := hrel
        exact ⟨b, rfl, by rw [hb]; exact Wild.refl _⟩
      · simp only [Rel] at hrel
        exact hrel
    obtain ⟨b, rfl, hb⟩ := hw
    obtain ⟨xs, hx, hcells⟩ := strsW_cells vs r (O + 1) h1 ht
    refine ⟨b :: xs, ⟨_, _, rfl, hb, hx⟩, fun j x hj => ?_⟩
    cases j with
    | zero => simp at hj; subst hj; exact hc
    | succ j =>
      simp at hj
      have := hcells j x hj
      rw [show O + 1 + j = O + (j + 1) by omega] at this
      exact this

theorem relRow_drop {M : Mem} {β : Places} {B : Nat} : ∀ (k : Nat) (l : List V) (O : Nat), RelRow M β l B O → RelRow M β (l.drop k) B (O + k)
  | 0, l, O, h => h
  | k + 1, [], O, h => by simp only [List.drop_nil, RelRow]
  | k + 1, v :: l, O, h => by
    simp only [RelRow] at h
    have := relRow_drop k l (O + 1) h.2
    rw [show O + 1 + k = O + (k + 1) by omega] at this
    exact this
theorem relRow_take {M : Mem} {β : Places} {B : Nat} : ∀ (k : Nat) (l : List V) (O : Nat), RelRow M β l B O → RelRow M β (l.take k) B O
  | 0, l, O, h => by simp only [List.take_zero, RelRow]
  | k + 1, [], O, h => by simp only [List.take_nil, RelRow]
  | k + 1, v :: l, O, h => by
    simp only [RelRow, List.take_succ_cons] at h ⊢
    exact ⟨h.1, relRow_take k l (O + 1) h.2⟩

theorem PureSpec.join {P : Program} {gl : Nat → Option (List V)} {f : FuncId} (hfn : FnOk P f)
    (h0 : ∀ (a : Option Addr) (c : Nat) (sep : ByteArray) (w : World), Calls P f #[.slice a 0 c, .string sep] w fun e w' => e = .returned (.string ⟨#[]⟩) ∧ w' = w)
    (h1 : ∀ (bk o c : Nat) (xs : List ByteArray) (sep : ByteArray) (w : World), (∀ (j : Nat) x, xs[j]? = some x → w.cell? ⟨bk, o + j, none⟩ = some (.string x)) → bk < w.heap.size → xs.length ≤ 140737488355328 → xs.length ≤ c →
      (Lib.join (xs.map (·.data.toList)) sep.data.toList).length ≤ 140737488355328 →
      Calls P f #[.slice (some ⟨bk, o, none⟩) xs.length c, .string sep] w fun e w' => e = .returned (.string ⟨(Lib.join (xs.map (·.data.toList)) sep.data.toList).toArray⟩) ∧ Below w.heap.size w w') : PureSpec P gl f joinF := by
  intro M args cargs r w G hok himm R hr
  have core : ∀ (B O off n len : Nat) (a : Addr) (xs : List ByteArray) (sep : ByteArray) (r : V), xs.length = len → len ≤ n → len ≤ 1000000 → (n ≠ 0 → a = ⟨B, O + off, none⟩) →
      (∀ (j : Nat) x, xs[j]? = some x → M.c ⟨B, O + off + j, none⟩ = some (.string x)) → (joinB (bytesOf sep) (xs.map bytesOf)).length ≤ 1000000 → r.imm = true →
      (∀ s : ByteArray, bytesOf s = joinB (bytesOf sep) (xs.map bytesOf) → Rel M nowhere r (.string s)) →
      OpCall P f [Value.slice (some a) len n, .string sep].toArray w fun e w' => ∃ M' c, e = .returned c ∧ M.le M' ∧ M.above w.heap.size M' ∧ MemOk M' w' ∧ Below w.heap.size w w' ∧ r.imm = true ∧ Rel M' nowhere r c := by
    intro B O off n len a xs sep r hlen hn k2 ha hcells k3 himm' hrel
    have hj : (Lib.join (xs.map (·.data.toList)) sep.data.toList).map (·.toNat) = joinB (bytesOf sep) (xs.map bytesOf) := by
      rw [joinB_map]
      simp only [List.map_map]
      rfl
    have hjl : (Lib.join (xs.map (·.data.toList)) sep.data.toList).length ≤ 140737488355328 := by
      have := congrArg List.length hj
      rw [List.length_map] at this
      omega
    by_cases hz : len = 0
    · subst hz
      have hx0 : xs = [] := List.eq_nil_of_length_eq_zero hlen
      subst hx0
      refine .inl ⟨hfn, (h0 (some a) n sep w).mono ?_⟩
      rintro e w' ⟨rfl, rfl⟩
      exact ⟨M, _, rfl, .refl M, .refl _ M, hok, .refl _ _, himm', hrel _ rfl⟩
    · have ha := ha (by omega)
      subst ha
      have hc : ∀ (j : Nat) x, xs[j]? = some x → w.cell? ⟨B, O + off + j, none⟩ = some (.string x) := fun j x hj => hok.mem _ _ (hcells j x hj)
      have hB : B < w.heap.size := by
        cases xs with
        | nil => simp at hlen; omega
        | cons x xs => exact lt_of_cell? (hc 0 x rfl)
      have := h1 B (O + off) n xs sep w hc hB (by omega) (by omega) hjl
      rw [hlen] at this
      refine .inl ⟨hfn, this.mono ?_⟩
      rintro e w' ⟨rfl, hb⟩
      exact ⟨M, _, rfl, .refl M, .refl _ M, hok.below hb, hb, himm', hrel _ (by rw [← hj]; simp [bytesOf])⟩
  unfold joinF at hr
  split at hr
  · rename_i s
    cases hr
    simp only [RelL, Rel] at R
    obtain ⟨c1, cs1, rfl, rfl, c2, cs2, rfl, ⟨sep, rfl, _⟩, rfl⟩ := R
    refine .inl ⟨hfn, (h0 none 0 sep w).mono ?_⟩
    rintro e w' ⟨rfl, rfl⟩
    refine ⟨M, _, rfl, .refl M, .refl _ M, hok, .refl _ _, rfl, ?_⟩
    simp only [Rel]
    exact ⟨_, rfl, rfl⟩
  · rename_i row off len cap s
    simp only [RelL, Rel] at R
    obtain ⟨c1, cs1, rfl, ⟨B, O, n, hrow, hn, _, a, rfl, ha⟩, c2, cs2, rfl, ⟨sep, rfl, hsep⟩, rfl⟩ := R
    have hrow' := relRow_take len _ _ (relRow_drop off row O hrow)
    split at hr
    · rename_i l hl
      split at hr
      · rename_i hcond
        cases hr
        simp only [Bool.and_eq_true] at hcond
        obtain ⟨⟨k1, k2⟩, k3⟩ := hcond
        have k1 := Nat.eq_of_beq_eq_true k1
        have k2 := Nat.le_of_ble_eq_true k2
        have k3 := Nat.le_of_ble_eq_true k3
        obtain ⟨xs, hxs, hcells⟩ := strs_cells _ _ _ hl hrow'
        subst hsep hxs
        refine core B O off n len a xs sep _ (by rw [← k1, List.length_map]) hn k2 ha hcells k3 rfl fun s hs => ?_
        simp only [Rel]
        exact ⟨_, rfl, hs⟩
      · cases hr
    · split at hr
      · rename_i l hl
        split at hr
        · rename_i hcond
          cases hr
          simp only [Bool.and_eq_true] at hcond
          obtain ⟨⟨k1, k2⟩, k3⟩ := hcond
          have k1 := Nat.eq_of_beq_eq_true k1
          have k2 := Nat.le_of_ble_eq_true k2
          have k3 := Nat.le_of_ble_eq_true k3
          obtain ⟨xs, hxs, hcells⟩ := strsW_cells _ _ _ hl hrow'
          subst hsep
          have hjw := WildL.join (bytesOf sep) hxs
          have hl1 := hjw.length
          have hl2 := hxs.length
          rw [List.length_map] at hl2
          refine core B O off n len a xs sep _ (by omega) hn k2 ha hcells (by omega) rfl fun s hs => ?_
          simp only [Rel]
          exact ⟨_, rfl, by rw [hs]; exact hjw⟩
        · cases hr
      · cases hr
  · cases hr

theorem ctx_clone {P : Program} {g : Nat → Option (List V)} {fns : FuncId → Option AFn} {s : List (Nat × (List V → Option V))} {k : Nat} (h1 : ∀ f afn, fns f = some afn → ∃ fn, P.funcs[f]? = some fn ∧ cFunc P g fn = some afn ∧ (fn.name == "runtime.NumGoroutine") = false)
    (h2 : ∀ p ∈ s, PureSpec P g p.1 p.2) (h3 : ∀ args w, (callFunc k args).run P w = ((Extern.MapsClone.clone args).run P w).andThen fun v w' => .ok (.value v) w') : CtxOk P g { fn := fns, sum := (T.ofList s).getR, clone := Nat.beq k } :=
  { fn := h1, sum := fun _ _ h => h2 _ (T.ofList_mem s h), clone := fun f h args w => by
      have := Nat.eq_of_beq_eq_true h
      subst this
      exact h3 args w }
end Go.Abs

/-
  ABS: numbers below a hundred as texts, told on values: known ones, and ones of which only the bounds are known.
-/
namespace Go.Abs
open Go Go.RowKit
set_option linter.unusedSectionVars false
variable [Syms]

def digN (n : Nat) : List Nat := if n < 10 then [48 + n] else [48 + n / 10, 48 + n % 10]

def digC : List V → Option V
  | [.int .u64 n] => if 0 ≤ n ∧ n < 100 then some (.str (digN n.toNat)) else none
  | _ => none

def digF : List V → Option V
  | [.sym (.num .u64 _ lo hi _)] => if 1 ≤ lo ∧ hi ≤ 9 then some (.sstr [256]) else if 10 ≤ lo ∧ hi ≤ 99 then some (.sstr [256, 256]) else none
  | args => digC args

theorem wild_digit {d : Nat} (h0 : 48 ≤ d) (h1 : d ≤ 57) : ∀ {l s : List Nat}, Wild l s → Wild (256 :: l) (d :: s) := fun h => ⟨d, _, rfl, .inr ⟨rfl, h0, h1⟩, h⟩

theorem PureSpec.digits {P : Program} {gl : Nat → Option (List V)} {f : FuncId} (h : PureSpec P gl f digC) : PureSpec P gl f digF := by
  intro M args cargs r w G hok himm R hr
  unfold digF at hr
  split at hr
  · rename_i p lo hi fs
    simp only [RelL, Rel] at R
    obtain ⟨c1, cs1, rfl, ⟨n, rfl, hn, h1, h2, _⟩, rfl⟩ := R
    have hb : 0 ≤ n ∧ n < 100 ∧ r.imm = true ∧ ∀ (M' : Mem) s, bytesOf s = digN n.toNat → Rel M' nowhere r (.string s) := by
      split at hr
      · cases hr
        refine ⟨by omega, by omega, rfl, fun M' s hs => ?_⟩
        simp only [Rel]
        refine ⟨s, rfl, ?_⟩
        rw [hs]
        unfold digN
        rw [if_pos (by omega)]
        exact wild_digit (by omega) (by omega) rfl
      · split at hr
        · cases hr
          refine ⟨by omega, by omega, rfl, fun M' s hs => ?_⟩
          simp only [Rel]
          refine ⟨s, rfl, ?_⟩
          rw [hs]
          unfold digN
          rw [if_neg (by omega)]
          exact wild_digit (by omega) (by omega) (wild_digit (by omega) (by omega) rfl)
        · cases hr
    obtain ⟨h0, h100, hi', hrel⟩ := hb
    have hd := h M [.int .u64 n] [.int .u64 n] (.str (digN n.toNat)) w G hok rfl (by simp only [RelL, Rel]; exact ⟨_, _, rfl, rfl, rfl⟩) (by simp [digC, h0, h100])
    refine hd.mono ?_
    rintro e w' ⟨M', c, e1, e2, e3, e4, e5, _, e7⟩
    simp only [Rel] at e7
    obtain ⟨s, rfl, hs⟩ := e7
    exact ⟨M', _, e1, e2, e3, e4, e5, hi', hrel M' s hs⟩
  · exact h M _ cargs r w G hok himm R hr
end Go.Abs
