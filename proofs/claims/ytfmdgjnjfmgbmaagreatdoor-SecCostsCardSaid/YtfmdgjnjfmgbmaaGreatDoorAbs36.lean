/-
  ABS, part 36: listed variables, read: a row of plain data is what the datum says; so a world that meets a row's list is memory that the evaluator's globals tell.
-/
import Derived.Test.YtfmdgjnjfmgbmaaGreatDoorAbs35
import Derived.OpenShut
import Derived.LaidMore
import Derived.MakeChecks
namespace Go.Abs
open Go Go.RowKit
set_option linter.unusedSectionVars false
variable [Syms]

mutual
def DV {H : Type} : DataW H → Option (List V)
  | .lit (.bool b) => some [.bool b]
  | .lit (.int k n) => some [.int k n]
  | .lit (.string bs) => some [.str (bs.map (·.toNat))]
  | .agg ds => DVs ds
  | _ => none
def DVs {H : Type} : List (DataW H) → Option (List V)
  | [] => some []
  | d :: ds => (DV d).bind fun a => (DVs ds).map (a ++ ·)
end

def laysFs (P : Program) (r : TypeId → Bool) : List Field → Nat → Nat → Bool
  | [], o, tot => o == tot
  | f :: fs, o, tot => f.offset == o && r f.type && laysFs P r fs (o + P.cellsOf f.type) tot

/-- A type of plain cells that lie one behind the other. -/
def lays (P : Program) : Nat → TypeId → Bool
  | 0, _ => false
  | n + 1, t => match P.underlying t with
    | some .bool | some (.int _) | some .string => true
    | some (.struct fs) => laysFs P (lays P n) fs.toList 0 (P.cellsOf t)
    | some (.array k e) => lays P n e && P.cellsOf t == k * P.cellsOf e
    | _ => false

section
variable {H : Type} {enc : TypeId × Value → H} {P : Program} {w : World} {base : Nat} {spare : Nat → Bool} {held : Bool} {M : Mem} {β : Places}

theorem DVs_cons {d : DataW H} {ds : List (DataW H)} {vs : List V} (h : DVs (d :: ds) = some vs) : ∃ a b, DV d = some a ∧ DVs ds = some b ∧ vs = a ++ b := by
  simp only [DVs, Option.bind_eq_some_iff, Option.map_eq_some_iff] at h
  obtain ⟨a, ha, b, hb, rfl⟩ := h
  exact ⟨a, b, ha, hb, rfl⟩

theorem drop_split (cs : List Value) (o n : Nat) : cs.drop o = (cs.drop o).take n ++ cs.drop (o + n) := by
  rw [← List.drop_drop]
  exact (List.take_append_drop n _).symm

theorem trod_flat : ∀ (n fuel : Nat) (t : TypeId) (cs : List Value) (d : DataW H) (p : List MemPlace) (vs : List V), lays P n t = true → DataW.trod enc P w base spare held fuel t cs = some (d, p) → DV d = some vs → RelL M β vs cs := by
  intro n
  induction n with
  | zero => intro fuel t cs d p vs h; simp [lays] at h
  | succ n ih =>
    intro fuel t cs d p vs hl ht hd
    simp only [lays] at hl
    split at hl
    · rename_i hu
      obtain ⟨b, rfl, hx⟩ := DataW.trod_bool hu ht
      cases hx
      simp only [DV] at hd
      cases hd
      simp only [RelL, Rel]
      exact ⟨_, _, rfl, rfl, rfl⟩
    · rename_i k hu
      obtain ⟨z, rfl, hx, _⟩ := DataW.trod_int hu ht
      cases hx
      simp only [DV] at hd
      cases hd
      simp only [RelL, Rel]
      exact ⟨_, _, rfl, rfl, rfl⟩
    · rename_i hu
      obtain ⟨s, rfl, hx, _⟩ := DataW.trod_string hu ht
      cases hx
      simp only [DV] at hd
      cases hd
      simp only [RelL, Rel]
      exact ⟨_, _, rfl, ⟨_, rfl, rfl⟩, rfl⟩
    · rename_i fs hu
      obtain ⟨xs, m, rfl, hx, hlen, hxs, hel⟩ := DataW.trod_struct hu ht
      cases hx
      simp only [DV] at hd
      have key : ∀ (l : List Field) (i o : Nat) (ys : List (DataW H × List MemPlace)) (vs : List V), (∀ j f, l[j]? = some f → fs[i + j]? = some f) → l.length = ys.length → (∀ j, ys[j]? = xs[i + j]?) → laysFs P (lays P n) l o (P.cellsOf t) = true → DVs (ys.map (·.1)) = some vs → RelL M β vs (cs.drop o) := by
        intro l
        induction l with
        | nil =>
          intro i o ys vs _ hly _ hlf hv
          simp only [laysFs, beq_iff_eq] at hlf
          have : ys = [] := List.eq_nil_of_length_eq_zero (by simpa using hly.symm)
          subst this
          simp only [List.map_nil, DVs] at hv
          cases hv
          rw [List.drop_of_length_le (by omega)]
          simp only [RelL]
        | cons f l ihl =>
          intro i o ys vs hf hly hys hlf hv
          simp only [laysFs, Bool.and_eq_true, beq_iff_eq] at hlf
          obtain ⟨⟨ho, hlt⟩, hrest⟩ := hlf
          match ys, hly with
          | y :: ys, hly =>
            simp only [List.map_cons] at hv
            obtain ⟨a, b, ha, hb, rfl⟩ := DVs_cons hv
            have h0 := hel i f (by simpa using hf 0 f rfl)
            have hy0 := hys 0
            simp only [List.getElem?_cons_zero, Nat.add_zero] at hy0
            rw [← hy0, ho] at h0
            have r1 := ih m f.type _ y.1 y.2 a hlt h0 ha
            have r2 := ihl (i + 1) (o + P.cellsOf f.type) ys b (fun j f' hj => by have := hf (j + 1) f' (by simpa using hj); rw [show i + 1 + j = i + (j + 1) by omega]; exact this) (by simpa using hly) (fun j => by have := hys (j + 1); rw [show i + 1 + j = i + (j + 1) by omega]; simpa using this) hrest hb
            rw [drop_split cs o (P.cellsOf f.type)]
            exact r1.append r2
      have := key fs.toList 0 0 xs vs (fun j f hj => by simpa using hj) (by simpa using hxs.symm) (fun j => by simp) hl hd
      simpa using this
    · rename_i k e hu
      simp only [Bool.and_eq_true, beq_iff_eq] at hl
      obtain ⟨hle, hsz⟩ := hl
      obtain ⟨xs, m, rfl, hx, hlen, hxs, hel⟩ := DataW.trod_array hu ht
      cases hx
      simp only [DV] at hd
      have key : ∀ (ys : List (DataW H × List MemPlace)) (i : Nat) (vs : List V), i + ys.length = k → (∀ j, ys[j]? = xs[i + j]?) → DVs (ys.map (·.1)) = some vs → RelL M β vs (cs.drop (i * P.cellsOf e)) := by
        intro ys
        induction ys with
        | nil =>
          intro i vs hi _ hv
          simp only [List.map_nil, DVs] at hv
          cases hv
          simp only [List.length_nil, Nat.add_zero] at hi
          rw [List.drop_of_length_le (by rw [hlen, hsz, hi]; exact Nat.le_refl _)]
          simp only [RelL]
        | cons y ys ihy =>
          intro i vs hi hys hv
          simp only [List.map_cons] at hv
          obtain ⟨a, b, ha, hb, rfl⟩ := DVs_cons hv
          simp only [List.length_cons] at hi
          have h0 := hel i (by omega)
          have hy0 := hys 0
          simp only [List.getElem?_cons_zero, Nat.add_zero] at hy0
          rw [← hy0] at h0
          have r1 := ih m e _ y.1 y.2 a hle h0 ha
          have r2 := ihy (i + 1) b (by omega) (fun j => by have := hys (j + 1); rw [show i + 1 + j = i + (j + 1) by omega]; simpa using this) hb
          rw [drop_split cs (i * P.cellsOf e) (P.cellsOf e)]
          rw [Nat.add_mul, Nat.one_mul] at r2
          exact r1.append r2
      have := key xs 0 vs (by simpa using hxs) (fun j => by simp) hd
      simpa using this
    · cases hl
end

mutual
theorem DV_plain {H : Type} : ∀ (d : DataW H) (vs : List V), DV d = some vs → ∀ v ∈ vs, v.imm = true ∧ v.one = true
  | .lit (.bool b), vs, h => by simp only [DV] at h; cases h; simp [V.imm, V.one]
  | .lit (.int k n), vs, h => by simp only [DV] at h; cases h; simp [V.imm, V.one]
  | .lit (.string s), vs, h => by simp only [DV] at h; cases h; simp [V.imm, V.one]
  | .lit (.float _ _), vs, h => by simp only [DV] at h; cases h
  | .lit .nil, vs, h => by simp only [DV] at h; cases h
  | .agg ds, vs, h => DVs_plain ds vs (by simpa only [DV] using h)
  | .nil, vs, h => by simp only [DV] at h; cases h
  | .ptr _, vs, h => by simp only [DV] at h; cases h
  | .slice _ _, vs, h => by simp only [DV] at h; cases h
  | .iface _ _, vs, h => by simp only [DV] at h; cases h
  | .map _, vs, h => by simp only [DV] at h; cases h
  | .held _, vs, h => by simp only [DV] at h; cases h
theorem DVs_plain {H : Type} : ∀ (ds : List (DataW H)) (vs : List V), DVs ds = some vs → ∀ v ∈ vs, v.imm = true ∧ v.one = true
  | [], vs, h => by simp only [DVs] at h; cases h; simp
  | d :: ds, vs, h => by
    obtain ⟨a, b, ha, hb, rfl⟩ := DVs_cons h
    intro v hv
    rcases List.mem_append.1 hv with hv | hv
    · exact DV_plain d a ha v hv
    · exact DVs_plain ds b hb v hv
end

/-- All that lies in a world, as memory. -/
def memOf (w : World) : Mem := ⟨w.cell?, fun _ => none⟩
theorem memOf_ok (w : World) : MemOk (memOf w) w := ⟨fun _ _ h => h, (fun _ _ h => by cases h), (fun _ _ h => by cases h)⟩

theorem RelL.row {M : Mem} {β : Places} {vs : List V} {cs : List Value} {g : Nat} (h : RelL M β vs cs) (hp : ∀ v ∈ vs, v.imm = true ∧ v.one = true) (hc : ∀ k c, cs[k]? = some c → M.c ⟨g, k, none⟩ = some c) : RelRow M β vs g 0 :=
  RelRow.of_get fun {k} {v} hk => by
    obtain ⟨c, hck, hr⟩ := h.get hk
    have := hp v (List.mem_of_getElem? hk)
    exact ⟨c, by rw [Nat.zero_add]; exact hc k c hck, this.1, this.2, hr⟩

/-- A listed variable's row. -/
theorem laid_row {P : Program} {w : World} : ∀ {l : List (String × DataW Unit)} {ps : List MemPlace}, DataW.LaidVars P w l ps → ∀ {x : String × DataW Unit}, x ∈ l → ∀ {g : Nat} {t : TypeId} {n : Nat} {vs : List V}, P.globalNamed x.1 = some g → (P.globals[g]?).map (·.type) = some t → lays P n t = true → DV x.2 = some vs → ∀ β, RelRow (memOf w) β vs g 0
  | [], _, _, x, hx, _, _, _, _, _, _, _, _, _ => by cases hx
  | (m, d) :: r, ps, h, x, hx, g, t, n, vs, hg, ht, hl, hvs, β => by
    obtain ⟨g', t', cs, fuel, p, q, hg', ht', hv, hd, hr, _⟩ := h
    rcases List.mem_cons.1 hx with rfl | hx
    · obtain rfl := Option.some.inj (hg'.symm.trans hg)
      obtain rfl := Option.some.inj (ht'.symm.trans ht)
      refine (trod_flat (M := memOf w) (β := β) n fuel t' cs.toList d p vs hl hd hvs).row (DV_plain d vs hvs) fun k c hk => ?_
      show w.cell? ⟨g', k, none⟩ = some c
      rw [World.var?_cell hg' hv k]
      simpa using hk
    · exact laid_row hr hx hg ht hl hvs β

/-- A function's answer, as a call. -/
theorem calls_of_pure {P : Program} {gl : Nat → Option (List V)} {f : FuncId} {F : List V → Option V} (hp : PureSpec P gl f F) (hf : FnOk P f) {w : World} (G : Globs gl (memOf w)) {args : List V} {cargs : List Value} (hi : V.imm.imms args = true) (R : RelL (memOf w) nowhere args cargs)
    {r : V} (hr : F args = some r) : Calls P f cargs.toArray w fun e w' => ∃ c, e = .returned c ∧ Below w.heap.size w w' ∧ ∃ M, Rel M nowhere r c := by
  obtain ⟨fn, hfn, hbody, hname⟩ := hf
  rcases hp (memOf w) args cargs r w G (memOf_ok w) hi R hr with ⟨_, hc⟩ | ⟨c, w', hv, _⟩
  · refine hc.mono ?_
    rintro e w' ⟨M', c, rfl, _, _, _, hb, _, hrel⟩
    exact ⟨c, rfl, hb, M', hrel⟩
  · have hex : (callFunc f cargs.toArray).run P w = .ok (.enter f cargs.toArray) w := by
      simp only [Sem.run_bind, Result.andThen_ok, callFunc, run_program, hfn, hname, hbody, Bool.false_eq_true, if_false, Sem.run_pure]
    rw [hex] at hv
    cases hv
end Go.Abs
