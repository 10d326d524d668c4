/-
  ABS, part 14: maps.
-/
import Derived.Test.YtfmdgjnjfmgbmaaGreatDoorAbs13
namespace Go.Abs
open Go Go.RowKit
set_option linter.unusedSectionVars false
variable [Syms]

section
variable {P : Program} {M : Mem} {β : Places} {w0 w : World} {hp : Heap} {id N : Nat} {e : Env} {a : Act} {gl : Nat → Option (List V)} {g : View} {o : Oper} {i : I} {eff : Eff}

theorem run_getObj {r : Nat} {ob : Go.Obj} (h : w.heap[r]? = some ob) (hn : ∀ c t f, ob ≠ .cells c t f) : (getObj r).run P w = .ok ob w := by
  unfold getObj
  simp only [Sem.run, h]

def World.objSet (w : World) (r : Nat) (ob : Go.Obj) : World := { w with heap := w.heap.setIfInBounds r ob }

theorem run_setObj {r : Nat} {ob ob' : Go.Obj} (h : w.heap[r]? = some ob) (hn : ∀ c t f, ob ≠ .cells c t f) : (setObj r ob').run P w = .ok () (World.objSet w r ob') := by
  unfold setObj
  simp only [Sem.run, h]
  cases ob <;> first | (exact absurd rfl (hn _ _ _)) | rfl

theorem objSet_get {r : Nat} {ob ob' : Go.Obj} (h : w.heap[r]? = some ob) : (World.objSet w r ob').heap[r]? = some ob' := by
  have := lt_of_get? h
  simp [World.objSet, this]

/-- An object that is no row of cells is written anew. -/
theorem Sim.objSet (S : Sim M β hp.get w0 w) {b : Nat} {i : Place} {o' : AObj} (hi : β b = some i) (hbase : w0.heap.size ≤ i.blk) {ob ob' : Go.Obj} (hw : w.heap[i.blk]? = some ob) (hn : ∀ c t f, ob ≠ .cells c t f) (hM : M.o i.blk = none)
    {ao : AObj} (hb : hp.get b = some ao) (hown : ao.owns = true) (ho : ObjSim M β (World.objSet w i.blk ob') i o') : Sim M β (hp.put b (some o')).get w0 (World.objSet w i.blk ob') := by
  have hkeep : Keeps M i.blk w (World.objSet w i.blk ob') := by
    refine ⟨rfl, rfl, rfl, by simp [World.objSet], fun r hr _ => ?_, fun x c hx hxc => ?_, fun r ob hr hrc => ?_⟩
    · simp [World.objSet, Ne.symm hr]
    · have hxb : x.block ≠ i.blk := fun e => by
        unfold World.cell? at hxc
        rw [e, hw] at hxc
        cases ob <;> first | (exact absurd rfl (hn _ _ _)) | simp at hxc
      rw [← hxc]
      exact cell?_eq (by simp [World.objSet, Ne.symm hxb])
    · have : r ≠ i.blk := fun e => by subst e; rw [hM] at hr; cases hr
      rw [← hrc]; simp [World.objSet, Ne.symm this]
  have S2 : Sim M β (upd hp.get b none) w0 (World.objSet w i.blk ob') := (S.drop b).change hkeep hbase (fun b' o'' i' hb' hi' hown' => by
    by_cases e : b' = b
    · subst e; rw [upd_eq] at hb'; cases hb'
    · rw [upd_ne _ _ e] at hb'
      exact S.sep b' b o'' _ i' i e hb' hb hi' hi hown' hown)
  have S3 := S2.put (b := b) (i := i) (o := o') hi hbase ho (fun _ b' o'' i' hne hb' hi' hown' => by
    rw [upd_ne _ _ hne] at hb'
    exact S.sep b' b o'' _ i' i hne hb' hb hi' hi hown' hown)
  have hu : upd (upd hp.get b none) b (some o') = (hp.put b (some o')).get := by
    rw [get_put]
    funext x
    by_cases e : x = b
    · subst e; rw [upd_eq, upd_eq]
    · rw [upd_ne _ _ e, upd_ne _ _ e, upd_ne _ _ e]
  rw [← hu]; exact S3

/-- A new object that is no row of cells. -/
theorem made_obj (S : Sim M β hp.get w0 w) (hid : β id = none) {ob : Go.Obj} {o : AObj} (ho : ∀ β' : Places, β.le β' → ObjSim M β' (w.alloc ob) ⟨w.heap.size, 0, 0, 0, 0, none⟩ o) :
    ∃ β', β' id = some ⟨w.heap.size, 0, 0, 0, 0, none⟩ ∧ β.le β' ∧ (∀ x, x ≠ id → β' x = β x) ∧ Sim M β' (hp.set id o).get w0 (w.alloc ob) := by
  refine ⟨β.set id ⟨w.heap.size, 0, 0, 0, 0, none⟩, Places.set_eq _ _ _, β.le_set _ hid, fun x hx => Places.set_ne _ _ hx, ?_⟩
  rw [get_set]
  exact (S.alloc ob).add hid S.base (by simp) (ho _ (β.le_set _ hid)) (fun b' o' i' _ hi' _ => by have := S.sane b' i' hi'; simp only; omega)

theorem Sim.noObj (S : Sim M β hp.get w0 w) : M.o w.heap.size = none := by
  cases h : M.o w.heap.size with
  | none => rfl
  | some o => have := lt_of_get? (S.memo _ _ h); omega

theorem f_mkMap (G : Globs gl M) (E : EnvRel M β N e a) (S : Sim M β hp.get w0 w) (hid : β id = none) {t : TypeId} {x : Option Operand} (ho : o.op = .makeMap t x) (hc : cOp P gl (.makeMap t x) = some i) (hev : evI g id e i = some eff) :
    Follows P M β w0 w (execOp a.eval o) hp id eff := by
  simp only [cOp] at hc
  split at hc
  · rename_i kt el hd
    simp only [Option.map_eq_some_iff] at hc
    obtain ⟨x', hx, rfl⟩ := hc
    obtain ⟨β', hb, hle, hx', S'⟩ := made_obj (ob := .map #[] 0) (o := .map [] 0 false) S hid (fun β' _ => by
      refine ⟨#[], heap_new _ _, rfl, by simp, by simp, (fun h => by cases h), fun _ => S.noObj⟩)
    have hfin : (Eff.mk none (some (.map [] 0 false)) (.map id)) = eff → (execOp a.eval o).run P w = .ok (.value (.map (some w.heap.size))) (w.alloc (.map #[] 0)) → Follows P M β w0 w (execOp a.eval o) hp id eff := fun he hrun => by
      subst he
      exact ⟨β', _, _, .inl hrun, hle, hx', S', by simp only [Rel]; exact ⟨_, hb, rfl⟩⟩
    cases x with
    | none =>
      simp only [cXo, Option.some.injEq] at hx; subst hx
      simp only [evI, Option.some.injEq] at hev
      exact hfin hev (by simp [execOp, ho, Instr.makeMap])
    | some x =>
      simp only [cXo, Option.map_eq_some_iff] at hx
      obtain ⟨y, hy, rfl⟩ := hx
      simp only [evI] at hev
      split at hev
      · rename_i k n hv
        have hr := cX_rel G E hy
        rw [hv] at hr; simp only [Rel] at hr
        simp only [Option.some.injEq] at hev
        exact hfin hev (by simp [execOp, ho, Instr.makeMap, run_underlying hd, asInt, asIntOf, hr])
      · cases hev
  · cases hc

/-! Keys. -/

theorem bytesOf_inj {s t : ByteArray} (h : bytesOf s = bytesOf t) : s = t := by
  obtain ⟨⟨s⟩⟩ := s
  obtain ⟨⟨t⟩⟩ := t
  simp only [bytesOf] at h
  rw [map_toNat_inj.1 h]

theorem same_eq : ∀ {ks : List CK} {u v : List V} {cs ds : List Value}, fitsAll ks u = true → fitsAll ks v = true → sameAll u v = true → RelL M β u cs → RelL M β v ds → cs = ds
  | [], [], [], cs, ds, _, _, _, h, k => by simp only [RelL] at h k; rw [h, k]
  | k :: ks, x :: u, y :: v, cs, ds, h1, h2, h3, h4, h5 => by
    simp only [fitsAll, sameAll, Bool.and_eq_true] at h1 h2 h3
    simp only [RelL] at h4 h5
    obtain ⟨c, cs, rfl, hc, hcs⟩ := h4
    obtain ⟨d, ds, rfl, hd, hds⟩ := h5
    rw [same_eq h1.2 h2.2 h3.2 hcs hds]
    congr 1
    cases k <;> cases x <;> simp [CK.fits] at h1 <;> cases y <;> simp [CK.fits] at h2 <;> simp [V.same] at h3 <;> simp only [Rel] at hc hd
    · rw [hc, hd, h3.1]
    · rw [hc, hd, h3.1, ← h1.1, ← h2.1]
    · obtain ⟨s, rfl, hs⟩ := hc
      obtain ⟨t, rfl, ht⟩ := hd
      have hst := bytesOf_inj (s := s) (t := t) (by rw [hs, ht, h3.1])
      rw [hst]
  | [], [], _ :: _, _, _, _, h, _, _, _ => by simp [fitsAll] at h
  | [], _ :: _, _, _, _, h, _, _, _, _ => by simp [fitsAll] at h
  | _ :: _, [], _, _, _, h, _, _, _, _ => by simp [fitsAll] at h
  | _ :: _, _ :: _, [], _, _, _, h, _, _, _ => by simp [fitsAll] at h

theorem sameBits_one : ∀ {k : CK} {v : V} {c : Value} (n : Nat), k.fits v = true → Rel M β v c → Instr.sameBits n c c = true := by
  intro k v c n hf hr
  cases k <;> cases v <;> simp [CK.fits] at hf <;> simp only [Rel] at hr
  · subst hr; cases n <;> simp [Instr.sameBits]
  · subst hr; cases n <;> simp [Instr.sameBits]
  · obtain ⟨s, rfl, _⟩ := hr; cases n <;> simp [Instr.sameBits, beq_toListBytes]

theorem sameBits_all : ∀ {ks : List CK} {u : List V} {cs : List Value} (n : Nat), fitsAll ks u = true → RelL M β u cs → (cs.zip cs).all (fun (x, y) => Instr.sameBits n x y) = true
  | [], [], cs, n, _, h => by simp only [RelL] at h; subst h; rfl
  | k :: ks, x :: u, cs, n, hf, h => by
    simp only [fitsAll, Bool.and_eq_true] at hf
    simp only [RelL] at h
    obtain ⟨c, cs, rfl, hc, hcs⟩ := h
    simp only [List.zip_cons_cons, List.all_cons, sameBits_one n hf.1 hc, sameBits_all n hf.2 hcs, Bool.and_self]
  | [], _ :: _, _, _, h, _ => by simp [fitsAll] at h
  | _ :: _, [], _, _, h, _ => by simp [fitsAll] at h

/-- What a key type's values are. -/
theorem KT_cells {kt : KT} {t : TypeId} (hk : tKT P t = some kt) {v : V} {c : Value} (hf : kt.fits v = true) (hr : Rel M β v c) :
    ∃ g, tAgg P t = some g ∧ kt.agg = g ∧ tCks P 1000 t = some kt.ks ∧ fitsAll kt.ks v.cells = true ∧ CellsOf M β g v.cells c ∧ (c.cells.toList = [c] ∨ ∃ arr, c = .agg arr) := by
  unfold tKT at hk
  simp only [Option.bind_eq_some_iff, Option.map_eq_some_iff] at hk
  obtain ⟨g, hg, ks, hks, rfl⟩ := hk
  refine ⟨g, hg, rfl, hks, ?_⟩
  unfold KT.fits at hf
  cases g with
  | true =>
    cases v <;> simp at hf
    simp only [Rel] at hr
    obtain ⟨arr, rfl, hl⟩ := hr
    exact ⟨hf, ⟨arr, rfl, hl⟩, .inr ⟨arr, rfl⟩⟩
  | false =>
    have hna : ∀ l, v ≠ .agg l := fun l e => by subst e; simp at hf
    have hvc : v.cells = [v] := by cases v <;> first | rfl | (exact absurd rfl (hna _))
    have hf' : fitsAll ks [v] = true := by cases v <;> first | exact hf | (exact absurd rfl (hna _))
    refine ⟨by rw [hvc]; exact hf', ⟨v, hvc, hr⟩, .inl ?_⟩
    have := hr.cells
    rw [hvc] at this
    simp only [RelL] at this
    obtain ⟨c', cs, he, hr', rfl⟩ := this
    have h1 := hr.one
    cases ks with
    | nil => simp [fitsAll] at hf'
    | cons k ks' =>
      simp only [fitsAll, Bool.and_eq_true] at hf'
      cases c <;> first | rfl | skip
      cases v <;> simp [V.one, Value.oneCell'] at h1
      · exact absurd rfl (hna _)
      · cases k <;> simp [CK.fits] at hf'

theorem equal_run {kt : KT} {t : TypeId} (hk : tKT P t = some kt) {k k' : V} {c c' : Value} (h1 : kt.fits k = true) (h2 : kt.fits k' = true) (hc : Rel M β k c) (hc' : Rel M β k' c') (w : World) :
    (Op.equal t c c').run P w = .ok (sameAll k.cells k'.cells) w := by
  obtain ⟨g, hg, _, hks, hf, hcc, _⟩ := KT_cells hk h1 hc
  obtain ⟨g', hg', _, _, hf', hcc', _⟩ := KT_cells hk h2 hc'
  rw [hg] at hg'; cases hg'
  exact run_equal_cks 1000 t kt.ks g 10000 hks hg (by omega) _ _ _ _ w hf hf' hcc hcc'

theorem checkKey_run {kt : KT} {t : TypeId} (hk : tKT P t = some kt) {k : V} {c : Value} (h1 : kt.fits k = true) (hc : Rel M β k c) (em : Bool) (w : World) : (Instr.checkKey em 10000 t c).run P w = .ok () w := by
  obtain ⟨g, hg, _, hks, hf, hcc, _⟩ := KT_cells hk h1 hc
  exact run_checkKey_cks 1000 t kt.ks g 10000 em hks hg (by omega) _ _ w hf hcc

/-- What a search tells, said of the entries. -/
def Found (M : Mem) (β : Places) (r : Option (Nat × V)) (r' : Option (Nat × Value)) : Prop :=
  match r with
  | none => r' = none
  | some (i, v) => ∃ c, r' = some (i, c) ∧ Rel M β v c

theorem findAsking_run {kt : KT} {t : TypeId} (hk : tKT P t = some kt) {k : V} {c : Value} (h1 : kt.fits k = true) (hc : Rel M β k c) (w : World) :
    ∀ {es : List (V × V × Nat)} {ms : List MapEntry} (j : Nat), RelEnt M β es ms → (∀ e ∈ es, kt.fits e.1 = true) → ∃ r, (Instr.findAsking t c ms j).run P w = .ok r w ∧ Found M β (findE k.cells es j) r
  | [], ms, j, h, _ => by
    simp only [RelEnt] at h; subst h
    exact ⟨none, by simp [Instr.findAsking], rfl⟩
  | (k', v, b) :: es, ms, j, h, hf => by
    simp only [RelEnt] at h
    obtain ⟨m, ms, rfl, hk', hv, hb, ht⟩ := h
    have he := equal_run (M := M) (β := β) hk h1 (hf (k', v, b) (by simp)) hc hk' w
    simp only [Instr.findAsking, Sem.run_bind, he, Result.andThen_ok, findE]
    cases sameAll k.cells k'.cells with
    | true => exact ⟨some (j, m.val), by simp, m.val, rfl, hv⟩
    | false =>
      obtain ⟨r, h2, h3⟩ := findAsking_run hk h1 hc w (j + 1) ht (fun e he => hf e (by simp [he]))
      exact ⟨r, by simpa using h2, by simpa using h3⟩

theorem sameNow_same {d : TypeDesc} {ck : CK} (hd : (∃ k, d = .int k ∧ ck = .int k) ∨ (d = .string ∧ ck = .str) ∨ (d = .bool ∧ ck = .bool)) {x y : V} {c c' : Value} (hx : ck.fits x = true) (hy : ck.fits y = true) (h : Rel M β x c) (h' : Rel M β y c') :
    (d ≠ .bool → Instr.sameNow d c c' = some (sameAll [x] [y])) ∧ (d = .bool → Instr.sameNow d c c' = none ∨ Instr.sameNow d c c' = some (sameAll [x] [y])) := by
  rcases hd with ⟨k, rfl, rfl⟩ | ⟨rfl, rfl⟩ | ⟨rfl, rfl⟩
  · cases x <;> simp [CK.fits] at hx
    cases y <;> simp [CK.fits] at hy
    simp only [Rel] at h h'
    subst h h' hx hy
    simp [Instr.sameNow, sameAll, V.same]
  · cases x <;> simp [CK.fits] at hx
    cases y <;> simp [CK.fits] at hy
    simp only [Rel] at h h'
    obtain ⟨s, rfl, hs⟩ := h
    obtain ⟨t, rfl, ht⟩ := h'
    subst hs ht
    refine ⟨fun _ => ?_, fun h => by cases h⟩
    simp only [Instr.sameNow, sameAll, V.same, Bool.and_true, beq_toListBytes, bytesOf_beq]
  · cases x <;> simp [CK.fits] at hx
    cases y <;> simp [CK.fits] at hy
    simp only [Rel] at h h'
    subst h h'
    simp [Instr.sameNow, sameAll, V.same]

theorem findKey_run {kt : KT} {t : TypeId} (hk : tKT P t = some kt) {k : V} {c : Value} (h1 : kt.fits k = true) (hc : Rel M β k c) (w : World)
    {es : List (V × V × Nat)} {ms : List MapEntry} (h : RelEnt M β es ms) (hf : ∀ e ∈ es, kt.fits e.1 = true) : ∃ r, (Instr.findKey t c ms).run P w = .ok r w ∧ Found M β (findE k.cells es 0) r := by
  have hu : ∃ d, P.underlying t = some d := by
    unfold tKT tAgg at hk
    cases hd : P.underlying t with
    | none => simp [hd] at hk
    | some d => exact ⟨d, rfl⟩
  obtain ⟨d, hd⟩ := hu
  obtain ⟨r, h2, h3⟩ := findAsking_run hk h1 hc w 0 h hf
  -- the quick search, where it answers, answers the same
  have quick : ∀ (es : List (V × V × Nat)) (ms : List MapEntry) (j : Nat), RelEnt M β es ms → (∀ e ∈ es, kt.fits e.1 = true) → ∀ r', Instr.findNow d c ms j = some r' → Found M β (findE k.cells es j) r' := by
    intro es
    induction es with
    | nil =>
      intro ms j h _ r' hr
      simp only [RelEnt] at h; subst h
      simp only [Instr.findNow, Option.some.injEq] at hr; subst hr
      rfl
    | cons x es ih =>
      intro ms j h hf r' hr
      obtain ⟨k', v, b⟩ := x
      simp only [RelEnt] at h
      obtain ⟨m, ms, rfl, hk', hv, hb, ht⟩ := h
      simp only [Instr.findNow] at hr
      have hsame : ∀ q, Instr.sameNow d c m.key = some q → q = sameAll k.cells k'.cells := by
        intro q hq
        obtain ⟨g, hg, hga, hks, hfk, hcc, _⟩ := KT_cells hk h1 hc
        obtain ⟨g', hg', _, _, hfk', hcc', _⟩ := KT_cells hk (hf (k', v, b) (by simp)) hk'
        rw [hg] at hg'; cases hg'
        cases g with
        | true =>
          obtain ⟨arr, rfl, _⟩ := hcc
          unfold Instr.sameNow at hq
          split at hq <;> simp_all
        | false =>
          obtain ⟨x, hx, hxr⟩ := hcc
          obtain ⟨y, hy, hyr⟩ := hcc'
          rw [hx] at hfk ⊢
          rw [hy] at hfk' ⊢
          unfold tCks at hks
          rw [hd] at hks
          cases d <;> simp at hks
          case bool =>
            rw [← hks] at hfk hfk'
            simp [fitsAll] at hfk hfk'
            rcases (sameNow_same (M := M) (β := β) (.inr (.inr ⟨rfl, rfl⟩)) hfk hfk' hxr hyr).2 rfl with h | h
            · rw [h] at hq; cases hq
            · rw [h] at hq; cases hq; rfl
          case int kk =>
            rw [← hks] at hfk hfk'
            simp [fitsAll] at hfk hfk'
            have := (sameNow_same (M := M) (β := β) (.inl ⟨kk, rfl, rfl⟩) hfk hfk' hxr hyr).1 (by simp)
            rw [this] at hq; cases hq; rfl
          case string =>
            rw [← hks] at hfk hfk'
            simp [fitsAll] at hfk hfk'
            have := (sameNow_same (M := M) (β := β) (.inr (.inl ⟨rfl, rfl⟩)) hfk hfk' hxr hyr).1 (by simp)
            rw [this] at hq; cases hq; rfl
          case struct fs => simp [tAgg, hd] at hg
      simp only [findE]
      cases hs : Instr.sameNow d c m.key with
      | none => rw [hs] at hr; cases hr
      | some q =>
        rw [hs] at hr
        have := hsame q hs
        cases q with
        | true => rw [← this]; cases hr; exact ⟨m.val, rfl, hv⟩
        | false => rw [← this]; exact ih ms (j + 1) ht (fun e he => hf e (by simp [he])) r' hr
  simp only [Instr.findKey, Sem.run_bind, run_underlying hd, Result.andThen_ok]
  cases hq : Instr.findNow d c ms 0 with
  | none => exact ⟨r, h2, h3⟩
  | some r' => exact ⟨r', by simp, quick es ms 0 h hf r' hq⟩

theorem RelEnt_of : ∀ {ks vs : List V} {ms : List MapEntry}, RelKs M β ks ms → RelVs M β vs ms → RelEnt M β (ks.zip (vs.zip (ms.map (·.born)))) ms ∧ ks.length = ms.length ∧ vs.length = ms.length
  | [], vs, ms, h, h' => by
    simp only [RelKs] at h; subst h
    cases vs with
    | nil => exact ⟨rfl, rfl, rfl⟩
    | cons v vs => simp [RelVs] at h'
  | k :: ks, [], ms, h, h' => by
    simp only [RelVs] at h'; subst h'
    simp [RelKs] at h
  | k :: ks, v :: vs, ms, h, h' => by
    simp only [RelKs] at h
    simp only [RelVs] at h'
    obtain ⟨c, cs, rfl, _, h1, h2⟩ := h
    obtain ⟨c', cs', he, _, h3, h4⟩ := h'
    cases he
    obtain ⟨h5, h6, h7⟩ := RelEnt_of h2 h4
    exact ⟨⟨c, cs, rfl, h1, h3, rfl, h5⟩, by simp [h6], by simp [h7]⟩

theorem findR_eq : ∀ {ks vs : List V} {bs : List Nat} (k : List V) (j : Nat), ks.length = bs.length → vs.length = bs.length → (findE k (ks.zip (vs.zip bs)) j).map (·.2) = findR k ks vs
  | [], vs, bs, k, j, _, _ => by cases vs <;> simp [findE, findR]
  | k' :: ks, [], bs, k, j, h1, h2 => by simp at h1 h2; omega
  | k' :: ks, v :: vs, [], k, j, h1, h2 => by simp at h1
  | k' :: ks, v :: vs, b :: bs, k, j, h1, h2 => by
    simp only [List.zip_cons_cons, findE, findR]
    split
    · rfl
    · exact findR_eq k (j + 1) (by simpa using h1) (by simpa using h2)

def FoundV (M : Mem) (β : Places) : Option V → Option (Nat × Value) → Prop
  | none, r' => r' = none
  | some v, r' => ∃ j c, r' = some (j, c) ∧ Rel M β v c

theorem f_lookup (G : Globs gl M) (E : EnvRel M β N e a) (S : Sim M β hp.get w0 w) (hg : ∀ b o, g b = some o → hp.get b = some o) {t : TypeId} {x y : Operand} {ok : Bool} (ho : o.op = .lookup t x y ok) (hc : cOp P gl (.lookup t x y ok) = some i) (hev : evI g id e i = some eff) :
    Follows P M β w0 w (execOp a.eval o) hp id eff := by
  simp only [cOp] at hc
  split at hc
  · rename_i kty el hd
    simp only [Option.bind_eq_some_iff, Option.map_eq_some_iff] at hc
    obtain ⟨kt, hkt, z, hz, x', hx, y', hy, rfl⟩ := hc
    obtain ⟨zc, hzr, hzrel⟩ := tZero_run hz
    have hr := cX_rel G E hx
    have hq := cX_rel G E hy
    simp only [evI, Option.map_eq_some_iff] at hev
    obtain ⟨r, hl, rfl⟩ := hev
    -- the end, out of what the search told
    have fin : ∀ (es : Array MapEntry) (r' : Option (Nat × Value)), kt.fits (y'.val e) = true → (a.eval x = .map none ∧ es = #[] ∨ ∃ q clock, a.eval x = .map (some q) ∧ (getObj q).run P w = .ok (.map es clock) w) →
        (Instr.findKey kty (a.eval y) es.toList).run P w = .ok r' w → FoundV M β r r' →
        Follows P M β w0 w (execOp a.eval o) hp id { val := if ok then .tuple [r.getD z, .bool r.isSome] else r.getD z } := by
      intro es r' hfit hmap hfind hfound
      have hck := checkKey_run hkt hfit hq es.isEmpty w
      have hrun : ∀ (v : Value) (b : Bool), (r' = none ∧ v = zc ∧ b = false ∨ ∃ j, r' = some (j, v) ∧ b = true) →
          (execOp a.eval o).run P w = .ok (.value (if ok then .tuple #[v, .bool b] else v)) w := fun v b h => by
        rcases hmap with ⟨he, rfl⟩ | ⟨q, clock, he, hgo⟩
        · rcases h with ⟨rfl, rfl, rfl⟩ | ⟨j, rfl, rfl⟩
          · simp only [execOp, ho, Instr.lookup, Sem.run_bind, run_underlying hd, Result.andThen_ok, he, Sem.run_pure, hck, hfind, hzr]
          · simp only [execOp, ho, Instr.lookup, Sem.run_bind, run_underlying hd, Result.andThen_ok, he, Sem.run_pure, hck, hfind]
        · rcases h with ⟨rfl, rfl, rfl⟩ | ⟨j, rfl, rfl⟩
          · simp only [execOp, ho, Instr.lookup, Sem.run_bind, run_underlying hd, Result.andThen_ok, he, hgo, Sem.run_pure, hck, hfind, hzr]
          · simp only [execOp, ho, Instr.lookup, Sem.run_bind, run_underlying hd, Result.andThen_ok, he, hgo, Sem.run_pure, hck, hfind]
      cases r with
      | none =>
        simp only [FoundV] at hfound
        subst hfound
        refine Follows.same S (hrun zc false (.inl ⟨rfl, rfl, rfl⟩)) ?_
        cases ok with
        | true => simp only [if_true, Option.getD_none, Option.isSome_none, Rel, RelL]; exact ⟨_, rfl, zc, [.bool false], rfl, hzrel _ _, _, [], rfl, rfl, rfl⟩
        | false => exact hzrel _ _
      | some v =>
        obtain ⟨j, c, rfl, hcr⟩ := hfound
        refine Follows.same S (hrun c true (.inr ⟨j, rfl, rfl⟩)) ?_
        cases ok with
        | true => simp only [if_true, Option.getD_some, Option.isSome_some, Rel, RelL]; exact ⟨_, rfl, c, [.bool true], rfl, hcr, _, [], rfl, rfl, rfl⟩
        | false => exact hcr
    unfold lookupV at hl
    split at hl
    · cases hl
    · rename_i hfit
      have hfit : kt.fits (y'.val e) = true := by simpa using hfit
      split at hl
      · rename_i hv
        cases hl
        rw [hv] at hr; simp only [Rel] at hr
        refine fin #[] none hfit (.inl ⟨hr, rfl⟩) ?_ rfl
        obtain ⟨r2, h2, h3⟩ := findKey_run hkt hfit hq w (es := []) (ms := []) rfl (by simp)
        have : r2 = none := h3
        rw [this] at h2
        exact h2
      · rename_i ks vs hv
        split at hl
        · rename_i hcond
          cases hl
          simp only [Bool.and_eq_true, List.all_eq_true, beq_iff_eq] at hcond
          rw [hv] at hr; simp only [Rel] at hr
          obtain ⟨rr, es, clock, he, hMo, hks, hvs, _⟩ := hr
          obtain ⟨hent, hl1, hl2⟩ := RelEnt_of hks hvs
          obtain ⟨r2, h2, h3⟩ := findKey_run hkt hfit hq w hent (fun x hx => hcond.1 _ (List.of_mem_zip hx).1)
          have hfr := findR_eq (bs := es.toList.map (·.born)) (y'.val e).cells 0 (by simpa using hl1) (by simpa using hl2)
          refine fin es r2 hfit (.inr ⟨rr, clock, he, run_getObj (P := P) (S.memo _ _ hMo) (fun _ _ _ h => by cases h)⟩) h2 ?_
          rw [← hfr]
          cases hfe : findE (y'.val e).cells (ks.zip (vs.zip (es.toList.map (·.born)))) 0 with
          | none => rw [hfe] at h3; exact h3
          | some q => rw [hfe] at h3; obtain ⟨c, h4, h5⟩ := h3; exact ⟨_, c, h4, h5⟩
        · cases hl
      · rename_i b hv
        split at hl
        · rename_i es clock fzn hb
          split at hl
          · rename_i hall
            cases hl
            rw [hv] at hr; simp only [Rel] at hr
            obtain ⟨j, hj, he⟩ := hr
            obtain ⟨j', hj', _, ces, hw, hent, _⟩ := S.obj _ _ (hg _ _ hb)
            rw [hj] at hj'; cases hj'
            obtain ⟨r2, h2, h3⟩ := findKey_run hkt hfit hq w hent (fun x hx => by simpa using List.all_eq_true.1 hall x hx)
            refine fin ces r2 hfit (.inr ⟨j.blk, clock, he, run_getObj (P := P) hw (fun _ _ _ h => by cases h)⟩) h2 ?_
            cases hfe : findE (y'.val e).cells es 0 with
            | none => rw [hfe] at h3; exact h3
            | some q => rw [hfe] at h3; obtain ⟨c, h4, h5⟩ := h3; exact ⟨_, c, h4, h5⟩
          · cases hl
        · cases hl
      · cases hl
  · cases hc

end
end Go.Abs
