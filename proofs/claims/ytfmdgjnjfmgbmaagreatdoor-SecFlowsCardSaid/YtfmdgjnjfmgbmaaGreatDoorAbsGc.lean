/-
  Abs15, Abs16, Abs17, Abs18, Abs19, put together in one file.
-/
import Derived.Test.YtfmdgjnjfmgbmaaGreatDoorAbsGb
import Derived.Laws.Append
import Derived.Laws.AppendOwn
/-
  ABS, part 15: maps written; lengths; slices and texts cut.
-/
namespace Go.Abs
open Go Go.RowKit
set_option linter.unusedSectionVars false
variable [Syms]

section
variable {P : Program} {M : Mem} {β : Places} {w0 w : World} {hp : Heap} {id N : Nat} {e : Env} {a : Act} {gl : Nat → Option (List V)} {g : View} {o : Oper} {i : I} {eff : Eff}

theorem RelEnt.length : ∀ {es : List (V × V × Nat)} {ms : List MapEntry}, RelEnt M β es ms → ms.length = es.length
  | [], _, h => by simp only [RelEnt] at h; subst h; rfl
  | _ :: _, _, h => by
    simp only [RelEnt] at h
    obtain ⟨m, ms, rfl, _, _, _, ht⟩ := h
    simp [RelEnt.length ht]

theorem RelEnt.get : ∀ {es : List (V × V × Nat)} {ms : List MapEntry}, RelEnt M β es ms → ∀ {k : Nat} {x}, es[k]? = some x → ∃ m, ms[k]? = some m ∧ Rel M β x.1 m.key ∧ Rel M β x.2.1 m.val ∧ m.born = x.2.2
  | [], _, _, k, x, hk => by simp at hk
  | y :: es, _, h, k, x, hk => by
    simp only [RelEnt] at h
    obtain ⟨m, ms, rfl, h1, h2, h3, ht⟩ := h
    cases k with
    | zero => simp at hk; subst hk; exact ⟨m, rfl, h1, h2, h3⟩
    | succ k => simpa using RelEnt.get ht (by simpa using hk)

theorem RelEnt.set : ∀ {es : List (V × V × Nat)} {ms : List MapEntry}, RelEnt M β es ms → ∀ (k : Nat) {x : V × V × Nat} {m : MapEntry}, Rel M β x.1 m.key → Rel M β x.2.1 m.val → m.born = x.2.2 → RelEnt M β (es.set k x) (ms.set k m)
  | [], _, h, k, x, m, _, _, _ => by simp only [RelEnt] at h; subst h; rfl
  | y :: es, _, h, k, x, m, h1, h2, h3 => by
    simp only [RelEnt] at h
    obtain ⟨m', ms, rfl, q1, q2, q3, ht⟩ := h
    cases k with
    | zero => exact ⟨m, ms, rfl, h1, h2, h3, ht⟩
    | succ k => exact ⟨m', ms.set k m, rfl, q1, q2, q3, RelEnt.set ht k h1 h2 h3⟩

theorem RelEnt.snoc : ∀ {es : List (V × V × Nat)} {ms : List MapEntry}, RelEnt M β es ms → ∀ {x : V × V × Nat} {m : MapEntry}, Rel M β x.1 m.key → Rel M β x.2.1 m.val → m.born = x.2.2 → RelEnt M β (es ++ [x]) (ms ++ [m])
  | [], _, h, x, m, h1, h2, h3 => by simp only [RelEnt] at h; subst h; exact ⟨m, [], rfl, h1, h2, h3, rfl⟩
  | y :: es, _, h, x, m, h1, h2, h3 => by
    simp only [RelEnt] at h
    obtain ⟨m', ms, rfl, q1, q2, q3, ht⟩ := h
    exact ⟨m', ms ++ [m], rfl, q1, q2, q3, RelEnt.snoc ht h1 h2 h3⟩

theorem RelEnt.erase : ∀ {es : List (V × V × Nat)} {ms : List MapEntry}, RelEnt M β es ms → ∀ (k : Nat), RelEnt M β (es.eraseIdx k) (ms.eraseIdx k)
  | [], _, h, k => by simp only [RelEnt] at h; subst h; rfl
  | y :: es, _, h, k => by
    simp only [RelEnt] at h
    obtain ⟨m', ms, rfl, q1, q2, q3, ht⟩ := h
    cases k with
    | zero => exact ht
    | succ k => exact ⟨m', ms.eraseIdx k, rfl, q1, q2, q3, RelEnt.erase ht k⟩

theorem findE_some : ∀ {k : List V} {es : List (V × V × Nat)} {j i : Nat} {v : V}, findE k es j = some (i, v) → ∃ x, j ≤ i ∧ es[i - j]? = some x ∧ sameAll k x.1.cells = true ∧ x.2.1 = v
  | k, [], j, i, v, h => by simp [findE] at h
  | k, (k', v', b) :: es, j, i, v, h => by
    simp only [findE] at h
    split at h
    · rename_i hs
      cases h
      exact ⟨(k', v', b), Nat.le_refl _, by simp, hs, rfl⟩
    · obtain ⟨x, h1, h2, h3, h4⟩ := findE_some h
      refine ⟨x, by omega, ?_, h3, h4⟩
      rw [show i - j = (i - (j + 1)) + 1 by omega]
      simpa using h2

theorem keyStays {kt : KT} {t : TypeId} (hk : tKT P t = some kt) {k k' : V} {c c' : Value} (h1 : kt.fits k = true) (h2 : kt.fits k' = true) (hc : Rel M β k c) (hc' : Rel M β k' c') (hs : sameAll k.cells k'.cells = true) (w : World) :
    (Instr.keyThatStays c' c).run P w = .ok c w := by
  obtain ⟨g, hg, _, hks, hf, hcc, hsh⟩ := KT_cells hk h1 hc
  obtain ⟨g', hg', _, _, hf', hcc', hsh'⟩ := KT_cells hk h2 hc'
  have he := same_eq hf hf' hs hc.cells hc'.cells
  have hcc2 : c = c' := by
    rw [hg] at hg'; cases hg'
    cases g with
    | true =>
      obtain ⟨arr, rfl, _⟩ := hcc
      obtain ⟨arr', rfl, _⟩ := hcc'
      simp only [Value.cells] at he
      rw [Array.toList_inj.1 he]
    | false =>
      obtain ⟨x, hx, hxr⟩ := hcc
      obtain ⟨y, hy, hyr⟩ := hcc'
      rcases hsh with h | ⟨arr, rfl⟩
      · rcases hsh' with h' | ⟨arr', rfl⟩
        · rw [h, h'] at he; simpa using he
        · have := hyr.one
          rw [hy] at hf'
          cases hkk : kt.ks with
          | nil => rw [hkk] at hf'; simp [fitsAll] at hf'
          | cons q qs =>
            rw [hkk] at hf'
            simp only [fitsAll, Bool.and_eq_true] at hf'
            cases q <;> cases y <;> simp [CK.fits] at hf' <;> simp [V.one, Value.oneCell'] at this
      · have := hxr.one
        rw [hx] at hf
        cases hkk : kt.ks with
        | nil => rw [hkk] at hf; simp [fitsAll] at hf
        | cons q qs =>
          rw [hkk] at hf
          simp only [fitsAll, Bool.and_eq_true] at hf
          cases q <;> cases x <;> simp [CK.fits] at hf <;> simp [V.one, Value.oneCell'] at this
  subst hcc2
  have hb : Instr.sameBits 10000 c c = true := by
    cases g with
    | true =>
      obtain ⟨arr, rfl, hl⟩ := hcc
      have := sameBits_all 9999 hf hl
      show (arr.size == arr.size && (arr.toList.zip arr.toList).all fun (x, y) => Instr.sameBits 9999 x y) = true
      simp [this]
    | false =>
      obtain ⟨x, hx, hxr⟩ := hcc
      rw [hx] at hf
      cases hkk : kt.ks with
      | nil => rw [hkk] at hf; simp [fitsAll] at hf
      | cons q qs =>
        rw [hkk] at hf
        simp only [fitsAll, Bool.and_eq_true] at hf
        exact sameBits_one _ hf.1 hxr
  simp [Instr.keyThatStays, hb]

theorem f_mapSet (G : Globs gl M) (E : EnvRel M β N e a) (S : Sim M β hp.get w0 w) (hg : ∀ b o, g b = some o → hp.get b = some o) {t : TypeId} {x y z : Operand} (ho : o.op = .mapUpdate t x y z ∨ o.op = .insert t x y z) (hc : cOp P gl (.mapUpdate t x y z) = some i) (hev : evI g id e i = some eff) :
    Follows P M β w0 w (execOp a.eval o) hp id eff := by
  simp only [cOp] at hc
  split at hc
  · rename_i kty el hd
    simp only [Option.bind_eq_some_iff, Option.map_eq_some_iff] at hc
    obtain ⟨kt, hkt, x', hx, y', hy, z', hz, rfl⟩ := hc
    have hr := cX_rel G E hx
    have hq := cX_rel G E hy
    have hv := cX_rel G E hz
    simp only [evI] at hev
    split at hev
    · rename_i b hvx
      rw [hvx] at hr; simp only [Rel] at hr
      obtain ⟨j, hj, he⟩ := hr
      split at hev
      · rename_i es clock hb
        split at hev
        · rename_i hcond
          simp only [Bool.and_eq_true, List.all_eq_true] at hcond
          obtain ⟨hfit, hall⟩ := hcond
          obtain ⟨j', hj', hbase, ces, hw, hent, hborn, hnd, _, hM⟩ := S.obj _ _ (hg _ _ hb)
          rw [hj] at hj'; cases hj'
          obtain ⟨r2, h2, h3⟩ := findKey_run hkt hfit hq w hent (fun x hx => hall x hx)
          have hck := checkKey_run hkt hfit hq false w
          have hgo := run_getObj (P := P) hw (fun _ _ _ h => by cases h)
          have hrun : ∀ (ob : Go.Obj), (match r2 with
              | some (i, _) => do
                let key ← Instr.keyThatStays (((ces[i]?).map (·.key)).getD (a.eval y)) (a.eval y)
                setObj j.blk (.map (ces.modify i fun e => { e with key, val := a.eval z }) clock)
              | none => setObj j.blk (.map (ces.push { key := a.eval y, val := a.eval z, born := clock }) (clock + 1)) : Sem Unit).run P w = .ok () (World.objSet w j.blk ob) →
              (execOp a.eval o).run P w = .ok .skip (World.objSet w j.blk ob) := fun ob h => by
            have : (execOp a.eval o) = (do Instr.mapUpdate t (a.eval x) (a.eval y) (a.eval z); pure .skip) := by
              rcases ho with ho | ho <;> simp only [execOp, ho]
            rw [this]
            simp only [Sem.run_bind, Instr.mapUpdate, run_underlying hd, Result.andThen_ok, he, hgo, hck, h2]
            cases r2 with
            | none => simp only [h, Result.andThen_ok, Sem.run_pure]
            | some q => simp only [Sem.run_bind] at h; simp only [Sem.run_bind, h, Result.andThen_ok, Sem.run_pure]
          cases hfe : findE (y'.val e).cells es 0 with
          | none =>
            rw [hfe] at hev h3
            cases hev
            have h3' : r2 = none := h3
            subst h3'
            have hso := run_setObj (P := P) (ob' := .map (ces.push { key := a.eval y, val := a.eval z, born := clock }) (clock + 1)) hw (fun _ _ _ h => by cases h)
            have S' := S.objSet hj hbase hw (fun _ _ _ h => by cases h) (hM rfl) (hg _ _ hb) rfl (ob' := .map (ces.push { key := a.eval y, val := a.eval z, born := clock }) (clock + 1))
              (o' := .map (es ++ [(y'.val e, z'.val e, clock)]) (clock + 1) false)
              ⟨_, objSet_get hw, by rw [Array.toList_push]; exact hent.snoc hq hv rfl, fun m hm => by
                rw [Array.toList_push, List.mem_append] at hm
                rcases hm with hm | hm
                · have := hborn m hm; omega
                · simp at hm; subst hm; simp, by
                rw [Array.toList_push, List.map_append, List.nodup_append]
                refine ⟨hnd, by simp, fun p hp q hq => ?_⟩
                simp at hq; subst hq
                obtain ⟨m, hm, rfl⟩ := List.mem_map.1 hp
                have := hborn m hm; omega, (fun h => by cases h), fun _ => hM rfl⟩
            exact ⟨β, _, undef, .inr ⟨hrun _ hso, rfl⟩, .refl β, fun _ _ => rfl, S', undef_rel _ _⟩
          | some q =>
            obtain ⟨ix, v⟩ := q
            rw [hfe] at hev h3
            cases hev
            obtain ⟨c, h3', hcr⟩ := h3
            subst h3'
            obtain ⟨x0, _, hx0, hsame, _⟩ := findE_some hfe
            simp only [Nat.sub_zero] at hx0
            obtain ⟨m, hm, hmk, hmv, hmb⟩ := hent.get hx0
            have hfit0 : kt.fits x0.1 = true := hall x0 (List.mem_of_getElem? hx0)
            have hm' : ces[ix]? = some m := by simpa using hm
            have hstay := keyStays hkt hfit hfit0 hq hmk hsame w
            have hso := run_setObj (P := P) (ob' := .map (ces.modify ix fun e => { e with key := a.eval y, val := a.eval z }) clock) hw (fun _ _ _ h => by cases h)
            have hmod : (ces.modify ix fun e => { e with key := a.eval y, val := a.eval z }).toList = ces.toList.set ix { m with key := a.eval y, val := a.eval z } := by
              apply List.ext_getElem?
              intro k
              rw [Array.getElem?_toList, Array.getElem?_modify, List.getElem?_set]
              by_cases hk : ix = k
              · subst hk
                have hlt : ix < ces.toList.length := by
                  rcases Nat.lt_or_ge ix ces.toList.length with h | h
                  · exact h
                  · rw [List.getElem?_eq_none h] at hm; cases hm
                simp [hm']
                simpa using hlt
              · simp [hk]
            have S' := S.objSet hj hbase hw (fun _ _ _ h => by cases h) (hM rfl) (hg _ _ hb) rfl (ob' := .map (ces.modify ix fun e => { e with key := a.eval y, val := a.eval z }) clock)
              (o' := .map (es.set ix (y'.val e, z'.val e, ((es[ix]?).map (·.2.2)).getD 0)) clock false)
              ⟨_, objSet_get hw, by rw [hmod]; exact hent.set ix hq hv (by simp [hx0, hmb]), fun m' hm' => by
                rw [hmod] at hm'
                rcases List.mem_or_eq_of_mem_set hm' with h | h
                · exact hborn m' h
                · subst h; exact hborn m (List.mem_of_getElem? hm), by
                rw [hmod, List.map_set]
                have : (ces.toList.map (·.born)).set ix m.born = ces.toList.map (·.born) := by
                  apply List.ext_getElem?
                  intro k
                  rw [List.getElem?_set]
                  by_cases hk : ix = k
                  · subst hk
                    simp only [if_true, List.getElem?_map, hm, Option.map_some, List.length_map]
                    rw [if_pos]
                    rcases Nat.lt_or_ge ix ces.toList.length with h | h
                    · exact h
                    · rw [List.getElem?_eq_none h] at hm; cases hm
                  · rw [if_neg hk]
                rw [this]; exact hnd, (fun h => by cases h), fun _ => hM rfl⟩
            refine ⟨β, _, undef, .inr ⟨hrun _ ?_, rfl⟩, .refl β, fun _ _ => rfl, S', undef_rel _ _⟩
            simp only [hm', Option.map_some, Option.getD_some, Sem.run_bind, hstay, Result.andThen_ok, hso]
        · cases hev
      · cases hev
    · cases hev
  · cases hc

theorem bound_run {x : Option Operand} {x' : Option X} (G : Globs gl M) (E : EnvRel M β N e a) (hx : cXo gl x = some x') {d most n : Nat} (h : bound e x' d most = some n) :
    (x = none ∧ x' = none ∧ n = d) ∨ ∃ y y', x = some y ∧ x' = some y' ∧ n ≤ most ∧ ∃ k m, a.eval y = .int k m ∧ 0 ≤ m ∧ m.toNat = n ∧ ∀ top code (w : World), n ≤ top → (Instr.sliceBound (.int k m) top code).run P w = .ok n w := by
  cases x with
  | none =>
    simp only [cXo, Option.some.injEq] at hx; subst hx
    simp only [bound, Option.some.injEq] at h
    exact .inl ⟨rfl, rfl, h.symm⟩
  | some y =>
    simp only [cXo, Option.map_eq_some_iff] at hx
    obtain ⟨y', hy, rfl⟩ := hx
    have hr := cX_rel G E hy
    simp only [bound] at h
    split at h
    · rename_i k m hv
      rw [hv] at hr; simp only [Rel] at hr
      split at h
      · rename_i hm
        cases h
        refine .inr ⟨y, y', rfl, rfl, by omega, k, m, hr, hm.1, rfl, fun top code w htop => ?_⟩
        have : 0 ≤ m ∧ m ≤ top := ⟨hm.1, by omega⟩
        simp [Instr.sliceBound, asIntOf, this]
      · cases h
    · cases h

theorem bytesOf_extract (s : ByteArray) (l h : Nat) : bytesOf (s.extract l h) = ((bytesOf s).take h).drop l := by
  simp only [bytesOf, ByteArray.data_extract, Array.toList_extract, List.extract, ← List.map_take, ← List.map_drop]
  congr 1
  rw [List.drop_take]

theorem f_sliceS (G : Globs gl M) (E : EnvRel M β N e a) (S : Sim M β hp.get w0 w) {t : TypeId} {x : Operand} {lo hi : Option Operand} (ho : o.op = .slice t x lo hi none) (hd : P.underlying t = some .string) {x' : X} {lo' hi' : Option X}
    (hx : cX gl x = some x') (hlo : cXo gl lo = some lo') (hhi : cXo gl hi = some hi') (hev : evI g id e (.sliceS x' lo' hi') = some eff) : Follows P M β w0 w (execOp a.eval o) hp id eff := by
  have hr := cX_rel G E hx
  simp only [evI] at hev
  split at hev
  · rename_i s hv
    rw [hv] at hr; simp only [Rel] at hr
    obtain ⟨bs, he, hb⟩ := hr
    simp only [Option.bind_eq_some_iff, Option.some.injEq] at hev
    obtain ⟨h, hh, l, hl, rfl⟩ := hev
    subst hb
    rw [bytesOf_length] at hh
    have hsz : h ≤ bs.size ∧ l ≤ h ∧ (Instr.sliceBounds false bs.size bs.size (lo.map a.eval) (hi.map a.eval) none).run P w = .ok (l, h, bs.size) w := by
      rcases bound_run (P := P) G E hhi hh with ⟨rfl, rfl, rfl⟩ | ⟨y, y', rfl, rfl, hle, k, m, hy, _, _, hrun⟩
      · rcases bound_run (P := P) G E hlo hl with ⟨rfl, rfl, rfl⟩ | ⟨z, z', rfl, rfl, hle2, k2, m2, hz, _, _, hrun2⟩
        · exact ⟨Nat.le_refl _, Nat.zero_le _, by simp [Instr.sliceBounds]⟩
        · exact ⟨Nat.le_refl _, hle2, by simp [Instr.sliceBounds, hz, hrun2 _ _ _ hle2]⟩
      · rcases bound_run (P := P) G E hlo hl with ⟨rfl, rfl, rfl⟩ | ⟨z, z', rfl, rfl, hle2, k2, m2, hz, _, _, hrun2⟩
        · exact ⟨hle, Nat.zero_le _, by simp [Instr.sliceBounds, hy, hrun _ _ _ hle]⟩
        · exact ⟨hle, hle2, by simp [Instr.sliceBounds, hy, hrun _ _ _ hle, hz, hrun2 _ _ _ hle2]⟩
    obtain ⟨_, _, h3⟩ := hsz
    refine Follows.same S (c := .string (bs.extract l h)) ?_ (by simp only [Rel]; exact ⟨_, rfl, bytesOf_extract bs l h⟩)
    have hnn : Option.map a.eval none = none := rfl
    simp only [execOp, ho, he, Instr.sliceAt, Sem.run_bind, run_underlying hd, Result.andThen_ok, Instr.slice, hnn, Option.isSome_none, Bool.false_eq_true, if_false, h3, Sem.run_pure]
  · cases hev

end
end Go.Abs

/-
  ABS, part 16: slices cut; lengths; copy; append.
-/
namespace Go.Abs
open Go Go.RowKit
set_option linter.unusedSectionVars false
variable [Syms]

section
variable {P : Program} {M : Mem} {β : Places} {w0 w : World} {hp : Heap} {id N : Nat} {e : Env} {a : Act} {gl : Nat → Option (List V)} {g : View} {o : Oper} {i : I} {eff : Eff}

theorem f_sliceL (G : Globs gl M) (E : EnvRel M β N e a) (S : Sim M β hp.get w0 w) (hg : ∀ b o, g b = some o → hp.get b = some o) {t el : TypeId} {x : Operand} {lo hi mx : Option Operand} (ho : o.op = .slice t x lo hi mx) (hd : P.underlying t = some (.slice el)) {n : Nat} (hn : tSize P el = some n)
    (hmh : (mx.isSome && hi.isNone) = false) {x' : X} {lo' hi' mx' : Option X} (hx : cX gl x = some x') (hlo : cXo gl lo = some lo') (hhi : cXo gl hi = some hi') (hmx : cXo gl mx = some mx') (hev : evI g id e (.sliceL n x' lo' hi' mx') = some eff) :
    Follows P M β w0 w (execOp a.eval o) hp id eff := by
  have hr := cX_rel G E hx
  simp only [evI, Option.map_eq_some_iff] at hev
  obtain ⟨v, hv, rfl⟩ := hev
  -- the model's bounds, out of the evaluator's
  have bounds : ∀ (len most cap l h m : Nat), most ≤ cap → len ≤ most → (match mx' with | none => bound e hi' len most = some h ∧ m = cap | some _ => bound e mx' 0 most = some m ∧ bound e hi' len m = some h) → bound e lo' 0 h = some l →
      (Instr.sliceBounds true len cap (lo.map a.eval) (hi.map a.eval) (mx.map a.eval)).run P w = .ok (l, h, m) w ∧ l ≤ h ∧ h ≤ m ∧ m ≤ cap := by
    intro len most cap l h m hmc hlm hm hl
    cases mx with
    | none =>
      simp only [cXo, Option.some.injEq] at hmx
      subst hmx
      obtain ⟨hh, rfl⟩ := hm
      rcases bound_run (P := P) G E hhi hh with ⟨rfl, rfl, rfl⟩ | ⟨y, y', rfl, rfl, hle, k, q, hy, _, _, hrun⟩
      · rcases bound_run (P := P) G E hlo hl with ⟨rfl, rfl, rfl⟩ | ⟨z, z', rfl, rfl, hle2, k2, m2, hz, _, _, hrun2⟩
        · exact ⟨by simp [Instr.sliceBounds], by omega, by omega, Nat.le_refl _⟩
        · exact ⟨by simp [Instr.sliceBounds, hz, hrun2 _ _ _ hle2], hle2, by omega, Nat.le_refl _⟩
      · rcases bound_run (P := P) G E hlo hl with ⟨rfl, rfl, rfl⟩ | ⟨z, z', rfl, rfl, hle2, k2, m2, hz, _, _, hrun2⟩
        · exact ⟨by simp [Instr.sliceBounds, hy, hrun m .sliceAcap w (by omega)], by omega, by omega, Nat.le_refl _⟩
        · exact ⟨by simp [Instr.sliceBounds, hy, hrun m .sliceAcap w (by omega), hz, hrun2 _ _ _ hle2], hle2, by omega, Nat.le_refl _⟩
    | some mo =>
      cases hi with
      | none => simp at hmh
      | some ho' =>
        have hmx2 := hmx
        simp only [cXo, Option.map_eq_some_iff] at hmx2
        obtain ⟨my, _, rfl⟩ := hmx2
        obtain ⟨hmm, hh⟩ := hm
        rcases bound_run (P := P) G E hmx hmm with ⟨h1, _⟩ | ⟨q, q', hq, _, hqle, k0, m0, hq0, _, _, hrun0⟩
        · cases h1
        · cases hq
          rcases bound_run (P := P) G E hhi hh with ⟨h1, _⟩ | ⟨y, y', hy', _, hle, k, q, hy, _, _, hrun⟩
          · cases h1
          · cases hy'
            rcases bound_run (P := P) G E hlo hl with ⟨rfl, rfl, rfl⟩ | ⟨z, z', rfl, rfl, hle2, k2, m2, hz, _, _, hrun2⟩
            · exact ⟨by simp [Instr.sliceBounds, hq0, hrun0 cap .slice3Acap w (by omega), hy, hrun m .slice3B w hle], by omega, hle, by omega⟩
            · exact ⟨by simp [Instr.sliceBounds, hq0, hrun0 cap .slice3Acap w (by omega), hy, hrun m .slice3B w hle, hz, hrun2 h .slice3C w hle2], hle2, hle, by omega⟩
  have hrun : ∀ (A : Option Addr) (len cap l h m : Nat), a.eval x = .slice A len cap → (Instr.sliceBounds true len cap (lo.map a.eval) (hi.map a.eval) (mx.map a.eval)).run P w = .ok (l, h, m) w →
      (execOp a.eval o).run P w = .ok (.value (.slice (if m = l then A else A.map (·.add (l * n))) (h - l) (m - l))) w := by
    intro A len cap l h m he hb
    simp only [execOp, ho, he, Instr.sliceAt, Sem.run_bind, run_underlying hd, Result.andThen_ok, Instr.slice, hb, tSize_run hn, Sem.run_pure]
  cases hxv : x'.val e with
  | nilSlice =>
    rw [hxv] at hv hr; simp only [Rel] at hr
    simp only [evSlice, Option.bind_eq_some_iff] at hv
    obtain ⟨m, hm, h, hh, l, hl, hv⟩ := hv
    cases hv
    have hm0 : m = 0 := by
      rcases bound_run (P := P) G E hmx hm with ⟨_, _, h⟩ | ⟨_, _, _, _, h, _⟩ <;> omega
    subst hm0
    have hb := bounds 0 0 0 l h 0 (Nat.le_refl _) (Nat.le_refl _) (by
      cases mx' with
      | none => exact ⟨hh, rfl⟩
      | some _ => exact ⟨hm, hh⟩) hl
    obtain ⟨hb, h1, h2, _⟩ := hb
    have hl0 : l = 0 := by omega
    have hh0 : h = 0 := by omega
    subst hl0 hh0
    exact Follows.same S (hrun none 0 0 0 0 0 hr hb) (by simp [Rel])
  | slice b off len cap =>
    rw [hxv] at hv hr; simp only [Rel] at hr
    obtain ⟨j, c, hj, hle, hcap, hext, hsize, A, he, hA⟩ := hr
    simp only [evSlice] at hv
    rw [Option.bind_eq_some_iff] at hv
    obtain ⟨_, hesz, hv⟩ := hv
    · have hesz' : j.esz = n := by
        split at hesz
        · rename_i cs es fz sp hb
          obtain ⟨j', hj', h1, _⟩ := S.cell (hg _ _ hb)
          rw [hj] at hj'; cases hj'
          split at hesz
          · rename_i he'; rw [← h1]; exact he'
          · cases hesz
        · cases hesz
      have hmost : cap.getD len ≤ c ∧ len ≤ cap.getD len := by
        cases cap with
        | none => exact ⟨hle, Nat.le_refl _⟩
        | some k => have := hcap k rfl; subst this; exact ⟨Nat.le_refl _, hle⟩
      have fin : ∀ l h m cap', (Instr.sliceBounds true len c (lo.map a.eval) (hi.map a.eval) (mx.map a.eval)).run P w = .ok (l, h, m) w → l ≤ h → h ≤ m → m ≤ c → (∀ k, cap' = some k → k = m - l) → (cap' = none → cap = none ∧ m = c) →
          Follows P M β w0 w (execOp a.eval o) hp id { val := .slice b (off + l * n) (h - l) cap' } := by
        intro l h m cap' hb hlh hhm hmc hc1 hc2
        refine Follows.same S (hrun (some A) len c l h m he hb) ?_
        simp only [Rel]
        have hmul : l * n + (m - l) * n = m * n := by rw [← Nat.add_mul]; congr 1; omega
        have hmulc : m * n ≤ c * n := Nat.mul_le_mul_right _ hmc
        rw [hesz'] at hext hsize
        refine ⟨j, m - l, hj, by omega, hc1, fun hn' => ?_, by rw [hesz']; omega, ?_⟩
        · obtain ⟨h1, h2⟩ := hc2 hn'
          have := hext h1
          subst h2
          rw [hesz']; omega
        · by_cases hml : m = l
          · exact ⟨A, by simp [hml], fun hne => by omega⟩
          · refine ⟨⟨j.blk, j.off + (off + l * n), none⟩, ?_, fun _ => rfl⟩
            have := hA (by omega)
            subst this
            simp [hml, add_none, Nat.add_assoc]
      cases mx' with
      | none =>
        simp only [Option.bind_eq_some_iff] at hv
        obtain ⟨h, hh, l, hl, hv⟩ := hv
        cases hv
        -- the upper bound may be up to the capacity that is known
        have hb2 : bound e hi' len (cap.getD len) = some h := hh
        obtain ⟨hb, h1, h2, h3⟩ := bounds len (cap.getD len) c l h c hmost.1 hmost.2 ⟨hb2, rfl⟩ hl
        exact fin l h c _ hb h1 h2 h3 (fun k hk => by cases cap with | none => cases hk | some q => simp at hk; have := hcap q rfl; omega) (fun hk => by cases cap with | none => exact ⟨rfl, rfl⟩ | some q => cases hk)
      | some mm =>
        simp only [Option.bind_eq_some_iff] at hv
        obtain ⟨m, hm, h, hh, l, hl, hv⟩ := hv
        cases hv
        obtain ⟨hb, h1, h2, h3⟩ := bounds len (cap.getD len) c l h m hmost.1 hmost.2 ⟨hm, hh⟩ hl
        exact fin l h m _ hb h1 h2 h3 (fun k hk => by simp at hk; omega) (fun hk => by cases hk)
  | rslice row off len cap =>
    rw [hxv] at hv hr; simp only [Rel] at hr
    obtain ⟨B, O, c, hrow, hle, hcap, A, he, hA⟩ := hr
    simp only [evSlice] at hv
    have fin : ∀ l h m cap', (Instr.sliceBounds true len c (lo.map a.eval) (hi.map a.eval) (mx.map a.eval)).run P w = .ok (l, h, m) w → l ≤ h → h ≤ m → m ≤ c → (∀ k, cap' = some k → k = m - l) →
        Follows P M β w0 w (execOp a.eval o) hp id { val := .rslice row (off + l * n) (h - l) cap' } := by
      intro l h m cap' hb hlh hhm hmc hc1
      refine Follows.same S (hrun (some A) len c l h m he hb) ?_
      simp only [Rel]
      refine ⟨B, O, m - l, hrow, by omega, hc1, ?_⟩
      by_cases hml : m = l
      · exact ⟨A, by simp [hml], fun hne => by omega⟩
      · refine ⟨⟨B, O + (off + l * n), none⟩, ?_, fun _ => rfl⟩
        have := hA (by omega)
        subst this
        simp [hml, add_none, Nat.add_assoc]
    cases mx' with
    | none =>
      simp only [Option.bind_eq_some_iff] at hv
      obtain ⟨h, hh, l, hl, hv⟩ := hv
      cases hv
      obtain ⟨hb, h1, h2, h3⟩ := bounds len len c l h c hle (Nat.le_refl _) ⟨hh, rfl⟩ hl
      exact fin l h c _ hb h1 h2 h3 (fun k hk => by cases cap with | none => cases hk | some q => simp at hk; have := hcap q rfl; omega)
    | some mm =>
      simp only [Option.bind_eq_some_iff] at hv
      obtain ⟨m, hm, h, hh, l, hl, hv⟩ := hv
      cases hv
      obtain ⟨hb, h1, h2, h3⟩ := bounds len len c l h m hle (Nat.le_refl _) ⟨hm, hh⟩ hl
      exact fin l h m _ hb h1 h2 h3 (fun k hk => by simp at hk; omega)
  | _ => rw [hxv] at hv; simp [evSlice] at hv

theorem vlen_rel {v : V} {c : Value} (h : Rel M β v c) {n : Nat} (hv : vlen v = some n) : (∃ A q, c = .slice A n q ∧ n ≤ q) ∨ ∃ s, c = .string s ∧ s.size = n := by
  cases v <;> simp [vlen] at hv <;> simp only [Rel] at h
  · obtain ⟨s, rfl, hs⟩ := h; subst hs; rw [bytesOf_length] at hv; exact .inr ⟨s, rfl, hv⟩
  · subst h hv; exact .inl ⟨none, 0, rfl, Nat.le_refl _⟩
  · obtain ⟨i, q, _, hle, _, _, _, A, rfl, _⟩ := h; subst hv; exact .inl ⟨some A, q, rfl, hle⟩
  · obtain ⟨B, O, q, _, hle, _, A, rfl, _⟩ := h; subst hv; exact .inl ⟨some A, q, rfl, hle⟩

theorem f_lenStr (G : Globs gl M) (E : EnvRel M β N e a) (S : Sim M β hp.get w0 w) {c : Call} {t : TypeId} {x : Operand} (ho : o.op = .call c) (hcal : c.callee = .builtin .len) (hargs : c.args.toList = [x]) (hts : c.argTypes.toList = [t]) (hd : P.underlying t = some .string) {x' : X}
    (hx : cX gl x = some x') (hev : evI g id e (.lenStr x') = some eff) : Follows P M β w0 w (execOp a.eval o) hp id eff := by
  have hr := cX_rel G E hx
  obtain ⟨callee, args, argTypes⟩ := c
  simp only at hcal hargs hts
  subst hcal
  have ha : args = #[x] := Array.toList_inj.1 (by simpa using hargs)
  have ht : argTypes = #[t] := Array.toList_inj.1 (by simpa using hts)
  subst ha ht
  simp only [evI] at hev
  split at hev
  · rename_i s hv
    cases hev
    rw [hv] at hr; simp only [Rel] at hr
    obtain ⟨bs, he, rfl⟩ := hr
    refine Follows.same S (c := .int .i64 bs.size) ?_ (by simp only [Rel, bytesOf_length])
    simp [execOp, ho, Go.resolve, invoke, builtin, Builtin.len_, run_underlying hd, he, goInt]
  · rename_i s hv
    cases hev
    rw [hv] at hr; simp only [Rel] at hr
    obtain ⟨bs, he, hw⟩ := hr
    have hl := hw.length
    refine Follows.same S (c := .int .i64 bs.size) ?_ (by simp only [Rel]; rw [← hl, bytesOf_length])
    simp [execOp, ho, Go.resolve, invoke, builtin, Builtin.len_, run_underlying hd, he, goInt]
  · cases hev

theorem f_lenSlice (G : Globs gl M) (E : EnvRel M β N e a) (S : Sim M β hp.get w0 w) {c : Call} {t el : TypeId} {x : Operand} (ho : o.op = .call c) (hcal : c.callee = .builtin .len) (hargs : c.args.toList = [x]) (hts : c.argTypes.toList = [t]) (hd : P.underlying t = some (.slice el)) {x' : X}
    (hx : cX gl x = some x') (hev : evI g id e (.lenSlice x') = some eff) : Follows P M β w0 w (execOp a.eval o) hp id eff := by
  have hr := cX_rel G E hx
  obtain ⟨callee, args, argTypes⟩ := c
  simp only at hcal hargs hts
  subst hcal
  have ha : args = #[x] := Array.toList_inj.1 (by simpa using hargs)
  have ht : argTypes = #[t] := Array.toList_inj.1 (by simpa using hts)
  subst ha ht
  simp only [evI] at hev
  split at hev
  · cases hev
  · rename_i hns
    simp only [Option.map_eq_some_iff] at hev
    obtain ⟨n, hn, rfl⟩ := hev
    rcases vlen_rel hr hn with ⟨A, q, he, _⟩ | ⟨s, he, hs⟩
    · refine Follows.same S (c := .int .i64 n) ?_ (by simp only [Rel])
      simp [execOp, ho, Go.resolve, invoke, builtin, Builtin.len_, run_underlying hd, he, goInt]
    · exfalso
      cases hxv : x'.val e <;> rw [hxv] at hr hns hn <;> simp [vlen] at hn <;> simp only [Rel] at hr
      · exact hns _ rfl
      · rw [he] at hr; cases hr
      · obtain ⟨i, q, _, _, _, _, _, A, h, _⟩ := hr; rw [he] at h; cases h
      · obtain ⟨B, O, q, _, _, _, A, h, _⟩ := hr; rw [he] at h; cases h

theorem f_lenMap (G : Globs gl M) (E : EnvRel M β N e a) (S : Sim M β hp.get w0 w) (hg : ∀ b o, g b = some o → hp.get b = some o) {c : Call} {t kt el : TypeId} {x : Operand} (ho : o.op = .call c) (hcal : c.callee = .builtin .len) (hargs : c.args.toList = [x]) (hts : c.argTypes.toList = [t])
    (hd : P.underlying t = some (.map kt el)) {x' : X} (hx : cX gl x = some x') (hev : evI g id e (.lenMap x') = some eff) : Follows P M β w0 w (execOp a.eval o) hp id eff := by
  have hr := cX_rel G E hx
  obtain ⟨callee, args, argTypes⟩ := c
  simp only at hcal hargs hts
  subst hcal
  have ha : args = #[x] := Array.toList_inj.1 (by simpa using hargs)
  have ht : argTypes = #[t] := Array.toList_inj.1 (by simpa using hts)
  subst ha ht
  simp only [evI] at hev
  split at hev
  · rename_i hv
    cases hev
    rw [hv] at hr; simp only [Rel] at hr
    refine Follows.same S (c := .int .i64 0) ?_ (by simp only [Rel])
    simp [execOp, ho, Go.resolve, invoke, builtin, Builtin.len_, run_underlying hd, hr, goInt]
  · rename_i ks vs hv
    split at hev
    · rename_i hlen
      cases hev
      rw [hv] at hr; simp only [Rel] at hr
      obtain ⟨r, es, clock, he, hMo, hks, hvs, _⟩ := hr
      obtain ⟨_, hl1, _⟩ := RelEnt_of hks hvs
      have hgo := run_getObj (P := P) (S.memo _ _ hMo) (fun _ _ _ h => by cases h)
      refine Follows.same S (c := .int .i64 es.size) ?_ (by simp only [Rel]; rw [hl1]; simp)
      simp [execOp, ho, Go.resolve, invoke, builtin, Builtin.len_, run_underlying hd, he, hgo, goInt]
    · cases hev
  · rename_i b hv
    split at hev
    · rename_i es clock fzn hb
      cases hev
      rw [hv] at hr; simp only [Rel] at hr
      obtain ⟨j, hj, he⟩ := hr
      obtain ⟨j', hj', _, ces, hw, hent, _⟩ := S.obj _ _ (hg _ _ hb)
      rw [hj] at hj'; cases hj'
      have hgo := run_getObj (P := P) hw (fun _ _ _ h => by cases h)
      have hl := hent.length
      refine Follows.same S (c := .int .i64 ces.size) ?_ (by simp only [Rel]; rw [← hl]; simp)
      simp [execOp, ho, Go.resolve, invoke, builtin, Builtin.len_, run_underlying hd, he, hgo, goInt]
    · cases hev
  · cases hev

theorem sx_means {v : V} {x : Sx} (h : v.sx = some x) {c : Value} (hr : Rel M β v c) : ∃ n, c = .int x.kind n ∧ x.Means n := by
  unfold V.sx at h
  split at h
  · cases h
    simp only [Rel] at hr
    exact ⟨_, hr, (Poly.at_const _).symm, Int.le_refl _, Int.le_refl _, fun f h => nomatch h⟩
  · cases h
    simp only [Rel] at hr
    exact hr
  · cases h

theorem f_minmax (G : Globs gl M) (E : EnvRel M β N e a) (S : Sim M β hp.get w0 w) {c : Call} {x y : Operand} {mx : Bool} (ho : o.op = .call c) (hcal : c.callee = .builtin (if mx then .max else .min)) (hargs : c.args.toList = [x, y]) {x' y' : X}
    (hx : cX gl x = some x') (hy : cX gl y = some y') (hev : evI g id e (.minmax mx x' y') = some eff) : Follows P M β w0 w (execOp a.eval o) hp id eff := by
  have hr := cX_rel G E hx
  have hq := cX_rel G E hy
  obtain ⟨callee, args, argTypes⟩ := c
  simp only at hcal hargs
  subst hcal
  have ha : args = #[x, y] := Array.toList_inj.1 (by simpa using hargs)
  subst ha
  simp only [evI] at hev
  split at hev
  · rename_i k p k' q hv1 hv2
    split at hev
    · rename_i hk
      subst hk
      cases hev
      rw [hv1] at hr; rw [hv2] at hq; simp only [Rel] at hr hq
      cases mx with
      | true =>
        refine Follows.same S (c := .int k (if q > p then q else p)) ?_ (by simp only [Rel, if_true])
        simp [execOp, ho, Go.resolve, invoke, builtin, Builtin.max_, Builtin.max2, hr, hq]
      | false =>
        refine Follows.same S (c := .int k (if q < p then q else p)) ?_ (by simp only [Rel, Bool.false_eq_true, if_false])
        simp [execOp, ho, Go.resolve, invoke, builtin, Builtin.min_, Builtin.min2, hr, hq]
    · cases hev
  · rename_i p q hv1 hv2
    cases hev
    rw [hv1] at hr; rw [hv2] at hq; simp only [Rel] at hr hq
    obtain ⟨s1, e1, rfl⟩ := hr
    obtain ⟨s2, e2, rfl⟩ := hq
    have hl := bytesOf_less s1 s2
    have he : (s1.toList == s2.toList) = (bytesOf s1 == bytesOf s2) := bytesOf_beq s1 s2
    cases mx with
    | true =>
      refine Follows.same S (c := .string (if Op.bytesLess s1.toList s2.toList then s2 else s1)) ?_ ?_
      · simp only [execOp, ho, Go.resolve, Sem.run_bind, Sem.run_pure, Result.andThen_ok, invoke, builtin, Builtin.max_, List.map_toArray, List.map_cons, List.map_nil, e1, e2, List.foldlM_cons, List.foldlM_nil, Builtin.max2, Op.stringOp, asBool, if_true]
        cases Op.bytesLess s1.toList s2.toList <;> rfl
      · simp only [Rel, if_true]
        refine ⟨_, rfl, ?_⟩
        rw [hl]; split <;> rfl
    | false =>
      refine Follows.same S (c := .string (if Op.bytesLess s1.toList s2.toList || s1.toList == s2.toList then s1 else s2)) ?_ ?_
      · simp only [execOp, ho, Go.resolve, Sem.run_bind, Sem.run_pure, Result.andThen_ok, invoke, builtin, Builtin.min_, List.map_toArray, List.map_cons, List.map_nil, e1, e2, List.foldlM_cons, List.foldlM_nil, Builtin.min2, Op.stringOp, asBool, Bool.false_eq_true, if_false]
      · simp only [Rel, Bool.false_eq_true, if_false]
        refine ⟨_, rfl, ?_⟩
        rw [hl, he]; split <;> rfl
  · simp only [Option.map_eq_some_iff] at hev
    obtain ⟨r, hsm, rfl⟩ := hev
    unfold symMax at hsm
    split at hsm
    · rename_i sx sy hsx hsy
      obtain ⟨p, hp', hmp⟩ := sx_means hsx hr
      obtain ⟨q, hq', hmq⟩ := sx_means hsy hq
      split at hsm
      · rename_i hk
        rw [← hk] at hq'
        have b1 := hmp.bnd
        have b2 := hmq.bnd
        rw [hp'] at hr
        rw [hq'] at hq
        cases mx with
        | true =>
          refine Follows.same S (c := .int sx.kind (if q > p then q else p)) ?_ ?_
          · simp [execOp, ho, Go.resolve, invoke, builtin, Builtin.max_, Builtin.max2, hp', hq']
          · split at hsm
            · cases hsm
              simp only [if_true]
              by_cases hc : q > p
              · rw [if_pos hc]; exact hq
              · rw [if_neg hc, show p = q by omega]; exact hq
            · split at hsm
              · cases hsm
                simp only [if_true]
                rw [if_neg (by omega)]; exact hr
              · cases hsm
        | false =>
          refine Follows.same S (c := .int sx.kind (if q < p then q else p)) ?_ ?_
          · simp [execOp, ho, Go.resolve, invoke, builtin, Builtin.min_, Builtin.min2, hp', hq']
          · split at hsm
            · cases hsm
              simp only [Bool.false_eq_true, if_false]
              rw [if_neg (by omega)]; exact hr
            · split at hsm
              · cases hsm
                simp only [Bool.false_eq_true, if_false]
                by_cases hc : q < p
                · rw [if_pos hc]; exact hq
                · rw [if_neg hc, show p = q by omega]; exact hq
              · cases hsm
      · cases hsm
    · cases hsm

end
end Go.Abs

/-
  ABS, part 17: copy and append.
-/
namespace Go.Abs
open Go Go.RowKit
set_option linter.unusedSectionVars false
variable [Syms]

section
variable {P : Program} {M : Mem} {β : Places} {w0 w : World} {hp : Heap} {id N : Nat} {e : Env} {a : Act} {gl : Nat → Option (List V)} {g : View} {o : Oper} {i : I} {eff : Eff}

theorem cell?_heap {w w' : World} (h : w'.heap = w.heap) (x : Addr) : w'.cell? x = w.cell? x := by unfold World.cell?; rw [h]

/-- The cells of a slice's, or text's, first elements. -/
theorem firstCells_run (S : Sim M β hp.get w0 w) (hg : ∀ b o, g b = some o → hp.get b = some o) {v : V} {c : Value} (hr : Rel M β v c) {esz n : Nat} {cs : List V} (h : firstCells g esz n v = some cs) :
    ∃ l, (∀ w' : World, w'.heap = w.heap → (Builtin.firstCells esz n c).run P w' = .ok l.toArray w') ∧ RelL M β cs l ∧ (∀ v ∈ cs, v.one = true) ∧ cs.length = n * esz := by
  cases v <;> simp only [Abs.firstCells] at h
  case nilSlice =>
    simp only [Rel] at hr; subst hr
    split at h
    · rename_i hn; cases h; subst hn
      exact ⟨[], fun w' _ => by simp [Builtin.firstCells], by simp only [RelL], by simp, by simp⟩
    · cases h
  case slice b off len cap =>
    simp only [Rel] at hr
    obtain ⟨j, q, hj, hle, hcap, hext, hsize, A, rfl, hA⟩ := hr
    split at h
    · rename_i hnl
      split at h
      · rename_i cs' es fz sp hb
        split at h
        · rename_i hes
          subst hes
          have hptr : Rel M β (.ptr b off) (.pointer (some ⟨j.blk, j.off + off, none⟩)) := by simp only [Rel]; exact ⟨j, hj, rfl⟩
          have hrd : readAt g (.ptr b off) (n * es) = some cs := by simp only [Abs.readAt, hb]; exact h
          obtain ⟨B, O, l, hp', hl, hlen, hone, hcell⟩ := S.readAt hg hptr hrd
          cases hp'
          refine ⟨l, fun w' hw' => ?_, hl, hone, hlen⟩
          have hln : l.length = n * es := by rw [hl.length, hlen]
          by_cases hn0 : n = 0
          · subst hn0
            simp at hln; subst hln
            simp [Builtin.firstCells, loadCells, loadCellsFrom]
          · have := hA (by omega)
            subst this
            have hload := run_loadCells_at (P := P) (w := w') (B := j.blk) (O := j.off + off) (l := l) (fun k v hk => by rw [cell?_heap hw']; exact hcell k v hk)
            rw [hln] at hload
            simp only [Builtin.firstCells, hload]
        · cases h
      · cases h
    · cases h
  case rslice row off len cap =>
    simp only [Rel] at hr
    obtain ⟨B, O, q, hrow, hle, hcap, A, rfl, hA⟩ := hr
    split at h
    · rename_i hnl
      have hptr : Rel M β (.rptr row off) (.pointer (some ⟨B, O + off, none⟩)) := by simp only [Rel]; exact ⟨B, O, hrow, rfl⟩
      have hrd : readAt g (.rptr row off) (n * esz) = some cs := by simp only [Abs.readAt]; exact h
      obtain ⟨B', O', l, hp', hl, hlen, hone, hcell⟩ := S.readAt hg hptr hrd
      cases hp'
      refine ⟨l, fun w' hw' => ?_, hl, hone, hlen⟩
      have hln : l.length = n * esz := by rw [hl.length, hlen]
      by_cases hn0 : n = 0
      · subst hn0
        simp at hln; subst hln
        simp [Builtin.firstCells, loadCells, loadCellsFrom]
      · have := hA (by omega)
        subst this
        have hload := run_loadCells_at (P := P) (w := w') (B := B) (O := O + off) (l := l) (fun k v hk => by rw [cell?_heap hw']; exact hcell k v hk)
        rw [hln] at hload
        simp only [Builtin.firstCells, hload]
    · cases h
  case str s =>
    simp only [Rel] at hr
    obtain ⟨bs, rfl, rfl⟩ := hr
    rw [bytesOf_length] at h
    split at h
    · rename_i hc
      cases h
      obtain ⟨rfl, hle⟩ := hc
      refine ⟨(bs.data.toList.take n).map fun b => .int .u8 b.toNat, fun w' _ => ?_, ?_, ?_, ?_⟩
      · simp only [Builtin.firstCells, Sem.run_pure]
        congr 1
        apply Array.ext'
        simp [ByteArray.data_extract, List.extract]
      · refine RelL.of_get (by simp [bytesOf]) fun k v hk => ?_
        simp only [bytesOf, List.getElem?_map, ← List.map_take, Option.map_eq_some_iff] at hk
        obtain ⟨x, ⟨y, hy, rfl⟩, rfl⟩ := hk
        exact ⟨.int .u8 y.toNat, by rw [List.getElem?_map, hy]; rfl, by simp only [Rel]⟩
      · intro v hv
        obtain ⟨x, _, rfl⟩ := List.mem_map.1 hv
        rfl
      · simp [bytesOf]; omega
    · cases h
  all_goals cases h

theorem lenOf_run {v : V} {c : Value} (hr : Rel M β v c) {n : Nat} (hv : vlen v = some n) (w : World) : (Builtin.lenOf c).run P w = .ok n w := by
  rcases vlen_rel hr hv with ⟨A, q, rfl, _⟩ | ⟨s, rfl, rfl⟩ <;> simp [Builtin.lenOf]

theorem oneCells {cs : List V} {l : List Value} (hl : RelL M β cs l) (h1 : ∀ v ∈ cs, v.one = true) : ∀ v ∈ l, v.oneCell' = true := fun v hv => by
  obtain ⟨k, hk⟩ := List.mem_iff_getElem?.1 hv
  have hlt : k < cs.length := by
    rw [← hl.length]
    rcases Nat.lt_or_ge k l.length with h | h
    · exact h
    · rw [List.getElem?_eq_none h] at hk; cases hk
  obtain ⟨c, hc, hcr⟩ := hl.get (List.getElem?_eq_getElem hlt)
  rw [hk] at hc; cases hc
  rw [hcr.one]
  exact h1 _ (List.getElem_mem hlt)

/-- Cells laid into an object: what the run does, and what holds then. -/
theorem Sim.storeCells (S : Sim M β hp.get w0 w) {b : Nat} {cs : List V} {esz fz : Nat} (hb : hp.get b = some (.cells cs esz fz false)) {off : Nat} {vs : List V} {ds : List Value} (hds : RelL M β vs ds) (h1 : ∀ v ∈ vs, v.one = true)
    (hfz : fz ≤ off) (hle : off + vs.length ≤ cs.length) :
    ∃ i, β b = some i ∧ esz = i.esz ∧ (Go.storeCells ⟨i.blk, i.off + off, none⟩ ds).run P w = .ok () (w.setCells i.blk (i.off + off) ds) ∧
      Sim M β (hp.put b (some (.cells (putAt cs off vs) esz fz false))).get w0 (w.setCells i.blk (i.off + off) ds) := by
  obtain ⟨i, hi, hesz, hcell, hfrz, S'⟩ := S.store hb hds h1 hfz hle
  have hst := run_storeCells_cells (P := P) i.blk (i.off + off) ds 0 w (fun k hk => by have := hcell k hk; simpa using this) (fun k hk => by have := hfrz k hk; simpa using this) (oneCells hds h1)
  exact ⟨i, hi, hesz, by simpa using hst, S'⟩

theorem f_copy (G : Globs gl M) (E : EnvRel M β N e a) (S : Sim M β hp.get w0 w) (hg : ∀ b o, g b = some o → hp.get b = some o) {c : Call} {t u el : TypeId} {x y : Operand} (ho : o.op = .call c) (hcal : c.callee = .builtin .copy) (hargs : c.args.toList = [x, y]) (hts : c.argTypes.toList = [t, u])
    (hd : P.underlying t = some (.slice el)) {n : Nat} (hn : tSize P el = some n) {x' y' : X} (hx : cX gl x = some x') (hy : cX gl y = some y') (hev : evI g id e (.copy n x' y') = some eff) : Follows P M β w0 w (execOp a.eval o) hp id eff := by
  have hr := cX_rel G E hx
  have hq := cX_rel G E hy
  obtain ⟨callee, args, argTypes⟩ := c
  simp only at hcal hargs hts
  subst hcal
  have ha : args = #[x, y] := Array.toList_inj.1 (by simpa using hargs)
  have ht : argTypes = #[t, u] := Array.toList_inj.1 (by simpa using hts)
  subst ha ht
  simp only [evI, evCopy] at hev
  split at hev
  · cases hev
  · rename_i hns
    simp only [Bool.or_eq_true, not_or, beq_iff_eq] at hns
    split at hev
    · rename_i ld ls hld hls
      split at hev
      · rename_i cs hcs
        obtain ⟨l, hl', hlr, hone, hcl⟩ := firstCells_run (P := P) S hg hq hcs
        have hl := hl' w rfl
        have hlen := lenOf_run (P := P) hq hls w
        rcases vlen_rel hr hld with ⟨A, q, he, hlq⟩ | ⟨s, he, _⟩
        · split at hev
          · rename_i hmn
            cases hev
            rw [hmn] at hl
            have hl0 : l = [] := List.length_eq_zero_iff.1 (by rw [hlr.length, hcl, hmn]; simp)
            subst hl0
            refine Follows.same S (c := .int .i64 0) ?_ (by simp only [Rel])
            cases A with
            | none => simp [execOp, ho, Go.resolve, invoke, builtin, Builtin.copy_, run_underlying hd, he, hlen, tSize_run hn, hmn, hl, goInt]
            | some A => simp [execOp, ho, Go.resolve, invoke, builtin, Builtin.copy_, run_underlying hd, he, hlen, tSize_run hn, hmn, hl, goInt, Go.storeCells]
          · rename_i hmn
            split at hev
            · rename_i b off len cap hxv
              split at hev
              · rename_i old es fz hb
                split at hev
                · rename_i hcond
                  obtain ⟨hes, hfz, hfit⟩ := hcond
                  cases hev
                  rw [hxv] at hr; simp only [Rel] at hr
                  obtain ⟨j, q', hj, hle, _, _, _, A', he', hA⟩ := hr
                  rw [he] at he'; cases he'
                  obtain ⟨i, hi, _, hst, S'⟩ := S.storeCells (P := P) (hg _ _ hb) hlr hone hfz hfit
                  rw [hj] at hi; cases hi
                  have := hA (by omega)
                  subst this
                  refine ⟨β, _, .int .i64 (min ls ld : Nat), .inl ?_, .refl β, fun _ _ => rfl, S', by simp only [Rel]⟩
                  have hl2 : (Builtin.firstCells n (ls.min ld) (a.eval y)).run P w = .ok l.toArray w := hl
                  simp only [execOp, ho, Go.resolve, invoke, builtin, Sem.run_bind, Sem.run_pure, Result.andThen_ok]
                  have hcp : (Builtin.copy_ #[t, u] o.type #[a.eval x, a.eval y]).run P w = .ok (goInt (min ls ld : Nat)) (w.setCells j.blk (j.off + off) l) := by
                    simp [Builtin.copy_, run_underlying hd, he, hlen, tSize_run hn, hl2, hst]
                  simp [hcp, goInt]
                · cases hev
              · cases hev
            · cases hev
        · exfalso
          cases hxv : x'.val e <;> rw [hxv] at hr hld hns <;> simp [vlen] at hld <;> simp only [Rel] at hr
          · simp [isStr] at hns
          · rw [he] at hr; cases hr
          · obtain ⟨i, q, _, _, _, _, _, A, h, _⟩ := hr; rw [he] at h; cases h
          · obtain ⟨B, O, q, _, _, _, A, h, _⟩ := hr; rw [he] at h; cases h
      · cases hev
    · cases hev

end
end Go.Abs

/-
  ABS, part 18: append.
-/
namespace Go.Abs
open Go Go.RowKit
set_option linter.unusedSectionVars false
variable [Syms]

section
variable {P : Program} {M : Mem} {β : Places} {w0 w : World} {hp : Heap} {id N : Nat} {e : Env} {a : Act} {gl : Nat → Option (List V)} {g : View} {o : Oper} {i : I} {eff : Eff}

theorem zeroCells_toList (z : Array Value) (n : Nat) (hz : 0 < z.size) : (Builtin.zeroCells z n).toList = (List.replicate n z.toList).flatten := by
  unfold Builtin.zeroCells
  exact zeros_toList n z.size z rfl hz

theorem flatten_len {l : List Value} (n : Nat) : ((List.replicate n l).flatten).length = n * l.length := by
  induction n with
  | zero => simp
  | succ n ih => rw [List.replicate_succ, List.flatten_cons, List.length_append, ih, Nat.succ_mul]; omega

theorem tInfo {t : TypeId} {n b : Nat} {z : V} (hn : tSize P t = some n) (hb : tBytes P t = some b) (hz : tZero P t = some z) : ∃ i c, P.info? t = some i ∧ i.size = n ∧ i.bytes = b ∧ i.zero = some c ∧ ∀ M β, Rel M β z c := by
  unfold tSize at hn
  unfold tBytes at hb
  unfold tZero at hz
  simp only [Option.map_eq_some_iff, Option.bind_eq_some_iff] at hn hb hz
  obtain ⟨i, hi, rfl⟩ := hn
  obtain ⟨i2, hi2, rfl⟩ := hb
  obtain ⟨c, ⟨i3, hi3, hz3⟩, hc⟩ := hz
  rw [hi] at hi2 hi3; cases hi2; cases hi3
  exact ⟨i, c, hi, rfl, rfl, hz3, fun M β => ofConst_rel M β _ _ _ hc⟩

theorem run_append_more {t u ty el : TypeId} {i : TypeInfo} {z : Value} (ht : P.underlying t = some (.slice el)) (hu : (∃ e', P.underlying u = some (.slice e')) ∨ P.underlying u = some .string) (hi : P.info? el = some i) (hz : i.zero = some z) {A : Option Addr} {sLen sCap n : Nat} {x : Value}
    (hlen : ∀ w : World, (Builtin.lenOf x).run P w = .ok n w) {old new : List Value} (hold : (Builtin.firstCells i.size sLen (.slice A sLen sCap)).run P w.drew = .ok old.toArray w.drew) (hnew : (Builtin.firstCells i.size n x).run P w.drew = .ok new.toArray w.drew)
    (hg : sCap < sLen + n) (h63 : ((sLen + n : Nat) : Int) ≤ 9223372036854775807) (hfit : Builtin.nextslicecap (sLen + n) sCap * i.bytes ≤ 281474976710656) :
    (Builtin.append_ #[t, u] ty #[.slice A sLen sCap, x]).run P w =
      .ok (.slice (some ⟨w.heap.size, 0, none⟩) (sLen + n) (grownCap w (sLen + n) sCap el))
        (w.drew.alloc (.cells (old.toArray ++ new.toArray ++ Builtin.zeroCells z.cells (grownCap w (sLen + n) sCap el - (sLen + n))) el)) := by
  have hn : ¬ (sLen + n ≤ sCap) := by omega
  have h63' : ¬ (9223372036854775807 < ((sLen : Int) + (n : Int))) := by omega
  have h48' : ¬ (281474976710656 < Builtin.nextslicecap (sLen + n) sCap * i.bytes) := by omega
  rcases hu with ⟨e', hu⟩ | hu
  · simp [Builtin.append_, run_underlying ht, run_underlying hu, sizeOf, typeInfo, zeroValue, hi, hz, hlen, hn, h63', h48', Question.forced, hold, hnew, newRow, grownCap]
    congr 2
    apply Array.ext'
    simp [List.append_assoc]
  · simp [Builtin.append_, run_underlying ht, run_underlying hu, sizeOf, typeInfo, zeroValue, hi, hz, hlen, hn, h63', h48', Question.forced, hold, hnew, newRow, grownCap]
    congr 2
    apply Array.ext'
    simp [List.append_assoc]

theorem run_append_fit {t u ty el : TypeId} {i : TypeInfo} (ht : P.underlying t = some (.slice el)) (hu : (∃ e', P.underlying u = some (.slice e')) ∨ P.underlying u = some .string) (hi : P.info? el = some i) {A : Option Addr} {sLen sCap n : Nat} {x : Value}
    (hlen : ∀ w : World, (Builtin.lenOf x).run P w = .ok n w) {new : List Value} (hnew : (Builtin.firstCells i.size n x).run P w = .ok new.toArray w) (hroom : sLen + n ≤ sCap) {w' : World}
    (hst : (match A with | none => pure () | some a => Go.storeCells (a.add (sLen * i.size)) new : Sem Unit).run P w = .ok () w') :
    (Builtin.append_ #[t, u] ty #[.slice A sLen sCap, x]).run P w = .ok (.slice A (sLen + n) sCap) w' := by
  rcases hu with ⟨e', hu⟩ | hu <;> cases A <;> simp only [Sem.run_pure, Result.ok.injEq, true_and] at hst
  · subst hst
    simp [Builtin.append_, run_underlying ht, run_underlying hu, sizeOf, typeInfo, hi, hlen, hroom, hnew]
  · simp [Builtin.append_, run_underlying ht, run_underlying hu, sizeOf, typeInfo, hi, hlen, hroom, hnew, hst]
  · subst hst
    simp [Builtin.append_, run_underlying ht, run_underlying hu, sizeOf, typeInfo, hi, hlen, hroom, hnew]
  · simp [Builtin.append_, run_underlying ht, run_underlying hu, sizeOf, typeInfo, hi, hlen, hroom, hnew, hst]

/-- The prefix that is told to be kept may be told longer. -/
theorem CellsOk.told {i : Place} {cs : List V} {fz fz' : Nat} {arr : Array Value} {T : TypeId} {fr : Nat × Nat} (C : CellsOk M β w i cs fz arr T fr) (hle : fz ≤ fz') (hlt : fz' < cs.length ∨ fz' = fz) (h2 : fz' ≤ cs.length) : CellsOk M β w i cs fz' arr T fr :=
  ⟨C.blk, C.size, C.thaw, C.fits, C.rel, h2, fun he k c hk hc => by
    rcases hlt with h | h
    · omega
    · exact C.ice (by omega) k c hk hc, fun a c hm hb => by have := C.free a c hm hb; omega⟩

theorem append_grows (S : Sim M β hp.get w0 w) (hid : β id = none) {t u ty el : TypeId} (hd : P.underlying t = some (.slice el)) (hu : (∃ e', P.underlying u = some (.slice e')) ∨ P.underlying u = some .string) {esz bytes : Nat} (hn : tSize P el = some esz) (hb : tBytes P el = some bytes) {z : V} (hz : tZero P el = some z) (hzl : z.cells.length = esz)
    {A : Option Addr} {ls c n : Nat} {x : Value} (hlen : ∀ w : World, (Builtin.lenOf x).run P w = .ok n w) {cs ds : List V} {old new : List Value} (hold : (Builtin.firstCells esz ls (.slice A ls c)).run P w.drew = .ok old.toArray w.drew)
    (hnew : (Builtin.firstCells esz n x).run P w.drew = .ok new.toArray w.drew) (ho : RelL M β cs old) (hw : RelL M β ds new) (h1 : ∀ v ∈ cs, v.one = true) (h2 : ∀ v ∈ ds, v.one = true) (hcl : cs.length = ls * esz) (hdl : ds.length = n * esz)
    (hroom : (ls + n) * (bytes + 1) ≤ roomy) (hpos : 0 < esz) (hc : c < ls + n) (fz : Nat) (hfz : fz ≤ ls * esz) (hn0 : 0 < n) :
    ∃ β' w' q sz, (Builtin.append_ #[t, u] ty #[.slice A ls c, x]).run P w = .ok (.slice (some ⟨w.heap.size, 0, none⟩) (ls + n) q) w' ∧ ls + n ≤ q ∧ β.le β' ∧ (∀ x, x ≠ id → β' x = β x) ∧
      β' id = some ⟨w.heap.size, 0, esz, (cs ++ ds).length, sz, none⟩ ∧ q * esz ≤ sz ∧ Sim M β' (hp.set id (.cells (cs ++ ds) esz fz false)).get w0 w' := by
  obtain ⟨i, zc, hi, hsz, hby, hzero, hzrel⟩ := tInfo hn hb hz
  have hzs : zc.cells.size = esz := by have := (hzrel M β).cells.length; rw [hzl] at this; simpa using this
  have hr1 : roomy = 1099511627776 := by decide
  have hneed : ls + n ≤ 1099511627776 := by
    have : (ls + n) * 1 ≤ (ls + n) * (bytes + 1) := Nat.mul_le_mul_left _ (by omega)
    omega
  have hnb : (ls + n) * bytes ≤ 1099511627776 := by
    have : (ls + n) * bytes ≤ (ls + n) * (bytes + 1) := Nat.mul_le_mul_left _ (by omega)
    omega
  have hnext : Builtin.nextslicecap (ls + n) c * i.bytes ≤ 281474976710656 := by
    rw [hby]
    have h3 := Go.nextslicecap_le hc
    have h4 : Builtin.nextslicecap (ls + n) c * bytes ≤ (2 * (ls + n)) * bytes := Nat.mul_le_mul_right _ h3
    have h5 : (2 * (ls + n)) * bytes = 2 * ((ls + n) * bytes) := by rw [Nat.mul_assoc]
    omega
  subst hsz
  have hrun := run_append_more (w := w) (ty := ty) hd hu hi hzero hlen hold hnew hc (by omega) hnext
  have hge := grownCap_ge w (ls + n) c el
  have hrest : (Builtin.zeroCells zc.cells (grownCap w (ls + n) c el - (ls + n))).toList.length = (grownCap w (ls + n) c el - (ls + n)) * i.size := by
    simp [Builtin.zeroCells, hzs]
  obtain ⟨β', hbp, hle, hx, S'⟩ := made (rest := (Builtin.zeroCells zc.cells (grownCap w (ls + n) c el - (ls + n))).toList) (S.drew) hid (ho.append hw) (fun v hv => by
    rcases List.mem_append.1 hv with h | h
    · exact h1 v h
    · exact h2 v h) i.size el
  refine ⟨β', _, _, _, hrun, hge, hle, hx, hbp, ?_, ?_⟩
  · rw [hrest, List.length_append, ho.length, hw.length, hcl, hdl]
    have e1 : grownCap w (ls + n) c el = ls + n + (grownCap w (ls + n) c el - (ls + n)) := by omega
    rw [e1, Nat.add_mul, Nat.add_mul]
    simp
  · have harr : old.toArray ++ new.toArray ++ Builtin.zeroCells zc.cells (grownCap w (ls + n) c el - (ls + n)) = (old ++ new ++ (Builtin.zeroCells zc.cells (grownCap w (ls + n) c el - (ls + n))).toList).toArray := by
      apply Array.ext'; simp
    rw [harr]
    -- the frozen head may be told longer: nothing of a new block is kept
    have hget : (hp.set id (AObj.cells (cs ++ ds) i.size fz false)).get = upd (hp.set id (.cells (cs ++ ds) i.size 0 false)).get id (some (.cells (cs ++ ds) i.size fz false)) := by
      rw [Abs.get_set, Abs.get_set]
      funext y
      by_cases hy : y = id
      · subst hy; rw [upd_eq, upd_eq]
      · rw [upd_ne _ _ hy, upd_ne _ _ hy, upd_ne _ _ hy]
    rw [hget]
    have hb0 : (hp.set id (AObj.cells (cs ++ ds) i.size 0 false)).get id = some (.cells (cs ++ ds) i.size 0 false) := by rw [Abs.get_set, upd_eq]
    obtain ⟨pl, hpl, hbase, h3, h4, arr, T, fr, C⟩ := S'.obj _ _ hb0
    have hcd : fz < (cs ++ ds).length := by
      rw [List.length_append, hcl, hdl]
      have : 0 < n * i.size := Nat.mul_pos hn0 hpos
      omega
    exact S'.put hpl hbase ⟨h3, h4, arr, T, fr, C.told (Nat.zero_le _) (.inl hcd) (by omega)⟩ (fun _ b' o' i' hne hb' hi' hown => S'.sep b' id o' _ i' pl hne hb' hb0 hi' hpl hown rfl)

/-- Where there is room behind a row that is the last of its block: the object's block grows on, under a new number. -/
theorem append_behind (S : Sim M β hp.get w0 w) (hid : β id = none) {b off esz fz : Nat} {cs : List V} (hb : hp.get b = some (.cells cs esz fz false)) {j : Place} (hj : β b = some j) {c : Nat} (hsize : j.off + off + c * j.esz ≤ j.size)
    {ls n : Nat} {old : List V} {new : List V} {news : List Value} (hold : old = (cs.drop off).take (ls * esz)) (htight : off + ls * esz = cs.length) (hnews : RelL M β new news) (h1 : ∀ v ∈ new, v.one = true) (hnl : new.length = n * esz) (hroom : ls + n ≤ c) (hn0 : 0 < n) (hpos : 0 < esz) :
    ∃ β' w', (Go.storeCells ⟨j.blk, j.off + off + ls * esz, none⟩ news).run P w = .ok () w' ∧ β.le β' ∧ (∀ x, x ≠ id → β' x = β x) ∧ β' id = some ⟨j.blk, j.off + off, esz, (old ++ new).length, j.size, none⟩ ∧
      Sim M β' ((hp.put b (if fz = cs.length then some (.cells cs esz fz true) else none)).set id (.cells (old ++ new) esz (fz - off) false)).get w0 w' := by
  obtain ⟨j', hj', hbase, hesz, hext, arr, T, fr, C⟩ := S.obj _ _ hb
  rw [hj] at hj'; cases hj'
  rw [← hesz] at hsize
  have hne : b ≠ id := fun e => by rw [e, hid] at hj; cases hj
  have hcm : (ls + n) * esz ≤ c * esz := Nat.mul_le_mul_right _ hroom
  rw [Nat.add_mul] at hcm
  have hnp : 0 < n * esz := Nat.mul_pos hn0 hpos
  have hfits := C.fits
  have hfzle := C.fzle
  have hasz := C.size
  have hnl' : news.length = n * esz := by rw [hnews.length, hnl]
  have hfit : j.off + off + ls * esz + news.length ≤ arr.size := by rw [hnl', hasz]; omega
  have hst := run_storeCells_cells (P := P) j.blk (j.off + off + ls * esz) news 0 w (fun k hk => by
      rw [cell?_of C.blk]
      have : j.off + off + ls * esz + 0 + k < arr.size := by omega
      simp only [Nat.add_zero] at this ⊢
      simp [this]) (fun k hk => by
      rw [frozen?_of (a := ⟨j.blk, j.off + off + ls * esz + 0 + k, none⟩) C.blk]
      exact C.thaw _ (by simp only; omega)) (oneCells hnews h1)
  simp only [Nat.add_zero] at hst
  have hnewarr := setCells_heap j.blk news (j.off + off + ls * esz) w arr T fr C.blk hfit
  have hkeep : Keeps M j.blk w (w.setCells j.blk (j.off + off + ls * esz) news) := by
    obtain ⟨h2, h3, h4⟩ := setCells_os j.blk news (j.off + off + ls * esz) w
    refine ⟨h2, h3, h4, by rw [setCells_size]; exact Nat.le_refl _, fun r hr _ => setCells_heap_ne _ _ _ _ _ hr, fun x c hx hxc => ?_, fun r ob hr hrc => ?_⟩
    · by_cases hxb : x.block = j.blk
      · have hlt := C.free x c hx hxb
        rw [World.cell?_setCells_out _ _ _ _ _ (fun _ _ => .inl (by omega))]
        exact hxc
      · rw [← hxc]; exact cell?_eq (setCells_heap_ne _ _ _ _ _ hxb)
    · by_cases hrb : r = j.blk
      · subst hrb
        obtain ⟨es, clock, rfl⟩ := S.maps _ _ hr
        rw [C.blk] at hrc
        cases hrc
      · rw [← hrc]; exact setCells_heap_ne _ _ _ _ _ hrb
  have hcells : ∀ k v, (old ++ new)[k]? = some v → v.one = true ∧ ∃ x, ((arr.toList.take (j.off + off + ls * esz) ++ news ++ arr.toList.drop (j.off + off + ls * esz + news.length)).toArray)[j.off + off + k]? = some x ∧ Rel M β v x := by
    intro k v hk
    have hol : old.length = ls * esz := by rw [hold]; simp; omega
    rw [List.getElem?_toArray, three_get _ _ (by simpa using hfit)]
    by_cases hlt : k < ls * esz
    · rw [List.getElem?_append_left (by omega)] at hk
      rw [if_pos (by omega)]
      rw [hold, List.getElem?_take, if_pos hlt, List.getElem?_drop] at hk
      obtain ⟨h2, x, h3, h4⟩ := C.rel _ _ hk
      exact ⟨h2, x, by rw [Array.getElem?_toList, Nat.add_assoc]; exact h3, h4⟩
    · rw [List.getElem?_append_right (by omega)] at hk
      have hk2 : k - old.length < new.length := by
        rcases Nat.lt_or_ge (k - old.length) new.length with h | h
        · exact h
        · rw [List.getElem?_eq_none h] at hk; cases hk
      rw [if_neg (by omega), if_pos (by rw [hnews.length]; omega)]
      obtain ⟨x, h3, h4⟩ := hnews.get hk
      refine ⟨h1 v (List.mem_of_getElem? hk), x, ?_, h4⟩
      rw [← h3]
      congr 1
      omega
  -- the elder object: gone, or kept for good
  let old' : Option AObj := if fz = cs.length then some (.cells cs esz fz true) else none
  have S1 : Sim M β (upd hp.get b old') w0 w := by
    by_cases hf : fz = cs.length
    · have hu : upd hp.get b old' = upd (upd hp.get b none) b (some (.cells cs esz fz true)) := by
        funext x
        by_cases e : x = b
        · subst e; rw [upd_eq, upd_eq]; simp [old', hf]
        · rw [upd_ne _ _ e, upd_ne _ _ e, upd_ne _ _ e]
      rw [hu]
      refine (S.drop b).put hj hbase ⟨hesz, hext, fun k v hk => ?_⟩ (fun h => by cases h)
      obtain ⟨h2, x, h3, h4⟩ := C.rel k v hk
      have hlt : k < cs.length := by
        rcases Nat.lt_or_ge k cs.length with h | h
        · exact h
        · rw [List.getElem?_eq_none h] at hk; cases hk
      exact ⟨h2, x, C.ice hf k x hlt h3, h4⟩
    · have hu : upd hp.get b old' = upd hp.get b none := by simp [old', hf]
      rw [hu]; exact S.drop b
  have hno : ∀ b' o' i', upd hp.get b old' b' = some o' → β b' = some i' → o'.owns = true → i'.blk ≠ j.blk := by
    intro b' o' i' hb' hi' hown
    by_cases e : b' = b
    · subst e
      rw [upd_eq] at hb'
      by_cases hf : fz = cs.length
      · simp [old', hf] at hb'; subst hb'; cases hown
      · simp [old', hf] at hb'
    · rw [upd_ne _ _ e] at hb'
      exact S.sep b' b o' _ i' j e hb' hb hi' hj hown rfl
  have S2 := S1.change hkeep hbase hno
  have hlen2 : (old ++ new).length = (ls + n) * esz := by
    have hol : old.length = ls * esz := by rw [hold]; simp; omega
    rw [List.length_append, hol, hnl, Nat.add_mul]
  have S3 := S2.add (b := id) (i := ⟨j.blk, j.off + off, esz, (old ++ new).length, j.size, none⟩) (o := .cells (old ++ new) esz (fz - off) false) hid hbase (by have := S.sane _ _ hj; rw [setCells_size]; exact this)
    ⟨rfl, rfl, _, T, fr, ⟨hnewarr, by simp; omega, fun k hk => C.thaw k (by simp at hk; omega), by rw [hlen2, Nat.add_mul]; simp; omega, fun k v hk => by
      obtain ⟨h2, x, h3, h4⟩ := hcells k v hk
      exact ⟨h2, x, h3, h4.mono (.refl M) (β.le_set _ hid)⟩, by rw [hlen2, Nat.add_mul]; omega, fun he k x hk hx => by rw [hlen2, Nat.add_mul] at he; omega, fun x c hx hxb => by have := C.free x c hx hxb; simp only; omega⟩⟩
    (fun b' o' i' hb' hi' hown => hno b' o' i' hb' hi' hown)
  refine ⟨β.set id ⟨j.blk, j.off + off, esz, (old ++ new).length, j.size, none⟩, _, hst, β.le_set _ hid, fun x hx => Places.set_ne _ _ hx, Places.set_eq _ _ _, ?_⟩
  rw [Abs.get_set, Abs.get_put]
  exact S3

theorem f_append (G : Globs gl M) (E : EnvRel M β N e a) (S : Sim M β hp.get w0 w) (hg : ∀ b o, g b = some o → hp.get b = some o) (hid : β id = none) {c : Call} {t u el : TypeId} {x y : Operand} (ho : o.op = .call c) (hcal : c.callee = .builtin .append) (hargs : c.args.toList = [x, y]) (hts : c.argTypes.toList = [t, u])
    (hd : P.underlying t = some (.slice el)) (hu : (∃ e', P.underlying u = some (.slice e')) ∨ P.underlying u = some .string) {n bytes : Nat} {z : V} (hn : tSize P el = some n) (hbt : tBytes P el = some bytes) (hz : tZero P el = some z) (hzl : z.cells.length = n) {x' y' : X}
    (hx : cX gl x = some x') (hy : cX gl y = some y') (hev : evI g id e (.append n bytes x' y') = some eff) : Follows P M β w0 w (execOp a.eval o) hp id eff := by
  have hr := cX_rel G E hx
  have hq := cX_rel G E hy
  obtain ⟨callee, args, argTypes⟩ := c
  simp only at hcal hargs hts
  subst hcal
  have ha : args = #[x, y] := Array.toList_inj.1 (by simpa using hargs)
  have ht : argTypes = #[t, u] := Array.toList_inj.1 (by simpa using hts)
  subst ha ht
  obtain ⟨i, zc, hi, hsz, hby, hzero, hzrel⟩ := tInfo hn hbt hz
  -- the operation's run, out of append's
  have top : ∀ (v : Value) (w' : World), (Builtin.append_ #[t, u] o.type #[a.eval x, a.eval y]).run P w = .ok v w' → (execOp a.eval o).run P w = .ok (.value v) w' := fun v w' h => by
    simp only [execOp, ho, Go.resolve, invoke, builtin, Sem.run_bind, Sem.run_pure, Result.andThen_ok]
    simp [h]
  simp only [evI, evAppend] at hev
  split at hev
  · cases hev
  rename_i hns
  split at hev
  · rename_i ls m hls hm
    split at hev
    · rename_i old new hold hnew
      obtain ⟨lo, hlo, hlor, hlo1, hlol⟩ := firstCells_run (P := P) S hg hr hold
      obtain ⟨ln, hln, hlnr, hln1, hlnl⟩ := firstCells_run (P := P) S hg hq hnew
      have hlen : ∀ w : World, (Builtin.lenOf (a.eval y)).run P w = .ok m w := lenOf_run hq hm
      -- the first operand is a slice
      have slice0 : ∀ {A : Option Addr} {c : Nat}, a.eval x = .slice A ls c → ls ≤ c → (m = 0 → Follows P M β w0 w (execOp a.eval o) hp id { val := x'.val e }) := by
        intro A c he hle hm0
        subst hm0
        have hln0 : ln = [] := List.length_eq_zero_iff.1 (by rw [hlnr.length, hlnl]; simp)
        subst hln0
        have hfit := run_append_fit (P := P) (ty := o.type) hd hu hi (A := A) (sLen := ls) (sCap := c) hlen (new := []) (by rw [hsz]; exact hln w rfl) (by omega) (w' := w) (by cases A <;> simp [Go.storeCells])
        refine Follows.same S (c := .slice A ls c) (top _ _ (by rw [he]; simpa using hfit)) ?_
        rw [← he]; exact hr
      have fresh : ∀ {A : Option Addr} {c : Nat} (fz : Nat), a.eval x = .slice A ls c → fz ≤ ls * n → (ls + m) * (bytes + 1) ≤ roomy → 0 < n → c < ls + m → 0 < m →
          ∃ β' w' q sz, (execOp a.eval o).run P w = .ok (.value (.slice (some ⟨w.heap.size, 0, none⟩) (ls + m) q)) w' ∧ ls + m ≤ q ∧ β.le β' ∧ (∀ x, x ≠ id → β' x = β x) ∧
            β' id = some ⟨w.heap.size, 0, n, (old ++ new).length, sz, none⟩ ∧ q * n ≤ sz ∧ Sim M β' (hp.set id (.cells (old ++ new) n fz false)).get w0 w' := by
        intro A c fz he hfz hroom hpos hc hm0
        obtain ⟨β', w', q, sz, h1, h2, h3, h4, h5, h6, h7⟩ := append_grows (ty := o.type) (A := A) S hid hd hu hn hbt hz hzl hlen (by rw [← he]; exact hlo w.drew rfl) (hln w.drew rfl) hlor hlnr hlo1 hln1 hlol hlnl hroom hpos hc fz hfz hm0
        exact ⟨β', w', q, sz, top _ _ (by rw [he]; exact h1), h2, h3, h4, h5, h6, h7⟩
      have newSlice : ∀ {β' : Places} {q sz : Nat}, ls + m ≤ q → β' id = some ⟨w.heap.size, 0, n, (old ++ new).length, sz, none⟩ → q * n ≤ sz → Rel M β' (.slice id 0 (ls + m) none) (.slice (some ⟨w.heap.size, 0, none⟩) (ls + m) q) := by
        intro β' q sz hq' hb' hs'
        simp only [Rel]
        refine ⟨_, q, hb', hq', (fun _ h => by cases h), fun _ => ?_, by simpa using hs', _, rfl, fun _ => rfl⟩
        simp only [List.length_append, hlol, hlnl, ← Nat.add_mul]
        have := Nat.mul_le_mul_right n hq'
        omega
      split at hev
      · rename_i hm0
        cases hev
        -- nothing is appended
        cases hxv : x'.val e <;> rw [hxv] at hr hls <;> simp [vlen] at hls
        · -- a text is no slice
          rw [hxv] at hns; exact absurd rfl hns
        · have hr' := hr
          simp only [Rel] at hr'
          have := slice0 (A := none) (c := 0) (by rw [hr', hls]) (by omega) hm0
          rw [hxv] at this; exact this
        · have hr' := hr
          simp only [Rel] at hr'
          obtain ⟨_, c, _, hle, _, _, _, A, he, _⟩ := hr'
          have := slice0 (A := some A) (c := c) (by rw [he, hls]) (by omega) hm0
          rw [hxv] at this; exact this
        · have hr' := hr
          simp only [Rel] at hr'
          obtain ⟨_, _, c, _, hle, _, A, he, _⟩ := hr'
          have := slice0 (A := some A) (c := c) (by rw [he, hls]) (by omega) hm0
          rw [hxv] at this; exact this
      · rename_i hm0
        split at hev
        · rename_i hroom
          obtain ⟨hroom, hpos⟩ := hroom
          split at hev
          · -- nil
            rename_i hxv
            cases hev
            rw [hxv] at hr hls; simp only [Rel] at hr
            simp [vlen] at hls; subst hls
            obtain ⟨β', w', q, sz, h1, h2, h3, h4, h5, h6, h7⟩ := fresh (A := none) (c := 0) 0 hr (Nat.zero_le _) hroom hpos (by omega) (by omega)
            exact ⟨β', w', _, .inl h1, h3, h4, h7, newSlice h2 h5 h6⟩
          · -- an input of a known capacity
            rename_i row off len c hxv
            split at hev
            · cases hev
            · rename_i hlc
              cases hev
              rw [hxv] at hr hls; simp only [Rel] at hr
              simp [vlen] at hls; subst hls
              obtain ⟨_, _, c', _, hle, hcap, A, he, _⟩ := hr
              have := hcap c rfl; subst this
              obtain ⟨β', w', q, sz, h1, h2, h3, h4, h5, h6, h7⟩ := fresh (A := some A) (c := c) 0 he (Nat.zero_le _) hroom hpos (by omega) (by omega)
              exact ⟨β', w', _, .inl h1, h3, h4, h7, newSlice h2 h5 h6⟩
          · -- a row of one's own
            rename_i b off len cap hxv
            rw [hxv] at hr hls hold
            have hr0 := hr
            simp only [Rel] at hr
            simp [vlen] at hls; subst hls
            obtain ⟨j, c, hj, hle, hcap, hext, hsize, A, he, hA⟩ := hr
            split at hev
            · rename_i cs es fz spent hb
              have hb' := hg _ _ hb
              have hes : es = n := by
                simp only [Abs.firstCells, hb] at hold
                split at hold
                · split at hold
                  · assumption
                  · cases hold
                · cases hold
              subst hes
              have hold' : cellsAt cs off (len * es) = some old := by
                simp only [Abs.firstCells, hb] at hold
                simpa using hold
              split at hev
              · cases hev
              · rename_i hsp
                have hsp : spent = false := by simpa using hsp
                subst hsp
                obtain ⟨j', hj', hbase, hesz, hext', arr, T, fr, C⟩ := S.obj _ _ hb'
                rw [hj] at hj'; cases hj'
                -- in place
                have place : ∀ cap', off + (len + m) * es ≤ cs.length → fz ≤ off + len * es → len + m ≤ c → (∀ k, cap' = some k → k = c) → (cap' = none → cap = none) →
                    Follows P M β w0 w (execOp a.eval o) hp id { upd := some (b, some (.cells (putAt cs (off + len * es) new) es fz false)), val := .slice b off (len + m) cap' } := by
                  intro cap' hfit hfz hlc hc1 hc2
                  have hA' := hA (by omega)
                  subst hA'
                  rw [Nat.add_mul] at hfit
                  obtain ⟨i2, hi2, _, hst, S'⟩ := S.storeCells (P := P) hb' hlnr hln1 hfz (by omega)
                  rw [hj] at hi2; cases hi2
                  have hfitr := run_append_fit (P := P) (ty := o.type) hd hu hi (A := some ⟨j.blk, j.off + off, none⟩) (sLen := len) (sCap := c) hlen (new := ln) (by rw [hsz]; exact hln w rfl) hlc (w' := w.setCells j.blk (j.off + (off + len * es)) ln) (by
                    simp only [add_none, hsz]
                    rw [Nat.add_assoc]
                    exact hst)
                  refine ⟨β, _, _, .inl (top _ _ (by rw [he]; exact hfitr)), .refl β, fun _ _ => rfl, S', ?_⟩
                  simp only [Rel]
                  exact ⟨j, c, hj, hlc, hc1, fun h => hext (hc2 h), hsize, _, rfl, fun _ => rfl⟩
                split at hev
                · -- the capacity is known
                  rename_i c0
                  have := hcap c0 rfl; subst this
                  split at hev
                  · rename_i hlc
                    split at hev
                    · rename_i hcond
                      cases hev
                      exact place (some c0) hcond.2 hcond.1 hlc (fun k hk => by cases hk; rfl) (fun h => by cases h)
                    · cases hev
                  · rename_i hlc
                    cases hev
                    obtain ⟨β', w', q, sz, h1, h2, h3, h4, h5, h6, h7⟩ := fresh (A := some A) (c := c0) 0 he (Nat.zero_le _) hroom hpos (by omega) (by omega)
                    exact ⟨β', w', _, .inl h1, h3, h4, h7, newSlice h2 h5 h6⟩
                · split at hev
                  · -- the row is the last of its block
                    rename_i htight
                    cases hev
                    have hfzle := C.fzle
                    by_cases hlc : len + m ≤ c
                    · have hA' := hA (by omega)
                      subst hA'
                      have hold2 : old = (cs.drop off).take (len * es) := by
                        unfold cellsAt at hold'
                        split at hold'
                        · exact (Option.some.inj hold').symm
                        · cases hold'
                      obtain ⟨β', w', hst, h3, h4, h5, h7⟩ := append_behind (P := P) (off := off) S hid hb' hj hsize hold2 htight hlnr hln1 hlnl hlc (by omega) hpos
                      have hfitr := run_append_fit (P := P) (ty := o.type) hd hu hi (A := some ⟨j.blk, j.off + off, none⟩) (sLen := len) (sCap := c) hlen (new := ln) (by rw [hsz]; exact hln w rfl) hlc (w' := w') (by
                        simp only [add_none, hsz]
                        exact hst)
                      refine ⟨β', w', _, .inl (top _ _ (by rw [he]; exact hfitr)), h3, h4, h7, ?_⟩
                      simp only [Rel]
                      refine ⟨_, c, h5, hlc, (fun _ h => by cases h), fun _ => ?_, by simp only; rw [hesz]; omega, _, rfl, fun _ => rfl⟩
                      simp only [List.length_append, hlol, hlnl, ← Nat.add_mul]
                      have := Nat.mul_le_mul_right es hlc
                      omega
                    · obtain ⟨β', w', q, sz, h1, h2, h3, h4, h5, h6, h7⟩ := fresh (A := some A) (c := c) (fz - off) he (by omega) hroom hpos (by omega) (by omega)
                      refine ⟨β', w', _, .inl h1, h3, h4, ?_, newSlice h2 h5 h6⟩
                      -- the elder object goes, or is kept for good
                      have hne : b ≠ id := fun e => by rw [e, hid] at hj; cases hj
                      have hb2 : (hp.set id (AObj.cells (old ++ new) es (fz - off) false)).get b = some (.cells cs es fz false) := by
                        rw [Abs.get_set, upd_ne _ _ hne]; exact hb'
                      have hfun : (Eff.heap { upd := some (b, if fz = cs.length then some (.cells cs es fz true) else none), new := some (.cells (old ++ new) es (fz - off) false), val := .slice id 0 (len + m) none } id hp).get =
                          upd (hp.set id (AObj.cells (old ++ new) es (fz - off) false)).get b (if fz = cs.length then some (.cells cs es fz true) else none) := by
                        simp only [Eff.heap]
                        rw [Abs.get_set, Abs.get_set, Abs.get_put]
                        funext y
                        by_cases hy : y = id
                        · subst hy; rw [upd_eq, upd_ne _ _ (Ne.symm hne), upd_eq]
                        · rw [upd_ne _ _ hy]
                          by_cases hyb : y = b
                          · subst hyb; rw [upd_eq, upd_eq]
                          · rw [upd_ne _ _ hyb, upd_ne _ _ hyb, upd_ne _ _ hy]
                      rw [hfun]
                      by_cases hf : fz = cs.length
                      · rw [if_pos hf]
                        have hu2 : upd (hp.set id (AObj.cells (old ++ new) es (fz - off) false)).get b (some (.cells cs es fz true)) = upd (upd (hp.set id (AObj.cells (old ++ new) es (fz - off) false)).get b none) b (some (.cells cs es fz true)) := by
                          funext y
                          by_cases hyb : y = b
                          · subst hyb; rw [upd_eq, upd_eq]
                          · rw [upd_ne _ _ hyb, upd_ne _ _ hyb, upd_ne _ _ hyb]
                        rw [hu2]
                        obtain ⟨pl, hpl, hbase2, h8, h9, arr2, T2, fr2, C2⟩ := h7.obj _ _ hb2
                        refine (h7.drop b).put hpl hbase2 ⟨h8, h9, fun k v hk => ?_⟩ (fun h => by cases h)
                        obtain ⟨h10, x, h11, h12⟩ := C2.rel k v hk
                        have hlt : k < cs.length := by
                          rcases Nat.lt_or_ge k cs.length with h | h
                          · exact h
                          · rw [List.getElem?_eq_none h] at hk; cases hk
                        exact ⟨h10, x, C2.ice hf k x hlt h11, h12⟩
                      · rw [if_neg hf]; exact h7.drop b
                  · rename_i htight
                    split at hev
                    · rename_i hfz
                      split at hev
                      · rename_i hfit
                        cases hev
                        refine place none hfit hfz ?_ (fun _ h => by cases h) (fun h => h)
                        have := hext rfl
                        rw [← hext', ← hesz] at this
                        have h5 : (len + m) * es ≤ c * es := by omega
                        exact Nat.le_of_mul_le_mul_right h5 hpos
                      · cases hev
                    · cases hev
            · cases hev
          · cases hev
        · cases hev
    · cases hev
  · cases hev

end
end Go.Abs

/-
  ABS, part 19: make, texts and bytes, delete, iterators.
-/
namespace Go.Abs
open Go Go.RowKit
set_option linter.unusedSectionVars false
variable [Syms]

section
variable {P : Program} {M : Mem} {β : Places} {w0 w : World} {hp : Heap} {id N : Nat} {e : Env} {a : Act} {gl : Nat → Option (List V)} {g : View} {o : Oper} {i : I} {eff : Eff}

theorem wrap_small {m : Int} (h0 : 0 ≤ m) (h : m ≤ 1099511627776) : IntKind.i64.wrap m = m := by
  have e1 : (2 : Int) ^ 64 = 18446744073709551616 := by decide
  have e2 : (2 : Int) ^ (64 - 1) = 9223372036854775808 := by decide
  simp only [IntKind.wrap, IntKind.bits, IntKind.signed, Bool.true_and, e1, e2]
  split
  · rename_i h'
    have h' := of_decide_eq_true h'
    omega
  · omega

theorem f_mkSlice (G : Globs gl M) (E : EnvRel M β N e a) (S : Sim M β hp.get w0 w) (hid : β id = none) {t : TypeId} {x y : Operand} (ho : o.op = .makeSlice t x y) (hc : cOp P gl (.makeSlice t x y) = some i) (hev : evI g id e i = some eff) :
    Follows P M β w0 w (execOp a.eval o) hp id eff := by
  simp only [cOp] at hc
  split at hc
  · rename_i el hd
    simp only [Option.bind_eq_some_iff] at hc
    obtain ⟨n, hn, bytes, hb, z, hz, x', hx, y', hy, hc⟩ := hc
    split at hc
    · rename_i hcond
      obtain ⟨hpos, hzl, hone⟩ := hcond
      cases hc
      obtain ⟨ti, zc, hi, hsz, hby, hzero, hzrel⟩ := tInfo hn hb hz
      have hr := cX_rel G E hx
      have hq := cX_rel G E hy
      simp only [evI] at hev
      split at hev
      · rename_i k l k' c hv1 hv2
        split at hev
        · rename_i hcond
          obtain ⟨h0, hlc, hroom, _⟩ := hcond
          cases hev
          rw [hv1] at hr; rw [hv2] at hq; simp only [Rel] at hr hq
          have hr1 : (roomy : Int) = 1099511627776 := by decide
          rw [hr1] at hroom
          have hc0 : 0 ≤ c := by omega
          have hcle : c ≤ 1099511627776 := by
            have : c * 1 ≤ c * ((bytes : Int) + 1) := Int.mul_le_mul_of_nonneg_left (by omega) hc0
            omega
          have hbc : (bytes : Int) * c ≤ 1099511627776 := by
            have : c * (bytes : Int) ≤ c * ((bytes : Int) + 1) := Int.mul_le_mul_of_nonneg_left (by omega) hc0
            rw [Int.mul_comm]; omega
          have hwl := wrap_small h0 (by omega)
          have hwc := wrap_small hc0 hcle
          have hzs : zc.cells.size = n := by have := (hzrel M β).cells.length; rw [hzl] at this; simpa using this
          have hzz := zeros_toList c.toNat n zc.cells hzs hpos
          obtain ⟨β', hbp, hle, hx', S'⟩ := made (rest := []) S hid ((hzrel M β).cells.replicate c.toNat) (fun v hv => by
            obtain ⟨l, hl, hvl⟩ := List.mem_flatten.1 hv
            rw [(List.mem_replicate.1 hl).2] at hvl
            exact all_one hone v hvl) n el
          refine ⟨β', _, .slice (some ⟨w.heap.size, 0, none⟩) l.toNat c.toNat, .inl ?_, hle, hx', S', ?_⟩
          · have ht1 : (decide (c < 0) || decide ((bytes : Int) * c > 2 ^ 48)) = false := by
              simp only [Bool.or_eq_false_iff, decide_eq_false_iff_not]
              exact ⟨by omega, by omega⟩
            have hcnd : ((decide (c < 0) || decide ((ti.bytes : Int) * c > 2 ^ 48)) || decide (l < 0) || decide (l > c)) = false := by
              rw [hby, ht1]
              simp only [Bool.false_or, Bool.or_eq_false_iff, decide_eq_false_iff_not]
              exact ⟨by omega, by omega⟩
            have harr : ∀ q : Array Value, (c.toNat * n = 0 → q = #[]) → (c.toNat * n ≠ 0 → q = zc.cells) → ((Array.range (c.toNat * n)).map fun k => q[k % q.size]!) = ((List.replicate c.toNat zc.cells.toList).flatten ++ []).toArray := by
              intro q q1 q2
              by_cases hq0 : c.toNat * n = 0
              · have hz0 : c.toNat = 0 := by
                  rcases Nat.mul_eq_zero.1 hq0 with h | h
                  · exact h
                  · omega
                rw [hq0, hz0]; simp
              · rw [q2 hq0]
                apply Array.ext'
                rw [hzz]; simp
            simp only [execOp, ho, Instr.makeSlice, Sem.run_bind, run_underlying hd, Result.andThen_ok, asInt, asIntOf, hr, hq, Sem.run_pure, typeInfo, run_program, hi, hwl, hwc, hcnd, Bool.false_eq_true, if_false, run_askRoom, sizeOf, hsz, Sem.run_ite, zeroValue, hzero]
            by_cases hq0 : c.toNat * n = 0
            · simp only [hq0, if_true]
              have := harr #[] (fun _ => rfl) (fun h => absurd hq0 h)
              rw [hq0] at this
              rw [this]
              simp [newRow]
            · simp only [hq0, if_false]
              rw [harr zc.cells (fun h => absurd h hq0) (fun _ => rfl)]
              simp [newRow]
          · simp only [Rel]
            have hlen : (List.replicate c.toNat z.cells).flatten.length = c.toNat * n := by
              have : ∀ m, (List.replicate m z.cells).flatten.length = m * n := by
                intro m
                induction m with
                | zero => simp
                | succ m ih => rw [List.replicate_succ, List.flatten_cons, List.length_append, ih, hzl, Nat.succ_mul]; omega
              exact this _
            refine ⟨_, c.toNat, hbp, by omega, (fun k hk => by cases hk; rfl), (fun h => by cases h), ?_, _, rfl, fun _ => rfl⟩
            have e1 := ((hzrel M β).cells.replicate c.toNat).length
            simp only [e1, hlen]
            simp
        · cases hev
      · cases hev
    · cases hc
  · cases hc

theorem get!_bytesOf (bs : ByteArray) (j : Nat) : (bs.get! j).toNat = (bytesOf bs).getD j 0 := by
  obtain ⟨⟨l⟩⟩ := bs
  show ((⟨l⟩ : Array UInt8).get!Internal j).toNat = _
  simp only [bytesOf, Array.get!Internal, Array.getD, List.getD]
  by_cases h : j < l.length
  · simp [h]
  · simp [h]
    rfl

theorem decodeAt_eq (bs : ByteArray) (i : Nat) : decodeAt (bytesOf bs) i = Utf8.decode bs i := by
  simp only [decodeAt, Utf8.decode, get!_bytesOf, bytesOf_length]

theorem f_rangeS (G : Globs gl M) (E : EnvRel M β N e a) (S : Sim M β hp.get w0 w) (hid : β id = none) {t : TypeId} {x : Operand} (ho : o.op = .range t x) (hd : P.underlying t = some .string) {x' : X} (hx : cX gl x = some x') (hev : evI g id e (.rangeS x') = some eff) :
    Follows P M β w0 w (execOp a.eval o) hp id eff := by
  have hr := cX_rel G E hx
  simp only [evI] at hev
  split at hev
  · rename_i s hv
    cases hev
    rw [hv] at hr; simp only [Rel] at hr
    obtain ⟨bs, he, hb⟩ := hr
    have hb' : Wild s ((bytesOf bs).drop 0) := by rw [List.drop_zero, hb]; exact Wild.refl _
    obtain ⟨β', hbp, hle, hx', S'⟩ := made_obj (ob := .stringIter bs 0) (o := .strIter s 0) S hid (fun β' _ => ⟨⟨bs, heap_new _ _, hb'⟩, S.noObj, rfl⟩)
    refine ⟨β', _, .pointer (some ⟨w.heap.size, 0, none⟩), .inl ?_, hle, hx', S', by simp only [Rel]; exact ⟨_, hbp, rfl⟩⟩
    simp [execOp, ho, Instr.range, run_underlying hd, he]
  · rename_i s hv
    cases hev
    rw [hv] at hr; simp only [Rel] at hr
    obtain ⟨bs, he, hb⟩ := hr
    obtain ⟨β', hbp, hle, hx', S'⟩ := made_obj (ob := .stringIter bs 0) (o := .strIter s 0) S hid (fun β' _ => ⟨⟨bs, heap_new _ _, by rw [List.drop_zero]; exact hb⟩, S.noObj, rfl⟩)
    refine ⟨β', _, .pointer (some ⟨w.heap.size, 0, none⟩), .inl ?_, hle, hx', S', by simp only [Rel]; exact ⟨_, hbp, rfl⟩⟩
    simp [execOp, ho, Instr.range, run_underlying hd, he]
  · cases hev

theorem decodeAt_drop (l : List Nat) (i : Nat) : decodeAt (l.drop i) 0 = decodeAt l i := by
  have hg : ∀ k, (l.drop i).getD (0 + k) 0 = l.getD (i + k) 0 := fun k => by simp [List.getD_eq_getElem?_getD, List.getElem?_drop]
  have hl : ∀ k, (0 + k < (l.drop i).length) = (i + k < l.length) := fun k => by
    rw [List.length_drop]; exact propext ⟨fun h => by omega, fun h => by omega⟩
  simp only [decodeAt, hg, hl]

theorem f_nextS (G : Globs gl M) (E : EnvRel M β N e a) (S : Sim M β hp.get w0 w) (hg : ∀ b o, g b = some o → hp.get b = some o) {x : Operand} (ho : o.op = .next x true) {x' : X} (hx : cX gl x = some x') (hev : evI g id e (.nextS x') = some eff) :
    Follows P M β w0 w (execOp a.eval o) hp id eff := by
  have hr := cX_rel G E hx
  simp only [evI] at hev
  split at hev
  · rename_i b hv
    rw [hv] at hr; simp only [Rel] at hr
    obtain ⟨j, hj, he⟩ := hr
    split at hev
    · rename_i pos hb
      cases hev
      obtain ⟨j', hj', hbase, ⟨bs, hw, hbs⟩, hM, hoff⟩ := S.obj _ _ (hg _ _ hb)
      rw [hj] at hj'; cases hj'
      have hgo := run_getObj (P := P) hw (fun _ _ _ h => by cases h)
      have hlen : bs.size ≤ pos := by
        have h0 : (bytesOf bs).drop pos = [] := hbs
        have := congrArg List.length h0
        rw [List.length_drop, bytesOf_length] at this
        simp at this
        omega
      rw [hoff] at he
      simp only [Nat.zero_add] at he
      have hlt' : ¬ pos < bs.size := by omega
      refine Follows.same S (c := .tuple #[.bool false]) ?_ (by simp only [Rel, RelL]; exact ⟨_, rfl, _, _, rfl, rfl, rfl⟩)
      simp [execOp, ho, he, Instr.next, hgo, hlt']
    · rename_i c s pos hb
      obtain ⟨j', hj', hbase, ⟨bs, hw, hbs⟩, hM, hoff⟩ := S.obj _ _ (hg _ _ hb)
      rw [hj] at hj'; cases hj'
      have hgo := run_getObj (P := P) hw (fun _ _ _ h => by cases h)
      have hbs' := hbs
      obtain ⟨d, r, hdr, hcd, hwr⟩ := hbs'
      have hlt' : pos < bs.size := by
        have := congrArg List.length hdr
        rw [List.length_drop, bytesOf_length] at this
        simp at this
        omega
      have htail : (bytesOf bs).drop (pos + 1) = r := by
        rw [← List.drop_drop, hdr]; rfl
      have hd0 : (bytesOf bs).getD pos 0 = d := by
        have : ((bytesOf bs).drop pos).getD 0 0 = d := by rw [hdr]; rfl
        rw [← this]
        simp [List.getD_eq_getElem?_getD, List.getElem?_drop]
      rw [hoff] at he
      simp only [Nat.zero_add] at he
      have go : ∀ (n : Nat) (r : Int) (v : V) (s' : List Nat), Utf8.decode bs pos = ((r.toNat : Nat), n) → 0 ≤ r → Rel M β v (.int .i32 r) → Wild s' ((bytesOf bs).drop (pos + n)) →
          Follows P M β w0 w (execOp a.eval o) hp id { upd := some (b, some (.strIter s' (pos + n))), val := .tuple [.bool true, .int .i64 pos, v] } := by
        intro n r v s' hdec h0 hrel hws
        have hso := run_setObj (P := P) (ob' := .stringIter bs (pos + n)) hw (fun _ _ _ h => by cases h)
        have S' := S.objSet hj hbase hw (fun _ _ _ h => by cases h) hM (hg _ _ hb) rfl (ob' := .stringIter bs (pos + n)) (o' := .strIter s' (pos + n))
          ⟨⟨bs, objSet_get hw, hws⟩, hM, hoff⟩
        refine ⟨β, _, .tuple #[.bool true, .int .i64 pos, .int .i32 r], .inl ?_, .refl β, fun _ _ => rfl, S', ?_⟩
        · simp [execOp, ho, he, Instr.next, hgo, hlt', hso, goInt, hdec, Int.toNat_of_nonneg h0]
        · simp only [Rel, RelL]
          exact ⟨_, rfl, _, _, rfl, rfl, _, _, rfl, rfl, _, _, rfl, hrel, rfl⟩
      split at hev
      · rename_i h128
        cases hev
        have e : c = d := by rcases hcd with h | h <;> omega
        refine go 1 ((c : Nat) : Int) _ _ ?_ (by omega) (by simp only [Rel]) (by rw [htail]; exact hwr)
        rw [← decodeAt_eq]
        simp only [decodeAt, Nat.add_zero, hd0, ← e]
        rw [if_pos (by omega)]
        simp
      · split at hev
        · rename_i h256
          cases hev
          have e : 48 ≤ d ∧ d ≤ 57 := by
            rcases hcd with h | h
            · have hb8 : (bytesOf bs).getD pos 0 < 256 := by
                rw [List.getD_eq_getElem?_getD]
                simp only [bytesOf, List.getElem?_map]
                cases hq : bs.data.toList[pos]? with
                | none => simp
                | some u => simp; exact u.toNat_lt
              omega
            · exact h.2
          refine go 1 ((d : Nat) : Int) _ _ ?_ (by omega) (by simp only [Rel]; exact ⟨_, rfl, by show (48 : Int) ≤ _; omega, by show _ ≤ (57 : Int); omega⟩) (by rw [htail]; exact hwr)
          rw [← decodeAt_eq]
          simp only [decodeAt, Nat.add_zero, hd0]
          rw [if_pos (by omega)]
          simp
        · split at hev
          · rename_i hall
            cases hev
            have e := hbs.eq_of_plain hall
            refine go (decodeAt (c :: s) 0).2 (((decodeAt (c :: s) 0).1 : Nat) : Int) _ _ ?_ (by omega) (by simp only [Rel]) ?_
            · rw [← decodeAt_eq, ← e, decodeAt_drop]
              simp
            · rw [← List.drop_drop, e]
              exact Wild.refl _
          · cases hev
    · cases hev
  · cases hev

theorem f_rangeM (G : Globs gl M) (E : EnvRel M β N e a) (S : Sim M β hp.get w0 w) (hg : ∀ b o, g b = some o → hp.get b = some o) (hid : β id = none) {t kt el : TypeId} {x : Operand} (ho : o.op = .range t x) (hd : P.underlying t = some (.map kt el)) {x' : X} (hx : cX gl x = some x') (hev : evI g id e (.rangeM x') = some eff) :
    Follows P M β w0 w (execOp a.eval o) hp id eff := by
  have hr := cX_rel G E hx
  simp only [evI] at hev
  split at hev
  · rename_i hv
    cases hev
    rw [hv] at hr; simp only [Rel] at hr
    obtain ⟨β', hbp, hle, hx', S'⟩ := made_obj (ob := .mapIter none 0 #[] 0) (o := .mapIter none 0 [] 0) S hid (fun β' _ => ⟨⟨none, heap_new _ _, rfl⟩, S.noObj, rfl⟩)
    refine ⟨β', _, .pointer (some ⟨w.heap.size, 0, none⟩), .inl ?_, hle, hx', S', by simp only [Rel]; exact ⟨_, hbp, rfl⟩⟩
    simp [execOp, ho, Instr.range, run_underlying hd, hr]
  · rename_i b hv
    split at hev
    · rename_i es clock fzn hb
      cases hev
      rw [hv] at hr; simp only [Rel] at hr
      obtain ⟨j, hj, he⟩ := hr
      obtain ⟨j', hj', _, ces, hw, _⟩ := S.obj _ _ (hg _ _ hb)
      rw [hj] at hj'; cases hj'
      have hgo := run_getObj (P := P) hw (fun _ _ _ h => by cases h)
      obtain ⟨β', hbp, hle, hx', S'⟩ := made_obj (ob := .mapIter (some j.blk) clock #[] clock) (o := .mapIter (some b) clock [] clock) S hid (fun β' hb' => ⟨⟨some j.blk, heap_new _ _, j, hb' _ _ hj, rfl⟩, S.noObj, rfl⟩)
      refine ⟨β', _, .pointer (some ⟨w.heap.size, 0, none⟩), .inl ?_, hle, hx', S', by simp only [Rel]; exact ⟨_, hbp, rfl⟩⟩
      simp [execOp, ho, Instr.range, run_underlying hd, he, hgo]
    · cases hev
  · rename_i ks vs hv
    cases hev
    rw [hv] at hr; simp only [Rel] at hr
    obtain ⟨r, es, clock, he, hMo, hks, hvs, hborn, hnd⟩ := hr
    have hgo := run_getObj (P := P) (S.memo _ _ hMo) (fun _ _ _ h => by cases h)
    obtain ⟨β', hbp, hle, hx', S'⟩ := made_obj (ob := .mapIter (some r) clock #[] clock) (o := .rmapIter ks vs []) S hid (fun β' hb' =>
      ⟨⟨r, es, clock, clock, heap_new _ _, by simp, rfl, hMo, hks.mono (.refl M) hb', hvs.mono (.refl M) hb', hborn, hnd⟩, S.noObj, rfl⟩)
    refine ⟨β', _, .pointer (some ⟨w.heap.size, 0, none⟩), .inl ?_, hle, hx', S', by simp only [Rel]; exact ⟨_, hbp, rfl⟩⟩
    simp [execOp, ho, Instr.range, run_underlying hd, he, hgo]
  · cases hev

theorem f_delete (G : Globs gl M) (E : EnvRel M β N e a) (S : Sim M β hp.get w0 w) (hg : ∀ b o, g b = some o → hp.get b = some o) {c : Call} {t u kty el : TypeId} {x y : Operand} (ho : o.op = .call c) (hcal : c.callee = .builtin .delete) (hargs : c.args.toList = [x, y]) (hts : c.argTypes.toList = [t, u])
    (hd : P.underlying t = some (.map kty el)) {kt : KT} (hkt : tKT P kty = some kt) {x' y' : X} (hx : cX gl x = some x') (hy : cX gl y = some y') (hev : evI g id e (.delete kt x' y') = some eff) : Follows P M β w0 w (execOp a.eval o) hp id eff := by
  have hr := cX_rel G E hx
  have hq := cX_rel G E hy
  obtain ⟨callee, args, argTypes⟩ := c
  simp only at hcal hargs hts
  subst hcal
  have ha : args = #[x, y] := Array.toList_inj.1 (by simpa using hargs)
  have ht : argTypes = #[t, u] := Array.toList_inj.1 (by simpa using hts)
  subst ha ht
  have top : ∀ (v : Value) (w' : World), (Builtin.delete_ #[t, u] o.type #[a.eval x, a.eval y]).run P w = .ok v w' → (execOp a.eval o).run P w = .ok (.value v) w' := fun v w' h => by
    simp only [execOp, ho, Go.resolve, invoke, builtin, Sem.run_bind, Sem.run_pure, Result.andThen_ok]
    simp [h]
  simp only [evI] at hev
  split at hev
  · rename_i hv
    split at hev
    · rename_i hfit
      cases hev
      rw [hv] at hr; simp only [Rel] at hr
      have hck := checkKey_run hkt hfit hq true w
      refine Follows.same S (c := .tuple #[]) (top _ _ ?_) (by simp only [Rel, RelL]; exact ⟨_, rfl, rfl⟩)
      simp [Builtin.delete_, run_underlying hd, hr, hck]
    · cases hev
  · rename_i b hv
    rw [hv] at hr; simp only [Rel] at hr
    obtain ⟨j, hj, he⟩ := hr
    split at hev
    · rename_i es clock hb
      split at hev
      · rename_i hcond
        simp only [Bool.and_eq_true, List.all_eq_true] at hcond
        obtain ⟨hfit, hall⟩ := hcond
        obtain ⟨j', hj', hbase, ces, hw, hent, hborn, hnd, _, hM⟩ := S.obj _ _ (hg _ _ hb)
        rw [hj] at hj'; cases hj'
        obtain ⟨r2, h2, h3⟩ := findKey_run hkt hfit hq w hent (fun x hx => hall x hx)
        have hck := checkKey_run hkt hfit hq ces.isEmpty w
        have hgo := run_getObj (P := P) hw (fun _ _ _ h => by cases h)
        have htup : Rel M β (.tuple []) (.tuple #[]) := by simp only [Rel, RelL]; exact ⟨_, rfl, rfl⟩
        cases hfe : findE (y'.val e).cells es 0 with
        | none =>
          rw [hfe] at hev h3
          cases hev
          have h3' : r2 = none := h3
          subst h3'
          have hso := run_setObj (P := P) (ob' := .map ces clock) hw (fun _ _ _ h => by cases h)
          have S' := S.objSet hj hbase hw (fun _ _ _ h => by cases h) (hM rfl) (hg _ _ hb) rfl (ob' := .map ces clock) (o' := .map es clock false)
            ⟨_, objSet_get hw, hent, hborn, hnd, (fun h => by cases h), fun _ => hM rfl⟩
          refine ⟨β, _, .tuple #[], .inl (top _ _ ?_), .refl β, fun _ _ => rfl, S', htup⟩
          simp [Builtin.delete_, run_underlying hd, he, hgo, hck, h2, hso]
        | some q =>
          obtain ⟨ix, v⟩ := q
          rw [hfe] at hev h3
          cases hev
          obtain ⟨c, h3', hcr⟩ := h3
          subst h3'
          have hso := run_setObj (P := P) (ob' := .map (ces.eraseIdxIfInBounds ix) clock) hw (fun _ _ _ h => by cases h)
          have herase : (ces.eraseIdxIfInBounds ix).toList = ces.toList.eraseIdx ix := by
            rw [Array.eraseIdxIfInBounds]
            split
            · simp
            · rename_i h
              rw [List.eraseIdx_of_length_le (by simpa using h)]
          have S' := S.objSet hj hbase hw (fun _ _ _ h => by cases h) (hM rfl) (hg _ _ hb) rfl (ob' := .map (ces.eraseIdxIfInBounds ix) clock) (o' := .map (es.eraseIdx ix) clock false)
            ⟨_, objSet_get hw, by rw [herase]; exact hent.erase ix, fun m hm => by
              rw [herase] at hm
              exact hborn m (List.mem_of_mem_eraseIdx hm), by
              rw [herase]
              exact hnd.sublist ((List.eraseIdx_sublist _ _).map _), (fun h => by cases h), fun _ => hM rfl⟩
          refine ⟨β, _, .tuple #[], .inl (top _ _ ?_), .refl β, fun _ _ => rfl, S', htup⟩
          simp [Builtin.delete_, run_underlying hd, he, hgo, hck, h2, hso]
      · cases hev
    · cases hev
  · cases hev

end
end Go.Abs
