/-
  ABS, part 15: maps written; lengths; slices and texts cut.
-/
import Derived.Test.YtfmdgjnjfmgbmaaGreatDoorAbs14
namespace Go.Abs
open Go Go.RowKit
set_option linter.unusedSectionVars false
variable [Syms]

section
variable {P : Program} {M : Mem} {β : Places} {w0 w : World} {hp : Heap} {id N : Nat} {e : Env} {a : Act} {gl : Nat → Option (List V)} {g : View} {o : Oper} {i : I} {eff : Eff}

theorem RelEnt.length : ∀ {es : List (V × V × Nat)} {ms : List MapEntry}, RelEnt M β es ms → ms.length = es.length
  | [], _, h => by simp only [RelEnt] at h; subst h; rfl
  | _ :: _, _, h => by
    simp only [RelEnt] at h
    obtain ⟨m, ms, rfl, _, _, _, ht⟩ := h
    simp [RelEnt.length ht]

theorem RelEnt.get : ∀ {es : List (V × V × Nat)} {ms : List MapEntry}, RelEnt M β es ms → ∀ {k : Nat} {x}, es[k]? = some x → ∃ m, ms[k]? = some m ∧ Rel M β x.1 m.key ∧ Rel M β x.2.1 m.val ∧ m.born = x.2.2
  | [], _, _, k, x, hk => by simp at hk
  | y :: es, _, h, k, x, hk => by
    simp only [RelEnt] at h
    obtain ⟨m, ms, rfl, h1, h2, h3, ht⟩ := h
    cases k with
    | zero => simp at hk; subst hk; exact ⟨m, rfl, h1, h2, h3⟩
    | succ k => simpa using RelEnt.get ht (by simpa using hk)

theorem RelEnt.set : ∀ {es : List (V × V × Nat)} {ms : List MapEntry}, RelEnt M β es ms → ∀ (k : Nat) {x : V × V × Nat} {m : MapEntry}, Rel M β x.1 m.key → Rel M β x.2.1 m.val → m.born = x.2.2 → RelEnt M β (es.set k x) (ms.set k m)
  | [], _, h, k, x, m, _, _, _ => by simp only [RelEnt] at h; subst h; rfl
  | y :: es, _, h, k, x, m, h1, h2, h3 => by
    simp only [RelEnt] at h
    obtain ⟨m', ms, rfl, q1, q2, q3, ht⟩ := h
    cases k with
    | zero => exact ⟨m, ms, rfl, h1, h2, h3, ht⟩
    | succ k => exact ⟨m', ms.set k m, rfl, q1, q2, q3, RelEnt.set ht k h1 h2 h3⟩

theorem RelEnt.snoc : ∀ {es : List (V × V × Nat)} {ms : List MapEntry}, RelEnt M β es ms → ∀ {x : V × V × Nat} {m : MapEntry}, Rel M β x.1 m.key → Rel M β x.2.1 m.val → m.born = x.2.2 → RelEnt M β (es ++ [x]) (ms ++ [m])
  | [], _, h, x, m, h1, h2, h3 => by simp only [RelEnt] at h; subst h; exact ⟨m, [], rfl, h1, h2, h3, rfl⟩
  | y :: es, _, h, x, m, h1, h2, h3 => by
    simp only [RelEnt] at h
    obtain ⟨m', ms, rfl, q1, q2, q3, ht⟩ := h
    exact ⟨m', ms ++ [m], rfl, q1, q2, q3, RelEnt.snoc ht h1 h2 h3⟩

theorem RelEnt.erase : ∀ {es : List (V × V × Nat)} {ms : List MapEntry}, RelEnt M β es ms → ∀ (k : Nat), RelEnt M β (es.eraseIdx k) (ms.eraseIdx k)
  | [], _, h, k => by simp only [RelEnt] at h; subst h; rfl
  | y :: es, _, h, k => by
    simp only [RelEnt] at h
    obtain ⟨m', ms, rfl, q1, q2, q3, ht⟩ := h
    cases k with
    | zero => exact ht
    | succ k => exact ⟨m', ms.eraseIdx k, rfl, q1, q2, q3, RelEnt.erase ht k⟩

theorem findE_some : ∀ {k : List V} {es : List (V × V × Nat)} {j i : Nat} {v : V}, findE k es j = some (i, v) → ∃ x, j ≤ i ∧ es[i - j]? = some x ∧ sameAll k x.1.cells = true ∧ x.2.1 = v
  | k, [], j, i, v, h => by simp [findE] at h
  | k, (k', v', b) :: es, j, i, v, h => by
    simp only [findE] at h
    split at h
    · rename_i hs
      cases h
      exact ⟨(k', v', b), Nat.le_refl _, by simp, hs, rfl⟩
    · obtain ⟨x, h1, h2, h3, h4⟩ := findE_some h
      refine ⟨x, by omega, ?_, h3, h4⟩
      rw [show i - j = (i - (j + 1)) + 1 by omega]
      simpa using h2

theorem keyStays {kt : KT} {t : TypeId} (hk : tKT P t = some kt) {k k' : V} {c c' : Value} (h1 : kt.fits k = true) (h2 : kt.fits k' = true) (hc : Rel M β k c) (hc' : Rel M β k' c') (hs : sameAll k.cells k'.cells = true) (w : World) :
    (Instr.keyThatStays c' c).run P w = .ok c w := by
  obtain ⟨g, hg, _, hks, hf, hcc, hsh⟩ := KT_cells hk h1 hc
  obtain ⟨g', hg', _, _, hf', hcc', hsh'⟩ := KT_cells hk h2 hc'
  have he := same_eq hf hf' hs hc.cells hc'.cells
  have hcc2 : c = c' := by
    rw [hg] at hg'; cases hg'
    cases g with
    | true =>
      obtain ⟨arr, rfl, _⟩ := hcc
      obtain ⟨arr', rfl, _⟩ := hcc'
      simp only [Value.cells] at he
      rw [Array.toList_inj.1 he]
    | false =>
      obtain ⟨x, hx, hxr⟩ := hcc
      obtain ⟨y, hy, hyr⟩ := hcc'
      rcases hsh with h | ⟨arr, rfl⟩
      · rcases hsh' with h' | ⟨arr', rfl⟩
        · rw [h, h'] at he; simpa using he
        · have := hyr.one
          rw [hy] at hf'
          cases hkk : kt.ks with
          | nil => rw [hkk] at hf'; simp [fitsAll] at hf'
          | cons q qs =>
            rw [hkk] at hf'
            simp only [fitsAll, Bool.and_eq_true] at hf'
            cases q <;> cases y <;> simp [CK.fits] at hf' <;> simp [V.one, Value.oneCell'] at this
      · have := hxr.one
        rw [hx] at hf
        cases hkk : kt.ks with
        | nil => rw [hkk] at hf; simp [fitsAll] at hf
        | cons q qs =>
          rw [hkk] at hf
          simp only [fitsAll, Bool.and_eq_true] at hf
          cases q <;> cases x <;> simp [CK.fits] at hf <;> simp [V.one, Value.oneCell'] at this
  subst hcc2
  have hb : Instr.sameBits 10000 c c = true := by
    cases g with
    | true =>
      obtain ⟨arr, rfl, hl⟩ := hcc
      have := sameBits_all 9999 hf hl
      show (arr.size == arr.size && (arr.toList.zip arr.toList).all fun (x, y) => Instr.sameBits 9999 x y) = true
      simp [this]
    | false =>
      obtain ⟨x, hx, hxr⟩ := hcc
      rw [hx] at hf
      cases hkk : kt.ks with
      | nil => rw [hkk] at hf; simp [fitsAll] at hf
      | cons q qs =>
        rw [hkk] at hf
        simp only [fitsAll, Bool.and_eq_true] at hf
        exact sameBits_one _ hf.1 hxr
  simp [Instr.keyThatStays, hb]

theorem f_mapSet (G : Globs gl M) (E : EnvRel M β N e a) (S : Sim M β hp.get w0 w) (hg : ∀ b o, g b = some o → hp.get b = some o) {t : TypeId} {x y z : Operand} (ho : o.op = .mapUpdate t x y z ∨ o.op = .insert t x y z) (hc : cOp P gl (.mapUpdate t x y z) = some i) (hev : evI g id e i = some eff) :
    Follows P M β w0 w (execOp a.eval o) hp id eff := by
  simp only [cOp] at hc
  split at hc
  · rename_i kty el hd
    simp only [Option.bind_eq_some_iff, Option.map_eq_some_iff] at hc
    obtain ⟨kt, hkt, x', hx, y', hy, z', hz, rfl⟩ := hc
    have hr := cX_rel G E hx
    have hq := cX_rel G E hy
    have hv := cX_rel G E hz
    simp only [evI] at hev
    split at hev
    · rename_i b hvx
      rw [hvx] at hr; simp only [Rel] at hr
      obtain ⟨j, hj, he⟩ := hr
      split at hev
      · rename_i es clock hb
        split at hev
        · rename_i hcond
          simp only [Bool.and_eq_true, List.all_eq_true] at hcond
          obtain ⟨hfit, hall⟩ := hcond
          obtain ⟨j', hj', hbase, ces, hw, hent, hborn, hnd, _, hM⟩ := S.obj _ _ (hg _ _ hb)
          rw [hj] at hj'; cases hj'
          obtain ⟨r2, h2, h3⟩ := findKey_run hkt hfit hq w hent (fun x hx => hall x hx)
          have hck := checkKey_run hkt hfit hq false w
          have hgo := run_getObj (P := P) hw (fun _ _ _ h => by cases h)
          have hrun : ∀ (ob : Go.Obj), (match r2 with
              | some (i, _) => do
                let key ← Instr.keyThatStays (((ces[i]?).map (·.key)).getD (a.eval y)) (a.eval y)
                setObj j.blk (.map (ces.modify i fun e => { e with key, val := a.eval z }) clock)
              | none => setObj j.blk (.map (ces.push { key := a.eval y, val := a.eval z, born := clock }) (clock + 1)) : Sem Unit).run P w = .ok () (World.objSet w j.blk ob) →
              (execOp a.eval o).run P w = .ok .skip (World.objSet w j.blk ob) := fun ob h => by
            have : (execOp a.eval o) = (do Instr.mapUpdate t (a.eval x) (a.eval y) (a.eval z); pure .skip) := by
              rcases ho with ho | ho <;> simp only [execOp, ho]
            rw [this]
            simp only [Sem.run_bind, Instr.mapUpdate, run_underlying hd, Result.andThen_ok, he, hgo, hck, h2]
            cases r2 with
            | none => simp only [h, Result.andThen_ok, Sem.run_pure]
            | some q => simp only [Sem.run_bind] at h; simp only [Sem.run_bind, h, Result.andThen_ok, Sem.run_pure]
          cases hfe : findE (y'.val e).cells es 0 with
          | none =>
            rw [hfe] at hev h3
            cases hev
            have h3' : r2 = none := h3
            subst h3'
            have hso := run_setObj (P := P) (ob' := .map (ces.push { key := a.eval y, val := a.eval z, born := clock }) (clock + 1)) hw (fun _ _ _ h => by cases h)
            have S' := S.objSet hj hbase hw (fun _ _ _ h => by cases h) (hM rfl) (hg _ _ hb) rfl (ob' := .map (ces.push { key := a.eval y, val := a.eval z, born := clock }) (clock + 1))
              (o' := .map (es ++ [(y'.val e, z'.val e, clock)]) (clock + 1) false)
              ⟨_, objSet_get hw, by rw [Array.toList_push]; exact hent.snoc hq hv rfl, fun m hm => by
                rw [Array.toList_push, List.mem_append] at hm
                rcases hm with hm | hm
                · have := hborn m hm; omega
                · simp at hm; subst hm; simp, by
                rw [Array.toList_push, List.map_append, List.nodup_append]
                refine ⟨hnd, by simp, fun p hp q hq => ?_⟩
                simp at hq; subst hq
                obtain ⟨m, hm, rfl⟩ := List.mem_map.1 hp
                have := hborn m hm; omega, (fun h => by cases h), fun _ => hM rfl⟩
            exact ⟨β, _, undef, .inr ⟨hrun _ hso, rfl⟩, .refl β, fun _ _ => rfl, S', undef_rel _ _⟩
          | some q =>
            obtain ⟨ix, v⟩ := q
            rw [hfe] at hev h3
            cases hev
            obtain ⟨c, h3', hcr⟩ := h3
            subst h3'
            obtain ⟨x0, _, hx0, hsame, _⟩ := findE_some hfe
            simp only [Nat.sub_zero] at hx0
            obtain ⟨m, hm, hmk, hmv, hmb⟩ := hent.get hx0
            have hfit0 : kt.fits x0.1 = true := hall x0 (List.mem_of_getElem? hx0)
            have hm' : ces[ix]? = some m := by simpa using hm
            have hstay := keyStays hkt hfit hfit0 hq hmk hsame w
            have hso := run_setObj (P := P) (ob' := .map (ces.modify ix fun e => { e with key := a.eval y, val := a.eval z }) clock) hw (fun _ _ _ h => by cases h)
            have hmod : (ces.modify ix fun e => { e with key := a.eval y, val := a.eval z }).toList = ces.toList.set ix { m with key := a.eval y, val := a.eval z } := by
              apply List.ext_getElem?
              intro k
              rw [Array.getElem?_toList, Array.getElem?_modify, List.getElem?_set]
              by_cases hk : ix = k
              · subst hk
                have hlt : ix < ces.toList.length := by
                  rcases Nat.lt_or_ge ix ces.toList.length with h | h
                  · exact h
                  · rw [List.getElem?_eq_none h] at hm; cases hm
                simp [hm']
                simpa using hlt
              · simp [hk]
            have S' := S.objSet hj hbase hw (fun _ _ _ h => by cases h) (hM rfl) (hg _ _ hb) rfl (ob' := .map (ces.modify ix fun e => { e with key := a.eval y, val := a.eval z }) clock)
              (o' := .map (es.set ix (y'.val e, z'.val e, ((es[ix]?).map (·.2.2)).getD 0)) clock false)
              ⟨_, objSet_get hw, by rw [hmod]; exact hent.set ix hq hv (by simp [hx0, hmb]), fun m' hm' => by
                rw [hmod] at hm'
                rcases List.mem_or_eq_of_mem_set hm' with h | h
                · exact hborn m' h
                · subst h; exact hborn m (List.mem_of_getElem? hm), by
                rw [hmod, List.map_set]
                have : (ces.toList.map (·.born)).set ix m.born = ces.toList.map (·.born) := by
                  apply List.ext_getElem?
                  intro k
                  rw [List.getElem?_set]
                  by_cases hk : ix = k
                  · subst hk
                    simp only [if_true, List.getElem?_map, hm, Option.map_some, List.length_map]
                    rw [if_pos]
                    rcases Nat.lt_or_ge ix ces.toList.length with h | h
                    · exact h
                    · rw [List.getElem?_eq_none h] at hm; cases hm
                  · rw [if_neg hk]
                rw [this]; exact hnd, (fun h => by cases h), fun _ => hM rfl⟩
            refine ⟨β, _, undef, .inr ⟨hrun _ ?_, rfl⟩, .refl β, fun _ _ => rfl, S', undef_rel _ _⟩
            simp only [hm', Option.map_some, Option.getD_some, Sem.run_bind, hstay, Result.andThen_ok, hso]
        · cases hev
      · cases hev
    · cases hev
  · cases hc

theorem bound_run {x : Option Operand} {x' : Option X} (G : Globs gl M) (E : EnvRel M β N e a) (hx : cXo gl x = some x') {d most n : Nat} (h : bound e x' d most = some n) :
    (x = none ∧ x' = none ∧ n = d) ∨ ∃ y y', x = some y ∧ x' = some y' ∧ n ≤ most ∧ ∃ k m, a.eval y = .int k m ∧ 0 ≤ m ∧ m.toNat = n ∧ ∀ top code (w : World), n ≤ top → (Instr.sliceBound (.int k m) top code).run P w = .ok n w := by
  cases x with
  | none =>
    simp only [cXo, Option.some.injEq] at hx; subst hx
    simp only [bound, Option.some.injEq] at h
    exact .inl ⟨rfl, rfl, h.symm⟩
  | some y =>
    simp only [cXo, Option.map_eq_some_iff] at hx
    obtain ⟨y', hy, rfl⟩ := hx
    have hr := cX_rel G E hy
    simp only [bound] at h
    split at h
    · rename_i k m hv
      rw [hv] at hr; simp only [Rel] at hr
      split at h
      · rename_i hm
        cases h
        refine .inr ⟨y, y', rfl, rfl, by omega, k, m, hr, hm.1, rfl, fun top code w htop => ?_⟩
        have : 0 ≤ m ∧ m ≤ top := ⟨hm.1, by omega⟩
        simp [Instr.sliceBound, asIntOf, this]
      · cases h
    · cases h

theorem bytesOf_extract (s : ByteArray) (l h : Nat) : bytesOf (s.extract l h) = ((bytesOf s).take h).drop l := by
  simp only [bytesOf, ByteArray.data_extract, Array.toList_extract, List.extract, ← List.map_take, ← List.map_drop]
  congr 1
  rw [List.drop_take]

theorem f_sliceS (G : Globs gl M) (E : EnvRel M β N e a) (S : Sim M β hp.get w0 w) {t : TypeId} {x : Operand} {lo hi : Option Operand} (ho : o.op = .slice t x lo hi none) (hd : P.underlying t = some .string) {x' : X} {lo' hi' : Option X}
    (hx : cX gl x = some x') (hlo : cXo gl lo = some lo') (hhi : cXo gl hi = some hi') (hev : evI g id e (.sliceS x' lo' hi') = some eff) : Follows P M β w0 w (execOp a.eval o) hp id eff := by
  have hr := cX_rel G E hx
  simp only [evI] at hev
  split at hev
  · rename_i s hv
    rw [hv] at hr; simp only [Rel] at hr
    obtain ⟨bs, he, hb⟩ := hr
    simp only [Option.bind_eq_some_iff, Option.some.injEq] at hev
    obtain ⟨h, hh, l, hl, rfl⟩ := hev
    subst hb
    rw [bytesOf_length] at hh
    have hsz : h ≤ bs.size ∧ l ≤ h ∧ (Instr.sliceBounds false bs.size bs.size (lo.map a.eval) (hi.map a.eval) none).run P w = .ok (l, h, bs.size) w := by
      rcases bound_run (P := P) G E hhi hh with ⟨rfl, rfl, rfl⟩ | ⟨y, y', rfl, rfl, hle, k, m, hy, _, _, hrun⟩
      · rcases bound_run (P := P) G E hlo hl with ⟨rfl, rfl, rfl⟩ | ⟨z, z', rfl, rfl, hle2, k2, m2, hz, _, _, hrun2⟩
        · exact ⟨Nat.le_refl _, Nat.zero_le _, by simp [Instr.sliceBounds]⟩
        · exact ⟨Nat.le_refl _, hle2, by simp [Instr.sliceBounds, hz, hrun2 _ _ _ hle2]⟩
      · rcases bound_run (P := P) G E hlo hl with ⟨rfl, rfl, rfl⟩ | ⟨z, z', rfl, rfl, hle2, k2, m2, hz, _, _, hrun2⟩
        · exact ⟨hle, Nat.zero_le _, by simp [Instr.sliceBounds, hy, hrun _ _ _ hle]⟩
        · exact ⟨hle, hle2, by simp [Instr.sliceBounds, hy, hrun _ _ _ hle, hz, hrun2 _ _ _ hle2]⟩
    obtain ⟨_, _, h3⟩ := hsz
    refine Follows.same S (c := .string (bs.extract l h)) ?_ (by simp only [Rel]; exact ⟨_, rfl, bytesOf_extract bs l h⟩)
    have hnn : Option.map a.eval none = none := rfl
    simp only [execOp, ho, he, Instr.sliceAt, Sem.run_bind, run_underlying hd, Result.andThen_ok, Instr.slice, hnn, Option.isSome_none, Bool.false_eq_true, if_false, h3, Sem.run_pure]
  · cases hev

end
end Go.Abs
