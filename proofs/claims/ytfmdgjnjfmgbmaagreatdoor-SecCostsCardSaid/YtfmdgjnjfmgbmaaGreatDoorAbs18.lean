/-
  ABS, part 18: append.
-/
import Derived.Test.YtfmdgjnjfmgbmaaGreatDoorAbs17
import Derived.Laws.Append
import Derived.Laws.AppendOwn
namespace Go.Abs
open Go Go.RowKit
set_option linter.unusedSectionVars false
variable [Syms]

section
variable {P : Program} {M : Mem} {β : Places} {w0 w : World} {hp : Heap} {id N : Nat} {e : Env} {a : Act} {gl : Nat → Option (List V)} {g : View} {o : Oper} {i : I} {eff : Eff}

theorem zeroCells_toList (z : Array Value) (n : Nat) (hz : 0 < z.size) : (Builtin.zeroCells z n).toList = (List.replicate n z.toList).flatten := by
  unfold Builtin.zeroCells
  exact zeros_toList n z.size z rfl hz

theorem flatten_len {l : List Value} (n : Nat) : ((List.replicate n l).flatten).length = n * l.length := by
  induction n with
  | zero => simp
  | succ n ih => rw [List.replicate_succ, List.flatten_cons, List.length_append, ih, Nat.succ_mul]; omega

theorem tInfo {t : TypeId} {n b : Nat} {z : V} (hn : tSize P t = some n) (hb : tBytes P t = some b) (hz : tZero P t = some z) : ∃ i c, P.info? t = some i ∧ i.size = n ∧ i.bytes = b ∧ i.zero = some c ∧ ∀ M β, Rel M β z c := by
  unfold tSize at hn
  unfold tBytes at hb
  unfold tZero at hz
  simp only [Option.map_eq_some_iff, Option.bind_eq_some_iff] at hn hb hz
  obtain ⟨i, hi, rfl⟩ := hn
  obtain ⟨i2, hi2, rfl⟩ := hb
  obtain ⟨c, ⟨i3, hi3, hz3⟩, hc⟩ := hz
  rw [hi] at hi2 hi3; cases hi2; cases hi3
  exact ⟨i, c, hi, rfl, rfl, hz3, fun M β => ofConst_rel M β _ _ _ hc⟩

theorem run_append_more {t u ty el : TypeId} {i : TypeInfo} {z : Value} (ht : P.underlying t = some (.slice el)) (hu : (∃ e', P.underlying u = some (.slice e')) ∨ P.underlying u = some .string) (hi : P.info? el = some i) (hz : i.zero = some z) {A : Option Addr} {sLen sCap n : Nat} {x : Value}
    (hlen : ∀ w : World, (Builtin.lenOf x).run P w = .ok n w) {old new : List Value} (hold : (Builtin.firstCells i.size sLen (.slice A sLen sCap)).run P w.drew = .ok old.toArray w.drew) (hnew : (Builtin.firstCells i.size n x).run P w.drew = .ok new.toArray w.drew)
    (hg : sCap < sLen + n) (h63 : ((sLen + n : Nat) : Int) ≤ 9223372036854775807) (hfit : Builtin.nextslicecap (sLen + n) sCap * i.bytes ≤ 281474976710656) :
    (Builtin.append_ #[t, u] ty #[.slice A sLen sCap, x]).run P w =
      .ok (.slice (some ⟨w.heap.size, 0, none⟩) (sLen + n) (grownCap w (sLen + n) sCap el))
        (w.drew.alloc (.cells (old.toArray ++ new.toArray ++ Builtin.zeroCells z.cells (grownCap w (sLen + n) sCap el - (sLen + n))) el)) := by
  have hn : ¬ (sLen + n ≤ sCap) := by omega
  have h63' : ¬ (9223372036854775807 < ((sLen : Int) + (n : Int))) := by omega
  have h48' : ¬ (281474976710656 < Builtin.nextslicecap (sLen + n) sCap * i.bytes) := by omega
  rcases hu with ⟨e', hu⟩ | hu
  · simp [Builtin.append_, run_underlying ht, run_underlying hu, sizeOf, typeInfo, zeroValue, hi, hz, hlen, hn, h63', h48', Question.forced, hold, hnew, newRow, grownCap]
    congr 2
    apply Array.ext'
    simp [List.append_assoc]
  · simp [Builtin.append_, run_underlying ht, run_underlying hu, sizeOf, typeInfo, zeroValue, hi, hz, hlen, hn, h63', h48', Question.forced, hold, hnew, newRow, grownCap]
    congr 2
    apply Array.ext'
    simp [List.append_assoc]

theorem run_append_fit {t u ty el : TypeId} {i : TypeInfo} (ht : P.underlying t = some (.slice el)) (hu : (∃ e', P.underlying u = some (.slice e')) ∨ P.underlying u = some .string) (hi : P.info? el = some i) {A : Option Addr} {sLen sCap n : Nat} {x : Value}
    (hlen : ∀ w : World, (Builtin.lenOf x).run P w = .ok n w) {new : List Value} (hnew : (Builtin.firstCells i.size n x).run P w = .ok new.toArray w) (hroom : sLen + n ≤ sCap) {w' : World}
    (hst : (match A with | none => pure () | some a => Go.storeCells (a.add (sLen * i.size)) new : Sem Unit).run P w = .ok () w') :
    (Builtin.append_ #[t, u] ty #[.slice A sLen sCap, x]).run P w = .ok (.slice A (sLen + n) sCap) w' := by
  rcases hu with ⟨e', hu⟩ | hu <;> cases A <;> simp only [Sem.run_pure, Result.ok.injEq, true_and] at hst
  · subst hst
    simp [Builtin.append_, run_underlying ht, run_underlying hu, sizeOf, typeInfo, hi, hlen, hroom, hnew]
  · simp [Builtin.append_, run_underlying ht, run_underlying hu, sizeOf, typeInfo, hi, hlen, hroom, hnew, hst]
  · subst hst
    simp [Builtin.append_, run_underlying ht, run_underlying hu, sizeOf, typeInfo, hi, hlen, hroom, hnew]
  · simp [Builtin.append_, run_underlying ht, run_underlying hu, sizeOf, typeInfo, hi, hlen, hroom, hnew, hst]

/-- The prefix that is told to be kept may be told longer. -/
theorem CellsOk.told {i : Place} {cs : List V} {fz fz' : Nat} {arr : Array Value} {T : TypeId} {fr : Nat × Nat} (C : CellsOk M β w i cs fz arr T fr) (hle : fz ≤ fz') (hlt : fz' < cs.length ∨ fz' = fz) (h2 : fz' ≤ cs.length) : CellsOk M β w i cs fz' arr T fr :=
  ⟨C.blk, C.size, C.thaw, C.fits, C.rel, h2, fun he k c hk hc => by
    rcases hlt with h | h
    · omega
    · exact C.ice (by omega) k c hk hc, fun a c hm hb => by have := C.free a c hm hb; omega⟩

theorem append_grows (S : Sim M β hp.get w0 w) (hid : β id = none) {t u ty el : TypeId} (hd : P.underlying t = some (.slice el)) (hu : (∃ e', P.underlying u = some (.slice e')) ∨ P.underlying u = some .string) {esz bytes : Nat} (hn : tSize P el = some esz) (hb : tBytes P el = some bytes) {z : V} (hz : tZero P el = some z) (hzl : z.cells.length = esz)
    {A : Option Addr} {ls c n : Nat} {x : Value} (hlen : ∀ w : World, (Builtin.lenOf x).run P w = .ok n w) {cs ds : List V} {old new : List Value} (hold : (Builtin.firstCells esz ls (.slice A ls c)).run P w.drew = .ok old.toArray w.drew)
    (hnew : (Builtin.firstCells esz n x).run P w.drew = .ok new.toArray w.drew) (ho : RelL M β cs old) (hw : RelL M β ds new) (h1 : ∀ v ∈ cs, v.one = true) (h2 : ∀ v ∈ ds, v.one = true) (hcl : cs.length = ls * esz) (hdl : ds.length = n * esz)
    (hroom : (ls + n) * (bytes + 1) ≤ roomy) (hpos : 0 < esz) (hc : c < ls + n) (fz : Nat) (hfz : fz ≤ ls * esz) (hn0 : 0 < n) :
    ∃ β' w' q sz, (Builtin.append_ #[t, u] ty #[.slice A ls c, x]).run P w = .ok (.slice (some ⟨w.heap.size, 0, none⟩) (ls + n) q) w' ∧ ls + n ≤ q ∧ β.le β' ∧ (∀ x, x ≠ id → β' x = β x) ∧
      β' id = some ⟨w.heap.size, 0, esz, (cs ++ ds).length, sz, none⟩ ∧ q * esz ≤ sz ∧ Sim M β' (hp.set id (.cells (cs ++ ds) esz fz false)).get w0 w' := by
  obtain ⟨i, zc, hi, hsz, hby, hzero, hzrel⟩ := tInfo hn hb hz
  have hzs : zc.cells.size = esz := by have := (hzrel M β).cells.length; rw [hzl] at this; simpa using this
  have hr1 : roomy = 1099511627776 := by decide
  have hneed : ls + n ≤ 1099511627776 := by
    have : (ls + n) * 1 ≤ (ls + n) * (bytes + 1) := Nat.mul_le_mul_left _ (by omega)
    omega
  have hnb : (ls + n) * bytes ≤ 1099511627776 := by
    have : (ls + n) * bytes ≤ (ls + n) * (bytes + 1) := Nat.mul_le_mul_left _ (by omega)
    omega
  have hnext : Builtin.nextslicecap (ls + n) c * i.bytes ≤ 281474976710656 := by
    rw [hby]
    have h3 := Go.nextslicecap_le hc
    have h4 : Builtin.nextslicecap (ls + n) c * bytes ≤ (2 * (ls + n)) * bytes := Nat.mul_le_mul_right _ h3
    have h5 : (2 * (ls + n)) * bytes = 2 * ((ls + n) * bytes) := by rw [Nat.mul_assoc]
    omega
  subst hsz
  have hrun := run_append_more (w := w) (ty := ty) hd hu hi hzero hlen hold hnew hc (by omega) hnext
  have hge := grownCap_ge w (ls + n) c el
  have hrest : (Builtin.zeroCells zc.cells (grownCap w (ls + n) c el - (ls + n))).toList.length = (grownCap w (ls + n) c el - (ls + n)) * i.size := by
    simp [Builtin.zeroCells, hzs]
  obtain ⟨β', hbp, hle, hx, S'⟩ := made (rest := (Builtin.zeroCells zc.cells (grownCap w (ls + n) c el - (ls + n))).toList) (S.drew) hid (ho.append hw) (fun v hv => by
    rcases List.mem_append.1 hv with h | h
    · exact h1 v h
    · exact h2 v h) i.size el
  refine ⟨β', _, _, _, hrun, hge, hle, hx, hbp, ?_, ?_⟩
  · rw [hrest, List.length_append, ho.length, hw.length, hcl, hdl]
    have e1 : grownCap w (ls + n) c el = ls + n + (grownCap w (ls + n) c el - (ls + n)) := by omega
    rw [e1, Nat.add_mul, Nat.add_mul]
    simp
  · have harr : old.toArray ++ new.toArray ++ Builtin.zeroCells zc.cells (grownCap w (ls + n) c el - (ls + n)) = (old ++ new ++ (Builtin.zeroCells zc.cells (grownCap w (ls + n) c el - (ls + n))).toList).toArray := by
      apply Array.ext'; simp
    rw [harr]
    -- the frozen head may be told longer: nothing of a new block is kept
    have hget : (hp.set id (AObj.cells (cs ++ ds) i.size fz false)).get = upd (hp.set id (.cells (cs ++ ds) i.size 0 false)).get id (some (.cells (cs ++ ds) i.size fz false)) := by
      rw [Abs.get_set, Abs.get_set]
      funext y
      by_cases hy : y = id
      · subst hy; rw [upd_eq, upd_eq]
      · rw [upd_ne _ _ hy, upd_ne _ _ hy, upd_ne _ _ hy]
    rw [hget]
    have hb0 : (hp.set id (AObj.cells (cs ++ ds) i.size 0 false)).get id = some (.cells (cs ++ ds) i.size 0 false) := by rw [Abs.get_set, upd_eq]
    obtain ⟨pl, hpl, hbase, h3, h4, arr, T, fr, C⟩ := S'.obj _ _ hb0
    have hcd : fz < (cs ++ ds).length := by
      rw [List.length_append, hcl, hdl]
      have : 0 < n * i.size := Nat.mul_pos hn0 hpos
      omega
    exact S'.put hpl hbase ⟨h3, h4, arr, T, fr, C.told (Nat.zero_le _) (.inl hcd) (by omega)⟩ (fun _ b' o' i' hne hb' hi' hown => S'.sep b' id o' _ i' pl hne hb' hb0 hi' hpl hown rfl)

/-- Where there is room behind a row that is the last of its block: the object's block grows on, under a new number. -/
theorem append_behind (S : Sim M β hp.get w0 w) (hid : β id = none) {b off esz fz : Nat} {cs : List V} (hb : hp.get b = some (.cells cs esz fz false)) {j : Place} (hj : β b = some j) {c : Nat} (hsize : j.off + off + c * j.esz ≤ j.size)
    {ls n : Nat} {old : List V} {new : List V} {news : List Value} (hold : old = (cs.drop off).take (ls * esz)) (htight : off + ls * esz = cs.length) (hnews : RelL M β new news) (h1 : ∀ v ∈ new, v.one = true) (hnl : new.length = n * esz) (hroom : ls + n ≤ c) (hn0 : 0 < n) (hpos : 0 < esz) :
    ∃ β' w', (Go.storeCells ⟨j.blk, j.off + off + ls * esz, none⟩ news).run P w = .ok () w' ∧ β.le β' ∧ (∀ x, x ≠ id → β' x = β x) ∧ β' id = some ⟨j.blk, j.off + off, esz, (old ++ new).length, j.size, none⟩ ∧
      Sim M β' ((hp.put b (if fz = cs.length then some (.cells cs esz fz true) else none)).set id (.cells (old ++ new) esz (fz - off) false)).get w0 w' := by
  obtain ⟨j', hj', hbase, hesz, hext, arr, T, fr, C⟩ := S.obj _ _ hb
  rw [hj] at hj'; cases hj'
  rw [← hesz] at hsize
  have hne : b ≠ id := fun e => by rw [e, hid] at hj; cases hj
  have hcm : (ls + n) * esz ≤ c * esz := Nat.mul_le_mul_right _ hroom
  rw [Nat.add_mul] at hcm
  have hnp : 0 < n * esz := Nat.mul_pos hn0 hpos
  have hfits := C.fits
  have hfzle := C.fzle
  have hasz := C.size
  have hnl' : news.length = n * esz := by rw [hnews.length, hnl]
  have hfit : j.off + off + ls * esz + news.length ≤ arr.size := by rw [hnl', hasz]; omega
  have hst := run_storeCells_cells (P := P) j.blk (j.off + off + ls * esz) news 0 w (fun k hk => by
      rw [cell?_of C.blk]
      have : j.off + off + ls * esz + 0 + k < arr.size := by omega
      simp only [Nat.add_zero] at this ⊢
      simp [this]) (fun k hk => by
      rw [frozen?_of (a := ⟨j.blk, j.off + off + ls * esz + 0 + k, none⟩) C.blk]
      exact C.thaw _ (by simp only; omega)) (oneCells hnews h1)
  simp only [Nat.add_zero] at hst
  have hnewarr := setCells_heap j.blk news (j.off + off + ls * esz) w arr T fr C.blk hfit
  have hkeep : Keeps M j.blk w (w.setCells j.blk (j.off + off + ls * esz) news) := by
    obtain ⟨h2, h3, h4⟩ := setCells_os j.blk news (j.off + off + ls * esz) w
    refine ⟨h2, h3, h4, by rw [setCells_size]; exact Nat.le_refl _, fun r hr _ => setCells_heap_ne _ _ _ _ _ hr, fun x c hx hxc => ?_, fun r ob hr hrc => ?_⟩
    · by_cases hxb : x.block = j.blk
      · have hlt := C.free x c hx hxb
        rw [World.cell?_setCells_out _ _ _ _ _ (fun _ _ => .inl (by omega))]
        exact hxc
      · rw [← hxc]; exact cell?_eq (setCells_heap_ne _ _ _ _ _ hxb)
    · by_cases hrb : r = j.blk
      · subst hrb
        obtain ⟨es, clock, rfl⟩ := S.maps _ _ hr
        rw [C.blk] at hrc
        cases hrc
      · rw [← hrc]; exact setCells_heap_ne _ _ _ _ _ hrb
  have hcells : ∀ k v, (old ++ new)[k]? = some v → v.one = true ∧ ∃ x, ((arr.toList.take (j.off + off + ls * esz) ++ news ++ arr.toList.drop (j.off + off + ls * esz + news.length)).toArray)[j.off + off + k]? = some x ∧ Rel M β v x := by
    intro k v hk
    have hol : old.length = ls * esz := by rw [hold]; simp; omega
    rw [List.getElem?_toArray, three_get _ _ (by simpa using hfit)]
    by_cases hlt : k < ls * esz
    · rw [List.getElem?_append_left (by omega)] at hk
      rw [if_pos (by omega)]
      rw [hold, List.getElem?_take, if_pos hlt, List.getElem?_drop] at hk
      obtain ⟨h2, x, h3, h4⟩ := C.rel _ _ hk
      exact ⟨h2, x, by rw [Array.getElem?_toList, Nat.add_assoc]; exact h3, h4⟩
    · rw [List.getElem?_append_right (by omega)] at hk
      have hk2 : k - old.length < new.length := by
        rcases Nat.lt_or_ge (k - old.length) new.length with h | h
        · exact h
        · rw [List.getElem?_eq_none h] at hk; cases hk
      rw [if_neg (by omega), if_pos (by rw [hnews.length]; omega)]
      obtain ⟨x, h3, h4⟩ := hnews.get hk
      refine ⟨h1 v (List.mem_of_getElem? hk), x, ?_, h4⟩
      rw [← h3]
      congr 1
      omega
  -- the elder object: gone, or kept for good
  let old' : Option AObj := if fz = cs.length then some (.cells cs esz fz true) else none
  have S1 : Sim M β (upd hp.get b old') w0 w := by
    by_cases hf : fz = cs.length
    · have hu : upd hp.get b old' = upd (upd hp.get b none) b (some (.cells cs esz fz true)) := by
        funext x
        by_cases e : x = b
        · subst e; rw [upd_eq, upd_eq]; simp [old', hf]
        · rw [upd_ne _ _ e, upd_ne _ _ e, upd_ne _ _ e]
      rw [hu]
      refine (S.drop b).put hj hbase ⟨hesz, hext, fun k v hk => ?_⟩ (fun h => by cases h)
      obtain ⟨h2, x, h3, h4⟩ := C.rel k v hk
      have hlt : k < cs.length := by
        rcases Nat.lt_or_ge k cs.length with h | h
        · exact h
        · rw [List.getElem?_eq_none h] at hk; cases hk
      exact ⟨h2, x, C.ice hf k x hlt h3, h4⟩
    · have hu : upd hp.get b old' = upd hp.get b none := by simp [old', hf]
      rw [hu]; exact S.drop b
  have hno : ∀ b' o' i', upd hp.get b old' b' = some o' → β b' = some i' → o'.owns = true → i'.blk ≠ j.blk := by
    intro b' o' i' hb' hi' hown
    by_cases e : b' = b
    · subst e
      rw [upd_eq] at hb'
      by_cases hf : fz = cs.length
      · simp [old', hf] at hb'; subst hb'; cases hown
      · simp [old', hf] at hb'
    · rw [upd_ne _ _ e] at hb'
      exact S.sep b' b o' _ i' j e hb' hb hi' hj hown rfl
  have S2 := S1.change hkeep hbase hno
  have hlen2 : (old ++ new).length = (ls + n) * esz := by
    have hol : old.length = ls * esz := by rw [hold]; simp; omega
    rw [List.length_append, hol, hnl, Nat.add_mul]
  have S3 := S2.add (b := id) (i := ⟨j.blk, j.off + off, esz, (old ++ new).length, j.size, none⟩) (o := .cells (old ++ new) esz (fz - off) false) hid hbase (by have := S.sane _ _ hj; rw [setCells_size]; exact this)
    ⟨rfl, rfl, _, T, fr, ⟨hnewarr, by simp; omega, fun k hk => C.thaw k (by simp at hk; omega), by rw [hlen2, Nat.add_mul]; simp; omega, fun k v hk => by
      obtain ⟨h2, x, h3, h4⟩ := hcells k v hk
      exact ⟨h2, x, h3, h4.mono (.refl M) (β.le_set _ hid)⟩, by rw [hlen2, Nat.add_mul]; omega, fun he k x hk hx => by rw [hlen2, Nat.add_mul] at he; omega, fun x c hx hxb => by have := C.free x c hx hxb; simp only; omega⟩⟩
    (fun b' o' i' hb' hi' hown => hno b' o' i' hb' hi' hown)
  refine ⟨β.set id ⟨j.blk, j.off + off, esz, (old ++ new).length, j.size, none⟩, _, hst, β.le_set _ hid, fun x hx => Places.set_ne _ _ hx, Places.set_eq _ _ _, ?_⟩
  rw [Abs.get_set, Abs.get_put]
  exact S3

theorem f_append (G : Globs gl M) (E : EnvRel M β N e a) (S : Sim M β hp.get w0 w) (hg : ∀ b o, g b = some o → hp.get b = some o) (hid : β id = none) {c : Call} {t u el : TypeId} {x y : Operand} (ho : o.op = .call c) (hcal : c.callee = .builtin .append) (hargs : c.args.toList = [x, y]) (hts : c.argTypes.toList = [t, u])
    (hd : P.underlying t = some (.slice el)) (hu : (∃ e', P.underlying u = some (.slice e')) ∨ P.underlying u = some .string) {n bytes : Nat} {z : V} (hn : tSize P el = some n) (hbt : tBytes P el = some bytes) (hz : tZero P el = some z) (hzl : z.cells.length = n) {x' y' : X}
    (hx : cX gl x = some x') (hy : cX gl y = some y') (hev : evI g id e (.append n bytes x' y') = some eff) : Follows P M β w0 w (execOp a.eval o) hp id eff := by
  have hr := cX_rel G E hx
  have hq := cX_rel G E hy
  obtain ⟨callee, args, argTypes⟩ := c
  simp only at hcal hargs hts
  subst hcal
  have ha : args = #[x, y] := Array.toList_inj.1 (by simpa using hargs)
  have ht : argTypes = #[t, u] := Array.toList_inj.1 (by simpa using hts)
  subst ha ht
  obtain ⟨i, zc, hi, hsz, hby, hzero, hzrel⟩ := tInfo hn hbt hz
  -- the operation's run, out of append's
  have top : ∀ (v : Value) (w' : World), (Builtin.append_ #[t, u] o.type #[a.eval x, a.eval y]).run P w = .ok v w' → (execOp a.eval o).run P w = .ok (.value v) w' := fun v w' h => by
    simp only [execOp, ho, Go.resolve, invoke, builtin, Sem.run_bind, Sem.run_pure, Result.andThen_ok]
    simp [h]
  simp only [evI, evAppend] at hev
  split at hev
  · cases hev
  rename_i hns
  split at hev
  · rename_i ls m hls hm
    split at hev
    · rename_i old new hold hnew
      obtain ⟨lo, hlo, hlor, hlo1, hlol⟩ := firstCells_run (P := P) S hg hr hold
      obtain ⟨ln, hln, hlnr, hln1, hlnl⟩ := firstCells_run (P := P) S hg hq hnew
      have hlen : ∀ w : World, (Builtin.lenOf (a.eval y)).run P w = .ok m w := lenOf_run hq hm
      -- the first operand is a slice
      have slice0 : ∀ {A : Option Addr} {c : Nat}, a.eval x = .slice A ls c → ls ≤ c → (m = 0 → Follows P M β w0 w (execOp a.eval o) hp id { val := x'.val e }) := by
        intro A c he hle hm0
        subst hm0
        have hln0 : ln = [] := List.length_eq_zero_iff.1 (by rw [hlnr.length, hlnl]; simp)
        subst hln0
        have hfit := run_append_fit (P := P) (ty := o.type) hd hu hi (A := A) (sLen := ls) (sCap := c) hlen (new := []) (by rw [hsz]; exact hln w rfl) (by omega) (w' := w) (by cases A <;> simp [Go.storeCells])
        refine Follows.same S (c := .slice A ls c) (top _ _ (by rw [he]; simpa using hfit)) ?_
        rw [← he]; exact hr
      have fresh : ∀ {A : Option Addr} {c : Nat} (fz : Nat), a.eval x = .slice A ls c → fz ≤ ls * n → (ls + m) * (bytes + 1) ≤ roomy → 0 < n → c < ls + m → 0 < m →
          ∃ β' w' q sz, (execOp a.eval o).run P w = .ok (.value (.slice (some ⟨w.heap.size, 0, none⟩) (ls + m) q)) w' ∧ ls + m ≤ q ∧ β.le β' ∧ (∀ x, x ≠ id → β' x = β x) ∧
            β' id = some ⟨w.heap.size, 0, n, (old ++ new).length, sz, none⟩ ∧ q * n ≤ sz ∧ Sim M β' (hp.set id (.cells (old ++ new) n fz false)).get w0 w' := by
        intro A c fz he hfz hroom hpos hc hm0
        obtain ⟨β', w', q, sz, h1, h2, h3, h4, h5, h6, h7⟩ := append_grows (ty := o.type) (A := A) S hid hd hu hn hbt hz hzl hlen (by rw [← he]; exact hlo w.drew rfl) (hln w.drew rfl) hlor hlnr hlo1 hln1 hlol hlnl hroom hpos hc fz hfz hm0
        exact ⟨β', w', q, sz, top _ _ (by rw [he]; exact h1), h2, h3, h4, h5, h6, h7⟩
      have newSlice : ∀ {β' : Places} {q sz : Nat}, ls + m ≤ q → β' id = some ⟨w.heap.size, 0, n, (old ++ new).length, sz, none⟩ → q * n ≤ sz → Rel M β' (.slice id 0 (ls + m) none) (.slice (some ⟨w.heap.size, 0, none⟩) (ls + m) q) := by
        intro β' q sz hq' hb' hs'
        simp only [Rel]
        refine ⟨_, q, hb', hq', (fun _ h => by cases h), fun _ => ?_, by simpa using hs', _, rfl, fun _ => rfl⟩
        simp only [List.length_append, hlol, hlnl, ← Nat.add_mul]
        have := Nat.mul_le_mul_right n hq'
        omega
      split at hev
      · rename_i hm0
        cases hev
        -- nothing is appended
        cases hxv : x'.val e <;> rw [hxv] at hr hls <;> simp [vlen] at hls
        · -- a text is no slice
          rw [hxv] at hns; exact absurd rfl hns
        · have hr' := hr
          simp only [Rel] at hr'
          have := slice0 (A := none) (c := 0) (by rw [hr', hls]) (by omega) hm0
          rw [hxv] at this; exact this
        · have hr' := hr
          simp only [Rel] at hr'
          obtain ⟨_, c, _, hle, _, _, _, A, he, _⟩ := hr'
          have := slice0 (A := some A) (c := c) (by rw [he, hls]) (by omega) hm0
          rw [hxv] at this; exact this
        · have hr' := hr
          simp only [Rel] at hr'
          obtain ⟨_, _, c, _, hle, _, A, he, _⟩ := hr'
          have := slice0 (A := some A) (c := c) (by rw [he, hls]) (by omega) hm0
          rw [hxv] at this; exact this
      · rename_i hm0
        split at hev
        · rename_i hroom
          obtain ⟨hroom, hpos⟩ := hroom
          split at hev
          · -- nil
            rename_i hxv
            cases hev
            rw [hxv] at hr hls; simp only [Rel] at hr
            simp [vlen] at hls; subst hls
            obtain ⟨β', w', q, sz, h1, h2, h3, h4, h5, h6, h7⟩ := fresh (A := none) (c := 0) 0 hr (Nat.zero_le _) hroom hpos (by omega) (by omega)
            exact ⟨β', w', _, .inl h1, h3, h4, h7, newSlice h2 h5 h6⟩
          · -- an input of a known capacity
            rename_i row off len c hxv
            split at hev
            · cases hev
            · rename_i hlc
              cases hev
              rw [hxv] at hr hls; simp only [Rel] at hr
              simp [vlen] at hls; subst hls
              obtain ⟨_, _, c', _, hle, hcap, A, he, _⟩ := hr
              have := hcap c rfl; subst this
              obtain ⟨β', w', q, sz, h1, h2, h3, h4, h5, h6, h7⟩ := fresh (A := some A) (c := c) 0 he (Nat.zero_le _) hroom hpos (by omega) (by omega)
              exact ⟨β', w', _, .inl h1, h3, h4, h7, newSlice h2 h5 h6⟩
          · -- a row of one's own
            rename_i b off len cap hxv
            rw [hxv] at hr hls hold
            have hr0 := hr
            simp only [Rel] at hr
            simp [vlen] at hls; subst hls
            obtain ⟨j, c, hj, hle, hcap, hext, hsize, A, he, hA⟩ := hr
            split at hev
            · rename_i cs es fz spent hb
              have hb' := hg _ _ hb
              have hes : es = n := by
                simp only [Abs.firstCells, hb] at hold
                split at hold
                · split at hold
                  · assumption
                  · cases hold
                · cases hold
              subst hes
              have hold' : cellsAt cs off (len * es) = some old := by
                simp only [Abs.firstCells, hb] at hold
                simpa using hold
              split at hev
              · cases hev
              · rename_i hsp
                have hsp : spent = false := by simpa using hsp
                subst hsp
                obtain ⟨j', hj', hbase, hesz, hext', arr, T, fr, C⟩ := S.obj _ _ hb'
                rw [hj] at hj'; cases hj'
                -- in place
                have place : ∀ cap', off + (len + m) * es ≤ cs.length → fz ≤ off + len * es → len + m ≤ c → (∀ k, cap' = some k → k = c) → (cap' = none → cap = none) →
                    Follows P M β w0 w (execOp a.eval o) hp id { upd := some (b, some (.cells (putAt cs (off + len * es) new) es fz false)), val := .slice b off (len + m) cap' } := by
                  intro cap' hfit hfz hlc hc1 hc2
                  have hA' := hA (by omega)
                  subst hA'
                  rw [Nat.add_mul] at hfit
                  obtain ⟨i2, hi2, _, hst, S'⟩ := S.storeCells (P := P) hb' hlnr hln1 hfz (by omega)
                  rw [hj] at hi2; cases hi2
                  have hfitr := run_append_fit (P := P) (ty := o.type) hd hu hi (A := some ⟨j.blk, j.off + off, none⟩) (sLen := len) (sCap := c) hlen (new := ln) (by rw [hsz]; exact hln w rfl) hlc (w' := w.setCells j.blk (j.off + (off + len * es)) ln) (by
                    simp only [add_none, hsz]
                    rw [Nat.add_assoc]
                    exact hst)
                  refine ⟨β, _, _, .inl (top _ _ (by rw [he]; exact hfitr)), .refl β, fun _ _ => rfl, S', ?_⟩
                  simp only [Rel]
                  exact ⟨j, c, hj, hlc, hc1, fun h => hext (hc2 h), hsize, _, rfl, fun _ => rfl⟩
                split at hev
                · -- the capacity is known
                  rename_i c0
                  have := hcap c0 rfl; subst this
                  split at hev
                  · rename_i hlc
                    split at hev
                    · rename_i hcond
                      cases hev
                      exact place (some c0) hcond.2 hcond.1 hlc (fun k hk => by cases hk; rfl) (fun h => by cases h)
                    · cases hev
                  · rename_i hlc
                    cases hev
                    obtain ⟨β', w', q, sz, h1, h2, h3, h4, h5, h6, h7⟩ := fresh (A := some A) (c := c0) 0 he (Nat.zero_le _) hroom hpos (by omega) (by omega)
                    exact ⟨β', w', _, .inl h1, h3, h4, h7, newSlice h2 h5 h6⟩
                · split at hev
                  · -- the row is the last of its block
                    rename_i htight
                    cases hev
                    have hfzle := C.fzle
                    by_cases hlc : len + m ≤ c
                    · have hA' := hA (by omega)
                      subst hA'
                      have hold2 : old = (cs.drop off).take (len * es) := by
                        unfold cellsAt at hold'
                        split at hold'
                        · exact (Option.some.inj hold').symm
                        · cases hold'
                      obtain ⟨β', w', hst, h3, h4, h5, h7⟩ := append_behind (P := P) (off := off) S hid hb' hj hsize hold2 htight hlnr hln1 hlnl hlc (by omega) hpos
                      have hfitr := run_append_fit (P := P) (ty := o.type) hd hu hi (A := some ⟨j.blk, j.off + off, none⟩) (sLen := len) (sCap := c) hlen (new := ln) (by rw [hsz]; exact hln w rfl) hlc (w' := w') (by
                        simp only [add_none, hsz]
                        exact hst)
                      refine ⟨β', w', _, .inl (top _ _ (by rw [he]; exact hfitr)), h3, h4, h7, ?_⟩
                      simp only [Rel]
                      refine ⟨_, c, h5, hlc, (fun _ h => by cases h), fun _ => ?_, by simp only; rw [hesz]; omega, _, rfl, fun _ => rfl⟩
                      simp only [List.length_append, hlol, hlnl, ← Nat.add_mul]
                      have := Nat.mul_le_mul_right es hlc
                      omega
                    · obtain ⟨β', w', q, sz, h1, h2, h3, h4, h5, h6, h7⟩ := fresh (A := some A) (c := c) (fz - off) he (by omega) hroom hpos (by omega) (by omega)
                      refine ⟨β', w', _, .inl h1, h3, h4, ?_, newSlice h2 h5 h6⟩
                      -- the elder object goes, or is kept for good
                      have hne : b ≠ id := fun e => by rw [e, hid] at hj; cases hj
                      have hb2 : (hp.set id (AObj.cells (old ++ new) es (fz - off) false)).get b = some (.cells cs es fz false) := by
                        rw [Abs.get_set, upd_ne _ _ hne]; exact hb'
                      have hfun : (Eff.heap { upd := some (b, if fz = cs.length then some (.cells cs es fz true) else none), new := some (.cells (old ++ new) es (fz - off) false), val := .slice id 0 (len + m) none } id hp).get =
                          upd (hp.set id (AObj.cells (old ++ new) es (fz - off) false)).get b (if fz = cs.length then some (.cells cs es fz true) else none) := by
                        simp only [Eff.heap]
                        rw [Abs.get_set, Abs.get_set, Abs.get_put]
                        funext y
                        by_cases hy : y = id
                        · subst hy; rw [upd_eq, upd_ne _ _ (Ne.symm hne), upd_eq]
                        · rw [upd_ne _ _ hy]
                          by_cases hyb : y = b
                          · subst hyb; rw [upd_eq, upd_eq]
                          · rw [upd_ne _ _ hyb, upd_ne _ _ hyb, upd_ne _ _ hy]
                      rw [hfun]
                      by_cases hf : fz = cs.length
                      · rw [if_pos hf]
                        have hu2 : upd (hp.set id (AObj.cells (old ++ new) es (fz - off) false)).get b (some (.cells cs es fz true)) = upd (upd (hp.set id (AObj.cells (old ++ new) es (fz - off) false)).get b none) b (some (.cells cs es fz true)) := by
                          funext y
                          by_cases hyb : y = b
                          · subst hyb; rw [upd_eq, upd_eq]
                          · rw [upd_ne _ _ hyb, upd_ne _ _ hyb, upd_ne _ _ hyb]
                        rw [hu2]
                        obtain ⟨pl, hpl, hbase2, h8, h9, arr2, T2, fr2, C2⟩ := h7.obj _ _ hb2
                        refine (h7.drop b).put hpl hbase2 ⟨h8, h9, fun k v hk => ?_⟩ (fun h => by cases h)
                        obtain ⟨h10, x, h11, h12⟩ := C2.rel k v hk
                        have hlt : k < cs.length := by
                          rcases Nat.lt_or_ge k cs.length with h | h
                          · exact h
                          · rw [List.getElem?_eq_none h] at hk; cases hk
                        exact ⟨h10, x, C2.ice hf k x hlt h11, h12⟩
                      · rw [if_neg hf]; exact h7.drop b
                  · rename_i htight
                    split at hev
                    · rename_i hfz
                      split at hev
                      · rename_i hfit
                        cases hev
                        refine place none hfit hfz ?_ (fun _ h => by cases h) (fun h => h)
                        have := hext rfl
                        rw [← hext', ← hesz] at this
                        have h5 : (len + m) * es ≤ c * es := by omega
                        exact Nat.le_of_mul_le_mul_right h5 hpos
                      · cases hev
                    · cases hev
            · cases hev
          · cases hev
        · cases hev
    · cases hev
  · cases hev

end
end Go.Abs
