/-
  ABS, part 19: make, texts and bytes, delete, iterators.
-/
import Derived.Test.YtfmdgjnjfmgbmaaGreatDoorAbs18
namespace Go.Abs
open Go Go.RowKit
set_option linter.unusedSectionVars false
variable [Syms]

section
variable {P : Program} {M : Mem} {β : Places} {w0 w : World} {hp : Heap} {id N : Nat} {e : Env} {a : Act} {gl : Nat → Option (List V)} {g : View} {o : Oper} {i : I} {eff : Eff}

theorem wrap_small {m : Int} (h0 : 0 ≤ m) (h : m ≤ 1099511627776) : IntKind.i64.wrap m = m := by
  have e1 : (2 : Int) ^ 64 = 18446744073709551616 := by decide
  have e2 : (2 : Int) ^ (64 - 1) = 9223372036854775808 := by decide
  simp only [IntKind.wrap, IntKind.bits, IntKind.signed, Bool.true_and, e1, e2]
  split
  · rename_i h'
    have h' := of_decide_eq_true h'
    omega
  · omega

theorem f_mkSlice (G : Globs gl M) (E : EnvRel M β N e a) (S : Sim M β hp.get w0 w) (hid : β id = none) {t : TypeId} {x y : Operand} (ho : o.op = .makeSlice t x y) (hc : cOp P gl (.makeSlice t x y) = some i) (hev : evI g id e i = some eff) :
    Follows P M β w0 w (execOp a.eval o) hp id eff := by
  simp only [cOp] at hc
  split at hc
  · rename_i el hd
    simp only [Option.bind_eq_some_iff] at hc
    obtain ⟨n, hn, bytes, hb, z, hz, x', hx, y', hy, hc⟩ := hc
    split at hc
    · rename_i hcond
      obtain ⟨hpos, hzl, hone⟩ := hcond
      cases hc
      obtain ⟨ti, zc, hi, hsz, hby, hzero, hzrel⟩ := tInfo hn hb hz
      have hr := cX_rel G E hx
      have hq := cX_rel G E hy
      simp only [evI] at hev
      split at hev
      · rename_i k l k' c hv1 hv2
        split at hev
        · rename_i hcond
          obtain ⟨h0, hlc, hroom, _⟩ := hcond
          cases hev
          rw [hv1] at hr; rw [hv2] at hq; simp only [Rel] at hr hq
          have hr1 : (roomy : Int) = 1099511627776 := by decide
          rw [hr1] at hroom
          have hc0 : 0 ≤ c := by omega
          have hcle : c ≤ 1099511627776 := by
            have : c * 1 ≤ c * ((bytes : Int) + 1) := Int.mul_le_mul_of_nonneg_left (by omega) hc0
            omega
          have hbc : (bytes : Int) * c ≤ 1099511627776 := by
            have : c * (bytes : Int) ≤ c * ((bytes : Int) + 1) := Int.mul_le_mul_of_nonneg_left (by omega) hc0
            rw [Int.mul_comm]; omega
          have hwl := wrap_small h0 (by omega)
          have hwc := wrap_small hc0 hcle
          have hzs : zc.cells.size = n := by have := (hzrel M β).cells.length; rw [hzl] at this; simpa using this
          have hzz := zeros_toList c.toNat n zc.cells hzs hpos
          obtain ⟨β', hbp, hle, hx', S'⟩ := made (rest := []) S hid ((hzrel M β).cells.replicate c.toNat) (fun v hv => by
            obtain ⟨l, hl, hvl⟩ := List.mem_flatten.1 hv
            rw [(List.mem_replicate.1 hl).2] at hvl
            exact all_one hone v hvl) n el
          refine ⟨β', _, .slice (some ⟨w.heap.size, 0, none⟩) l.toNat c.toNat, .inl ?_, hle, hx', S', ?_⟩
          · have ht1 : (decide (c < 0) || decide ((bytes : Int) * c > 2 ^ 48)) = false := by
              simp only [Bool.or_eq_false_iff, decide_eq_false_iff_not]
              exact ⟨by omega, by omega⟩
            have hcnd : ((decide (c < 0) || decide ((ti.bytes : Int) * c > 2 ^ 48)) || decide (l < 0) || decide (l > c)) = false := by
              rw [hby, ht1]
              simp only [Bool.false_or, Bool.or_eq_false_iff, decide_eq_false_iff_not]
              exact ⟨by omega, by omega⟩
            have harr : ∀ q : Array Value, (c.toNat * n = 0 → q = #[]) → (c.toNat * n ≠ 0 → q = zc.cells) → ((Array.range (c.toNat * n)).map fun k => q[k % q.size]!) = ((List.replicate c.toNat zc.cells.toList).flatten ++ []).toArray := by
              intro q q1 q2
              by_cases hq0 : c.toNat * n = 0
              · have hz0 : c.toNat = 0 := by
                  rcases Nat.mul_eq_zero.1 hq0 with h | h
                  · exact h
                  · omega
                rw [hq0, hz0]; simp
              · rw [q2 hq0]
                apply Array.ext'
                rw [hzz]; simp
            simp only [execOp, ho, Instr.makeSlice, Sem.run_bind, run_underlying hd, Result.andThen_ok, asInt, asIntOf, hr, hq, Sem.run_pure, typeInfo, run_program, hi, hwl, hwc, hcnd, Bool.false_eq_true, if_false, run_askRoom, sizeOf, hsz, Sem.run_ite, zeroValue, hzero]
            by_cases hq0 : c.toNat * n = 0
            · simp only [hq0, if_true]
              have := harr #[] (fun _ => rfl) (fun h => absurd hq0 h)
              rw [hq0] at this
              rw [this]
              simp [newRow]
            · simp only [hq0, if_false]
              rw [harr zc.cells (fun h => absurd h hq0) (fun _ => rfl)]
              simp [newRow]
          · simp only [Rel]
            have hlen : (List.replicate c.toNat z.cells).flatten.length = c.toNat * n := by
              have : ∀ m, (List.replicate m z.cells).flatten.length = m * n := by
                intro m
                induction m with
                | zero => simp
                | succ m ih => rw [List.replicate_succ, List.flatten_cons, List.length_append, ih, hzl, Nat.succ_mul]; omega
              exact this _
            refine ⟨_, c.toNat, hbp, by omega, (fun k hk => by cases hk; rfl), (fun h => by cases h), ?_, _, rfl, fun _ => rfl⟩
            have e1 := ((hzrel M β).cells.replicate c.toNat).length
            simp only [e1, hlen]
            simp
        · cases hev
      · cases hev
    · cases hc
  · cases hc

theorem get!_bytesOf (bs : ByteArray) (j : Nat) : (bs.get! j).toNat = (bytesOf bs).getD j 0 := by
  obtain ⟨⟨l⟩⟩ := bs
  show ((⟨l⟩ : Array UInt8).get!Internal j).toNat = _
  simp only [bytesOf, Array.get!Internal, Array.getD, List.getD]
  by_cases h : j < l.length
  · simp [h]
  · simp [h]
    rfl

theorem decodeAt_eq (bs : ByteArray) (i : Nat) : decodeAt (bytesOf bs) i = Utf8.decode bs i := by
  simp only [decodeAt, Utf8.decode, get!_bytesOf, bytesOf_length]

theorem f_rangeS (G : Globs gl M) (E : EnvRel M β N e a) (S : Sim M β hp.get w0 w) (hid : β id = none) {t : TypeId} {x : Operand} (ho : o.op = .range t x) (hd : P.underlying t = some .string) {x' : X} (hx : cX gl x = some x') (hev : evI g id e (.rangeS x') = some eff) :
    Follows P M β w0 w (execOp a.eval o) hp id eff := by
  have hr := cX_rel G E hx
  simp only [evI] at hev
  split at hev
  · rename_i s hv
    cases hev
    rw [hv] at hr; simp only [Rel] at hr
    obtain ⟨bs, he, hb⟩ := hr
    have hb' : Wild s (bytesOf bs) := by rw [hb]; exact Wild.refl _
    obtain ⟨β', hbp, hle, hx', S'⟩ := made_obj (ob := .stringIter bs 0) (o := .strIter s 0) S hid (fun β' _ => ⟨⟨bs, heap_new _ _, hb'⟩, S.noObj, rfl⟩)
    refine ⟨β', _, .pointer (some ⟨w.heap.size, 0, none⟩), .inl ?_, hle, hx', S', by simp only [Rel]; exact ⟨_, hbp, rfl⟩⟩
    simp [execOp, ho, Instr.range, run_underlying hd, he]
  · rename_i s hv
    cases hev
    rw [hv] at hr; simp only [Rel] at hr
    obtain ⟨bs, he, hb⟩ := hr
    obtain ⟨β', hbp, hle, hx', S'⟩ := made_obj (ob := .stringIter bs 0) (o := .strIter s 0) S hid (fun β' _ => ⟨⟨bs, heap_new _ _, hb⟩, S.noObj, rfl⟩)
    refine ⟨β', _, .pointer (some ⟨w.heap.size, 0, none⟩), .inl ?_, hle, hx', S', by simp only [Rel]; exact ⟨_, hbp, rfl⟩⟩
    simp [execOp, ho, Instr.range, run_underlying hd, he]
  · cases hev

theorem f_nextS (G : Globs gl M) (E : EnvRel M β N e a) (S : Sim M β hp.get w0 w) (hg : ∀ b o, g b = some o → hp.get b = some o) {x : Operand} (ho : o.op = .next x true) {x' : X} (hx : cX gl x = some x') (hev : evI g id e (.nextS x') = some eff) :
    Follows P M β w0 w (execOp a.eval o) hp id eff := by
  have hr := cX_rel G E hx
  simp only [evI] at hev
  split at hev
  · rename_i b hv
    rw [hv] at hr; simp only [Rel] at hr
    obtain ⟨j, hj, he⟩ := hr
    split at hev
    · rename_i s pos hb
      obtain ⟨j', hj', hbase, ⟨bs, hw, hbs⟩, hM, hoff⟩ := S.obj _ _ (hg _ _ hb)
      rw [hj] at hj'; cases hj'
      have hgo := run_getObj (P := P) hw (fun _ _ _ h => by cases h)
      have hlen := hbs.length
      rw [bytesOf_length] at hlen
      rw [hoff] at he
      simp only [Nat.zero_add] at he
      split at hev
      · rename_i hlt
        have hlt' : pos < bs.size := by omega
        have hgt := Wild.get pos hbs hlt
        have go : ∀ (n : Nat) (r : Int) (v : V), Utf8.decode bs pos = ((r.toNat : Nat), n) → 0 ≤ r → Rel M β v (.int .i32 r) →
            Follows P M β w0 w (execOp a.eval o) hp id { upd := some (b, some (.strIter s (pos + n))), val := .tuple [.bool true, .int .i64 pos, v] } := by
          intro n r v hdec h0 hrel
          have hso := run_setObj (P := P) (ob' := .stringIter bs (pos + n)) hw (fun _ _ _ h => by cases h)
          have S' := S.objSet hj hbase hw (fun _ _ _ h => by cases h) hM (hg _ _ hb) rfl (ob' := .stringIter bs (pos + n)) (o' := .strIter s (pos + n))
            ⟨⟨bs, objSet_get hw, hbs⟩, hM, hoff⟩
          refine ⟨β, _, .tuple #[.bool true, .int .i64 pos, .int .i32 r], .inl ?_, .refl β, fun _ _ => rfl, S', ?_⟩
          · simp [execOp, ho, he, Instr.next, hgo, hlt', hso, goInt, hdec, Int.toNat_of_nonneg h0]
          · simp only [Rel, RelL]
            exact ⟨_, rfl, _, _, rfl, rfl, _, _, rfl, rfl, _, _, rfl, hrel, rfl⟩
        split at hev
        · rename_i h128
          cases hev
          have e : s.getD pos 0 = (bytesOf bs).getD pos 0 := by rcases hgt with h | h <;> omega
          refine go 1 ((s.getD pos 0 : Nat) : Int) _ ?_ (by omega) (by simp only [Rel])
          rw [← decodeAt_eq]
          simp only [decodeAt, Nat.add_zero, ← e]
          rw [if_pos (by omega)]
          simp
        · split at hev
          · rename_i h256
            cases hev
            have e : 48 ≤ (bytesOf bs).getD pos 0 ∧ (bytesOf bs).getD pos 0 ≤ 57 := by
              rcases hgt with h | h
              · have hb8 : (bytesOf bs).getD pos 0 < 256 := by
                  rw [List.getD_eq_getElem?_getD]
                  simp only [bytesOf, List.getElem?_map]
                  cases hq : bs.data.toList[pos]? with
                  | none => simp
                  | some u => simp; exact u.toNat_lt
                omega
              · exact h.2
            refine go 1 (((bytesOf bs).getD pos 0 : Nat) : Int) _ ?_ (by omega) (by simp only [Rel]; exact ⟨_, rfl, by show (48 : Int) ≤ _; omega, by show _ ≤ (57 : Int); omega⟩)
            rw [← decodeAt_eq]
            simp only [decodeAt, Nat.add_zero]
            rw [if_pos (by omega)]
            simp
          · split at hev
            · rename_i hall
              cases hev
              have e := hbs.eq_of_plain hall
              refine go (decodeAt s pos).2 (((decodeAt s pos).1 : Nat) : Int) _ ?_ (by omega) (by simp only [Rel])
              rw [← decodeAt_eq, e]
              simp
            · cases hev
      · rename_i hlt
        cases hev
        have hlt' : ¬ pos < bs.size := by omega
        refine Follows.same S (c := .tuple #[.bool false]) ?_ (by simp only [Rel, RelL]; exact ⟨_, rfl, _, _, rfl, rfl, rfl⟩)
        simp [execOp, ho, he, Instr.next, hgo, hlt']
    · cases hev
  · cases hev

theorem f_rangeM (G : Globs gl M) (E : EnvRel M β N e a) (S : Sim M β hp.get w0 w) (hg : ∀ b o, g b = some o → hp.get b = some o) (hid : β id = none) {t kt el : TypeId} {x : Operand} (ho : o.op = .range t x) (hd : P.underlying t = some (.map kt el)) {x' : X} (hx : cX gl x = some x') (hev : evI g id e (.rangeM x') = some eff) :
    Follows P M β w0 w (execOp a.eval o) hp id eff := by
  have hr := cX_rel G E hx
  simp only [evI] at hev
  split at hev
  · rename_i hv
    cases hev
    rw [hv] at hr; simp only [Rel] at hr
    obtain ⟨β', hbp, hle, hx', S'⟩ := made_obj (ob := .mapIter none 0 #[] 0) (o := .mapIter none 0 [] 0) S hid (fun β' _ => ⟨⟨none, heap_new _ _, rfl⟩, S.noObj, rfl⟩)
    refine ⟨β', _, .pointer (some ⟨w.heap.size, 0, none⟩), .inl ?_, hle, hx', S', by simp only [Rel]; exact ⟨_, hbp, rfl⟩⟩
    simp [execOp, ho, Instr.range, run_underlying hd, hr]
  · rename_i b hv
    split at hev
    · rename_i es clock fzn hb
      cases hev
      rw [hv] at hr; simp only [Rel] at hr
      obtain ⟨j, hj, he⟩ := hr
      obtain ⟨j', hj', _, ces, hw, _⟩ := S.obj _ _ (hg _ _ hb)
      rw [hj] at hj'; cases hj'
      have hgo := run_getObj (P := P) hw (fun _ _ _ h => by cases h)
      obtain ⟨β', hbp, hle, hx', S'⟩ := made_obj (ob := .mapIter (some j.blk) clock #[] clock) (o := .mapIter (some b) clock [] clock) S hid (fun β' hb' => ⟨⟨some j.blk, heap_new _ _, j, hb' _ _ hj, rfl⟩, S.noObj, rfl⟩)
      refine ⟨β', _, .pointer (some ⟨w.heap.size, 0, none⟩), .inl ?_, hle, hx', S', by simp only [Rel]; exact ⟨_, hbp, rfl⟩⟩
      simp [execOp, ho, Instr.range, run_underlying hd, he, hgo]
    · cases hev
  · rename_i ks vs hv
    cases hev
    rw [hv] at hr; simp only [Rel] at hr
    obtain ⟨r, es, clock, he, hMo, hks, hvs, hborn, hnd⟩ := hr
    have hgo := run_getObj (P := P) (S.memo _ _ hMo) (fun _ _ _ h => by cases h)
    obtain ⟨β', hbp, hle, hx', S'⟩ := made_obj (ob := .mapIter (some r) clock #[] clock) (o := .rmapIter ks vs []) S hid (fun β' hb' =>
      ⟨⟨r, es, clock, clock, heap_new _ _, by simp, rfl, hMo, hks.mono (.refl M) hb', hvs.mono (.refl M) hb', hborn, hnd⟩, S.noObj, rfl⟩)
    refine ⟨β', _, .pointer (some ⟨w.heap.size, 0, none⟩), .inl ?_, hle, hx', S', by simp only [Rel]; exact ⟨_, hbp, rfl⟩⟩
    simp [execOp, ho, Instr.range, run_underlying hd, he, hgo]
  · cases hev

theorem f_delete (G : Globs gl M) (E : EnvRel M β N e a) (S : Sim M β hp.get w0 w) (hg : ∀ b o, g b = some o → hp.get b = some o) {c : Call} {t u kty el : TypeId} {x y : Operand} (ho : o.op = .call c) (hcal : c.callee = .builtin .delete) (hargs : c.args.toList = [x, y]) (hts : c.argTypes.toList = [t, u])
    (hd : P.underlying t = some (.map kty el)) {kt : KT} (hkt : tKT P kty = some kt) {x' y' : X} (hx : cX gl x = some x') (hy : cX gl y = some y') (hev : evI g id e (.delete kt x' y') = some eff) : Follows P M β w0 w (execOp a.eval o) hp id eff := by
  have hr := cX_rel G E hx
  have hq := cX_rel G E hy
  obtain ⟨callee, args, argTypes⟩ := c
  simp only at hcal hargs hts
  subst hcal
  have ha : args = #[x, y] := Array.toList_inj.1 (by simpa using hargs)
  have ht : argTypes = #[t, u] := Array.toList_inj.1 (by simpa using hts)
  subst ha ht
  have top : ∀ (v : Value) (w' : World), (Builtin.delete_ #[t, u] o.type #[a.eval x, a.eval y]).run P w = .ok v w' → (execOp a.eval o).run P w = .ok (.value v) w' := fun v w' h => by
    simp only [execOp, ho, Go.resolve, invoke, builtin, Sem.run_bind, Sem.run_pure, Result.andThen_ok]
    simp [h]
  simp only [evI] at hev
  split at hev
  · rename_i hv
    split at hev
    · rename_i hfit
      cases hev
      rw [hv] at hr; simp only [Rel] at hr
      have hck := checkKey_run hkt hfit hq true w
      refine Follows.same S (c := .tuple #[]) (top _ _ ?_) (by simp only [Rel, RelL]; exact ⟨_, rfl, rfl⟩)
      simp [Builtin.delete_, run_underlying hd, hr, hck]
    · cases hev
  · rename_i b hv
    rw [hv] at hr; simp only [Rel] at hr
    obtain ⟨j, hj, he⟩ := hr
    split at hev
    · rename_i es clock hb
      split at hev
      · rename_i hcond
        simp only [Bool.and_eq_true, List.all_eq_true] at hcond
        obtain ⟨hfit, hall⟩ := hcond
        obtain ⟨j', hj', hbase, ces, hw, hent, hborn, hnd, _, hM⟩ := S.obj _ _ (hg _ _ hb)
        rw [hj] at hj'; cases hj'
        obtain ⟨r2, h2, h3⟩ := findKey_run hkt hfit hq w hent (fun x hx => hall x hx)
        have hck := checkKey_run hkt hfit hq ces.isEmpty w
        have hgo := run_getObj (P := P) hw (fun _ _ _ h => by cases h)
        have htup : Rel M β (.tuple []) (.tuple #[]) := by simp only [Rel, RelL]; exact ⟨_, rfl, rfl⟩
        cases hfe : findE (y'.val e).cells es 0 with
        | none =>
          rw [hfe] at hev h3
          cases hev
          have h3' : r2 = none := h3
          subst h3'
          have hso := run_setObj (P := P) (ob' := .map ces clock) hw (fun _ _ _ h => by cases h)
          have S' := S.objSet hj hbase hw (fun _ _ _ h => by cases h) (hM rfl) (hg _ _ hb) rfl (ob' := .map ces clock) (o' := .map es clock false)
            ⟨_, objSet_get hw, hent, hborn, hnd, (fun h => by cases h), fun _ => hM rfl⟩
          refine ⟨β, _, .tuple #[], .inl (top _ _ ?_), .refl β, fun _ _ => rfl, S', htup⟩
          simp [Builtin.delete_, run_underlying hd, he, hgo, hck, h2, hso]
        | some q =>
          obtain ⟨ix, v⟩ := q
          rw [hfe] at hev h3
          cases hev
          obtain ⟨c, h3', hcr⟩ := h3
          subst h3'
          have hso := run_setObj (P := P) (ob' := .map (ces.eraseIdxIfInBounds ix) clock) hw (fun _ _ _ h => by cases h)
          have herase : (ces.eraseIdxIfInBounds ix).toList = ces.toList.eraseIdx ix := by
            rw [Array.eraseIdxIfInBounds]
            split
            · simp
            · rename_i h
              rw [List.eraseIdx_of_length_le (by simpa using h)]
          have S' := S.objSet hj hbase hw (fun _ _ _ h => by cases h) (hM rfl) (hg _ _ hb) rfl (ob' := .map (ces.eraseIdxIfInBounds ix) clock) (o' := .map (es.eraseIdx ix) clock false)
            ⟨_, objSet_get hw, by rw [herase]; exact hent.erase ix, fun m hm => by
              rw [herase] at hm
              exact hborn m (List.mem_of_mem_eraseIdx hm), by
              rw [herase]
              exact hnd.sublist ((List.eraseIdx_sublist _ _).map _), (fun h => by cases h), fun _ => hM rfl⟩
          refine ⟨β, _, .tuple #[], .inl (top _ _ ?_), .refl β, fun _ _ => rfl, S', htup⟩
          simp [Builtin.delete_, run_underlying hd, he, hgo, hck, h2, hso]
      · cases hev
    · cases hev
  · cases hev

end
end Go.Abs
