/-
  ABS, part 8: operations on values alone, and those that read, are followed.
-/
import Derived.Test.YtfmdgjnjfmgbmaaGreatDoorAbs7
import Derived.Laws.Strings
namespace Go.Abs
open Go Go.RowKit
set_option linter.unusedSectionVars false
variable [Syms]

section
variable {P : Program} {M : Mem} {β : Places} {w0 w : World} {hp : Heap} {id N : Nat} {e : Env} {a : Act} {gl : Nat → Option (List V)} {g : View} {o : Oper} {i : I} {eff : Eff}

theorem f_move (G : Globs gl M) (E : EnvRel M β N e a) (S : Sim M β hp.get w0 w) {x : Operand} (ho : o.op = .move x ∨ o.op = .assign x) (hc : (cX gl x).map I.mov = some i) (hev : evI g id e i = some eff) :
    Follows P M β w0 w (execOp a.eval o) hp id eff := by
  simp only [Option.map_eq_some_iff] at hc
  obtain ⟨x', hx, rfl⟩ := hc
  simp only [evI, Option.some.injEq] at hev
  subst hev
  refine Follows.same S (c := a.eval x) ?_ (cX_rel G E hx)
  rcases ho with ho | ho <;> simp [execOp, ho]

theorem f_pick (G : Globs gl M) (E : EnvRel M β N e a) (S : Sim M β hp.get w0 w) {c x y : Operand} (ho : o.op = .pick c x y) (hc : cOp P gl (.pick c x y) = some i) (hev : evI g id e i = some eff) :
    Follows P M β w0 w (execOp a.eval o) hp id eff := by
  simp only [cOp, Option.bind_eq_some_iff, Option.map_eq_some_iff] at hc
  obtain ⟨c', hc', x', hx, y', hy, rfl⟩ := hc
  simp only [evI] at hev
  have hr := cX_rel G E hc'
  split at hev
  · rename_i t ht
    cases hev
    rw [ht] at hr
    simp only [Rel] at hr
    refine Follows.same S (c := if t then a.eval x else a.eval y) ?_ ?_
    · simp [execOp, ho, asBool, hr]
    · cases t
      · exact cX_rel G E hy
      · exact cX_rel G E hx
  · cases hev

theorem f_un (G : Globs gl M) (E : EnvRel M β N e a) (S : Sim M β hp.get w0 w) {op : UnOp} {t : TypeId} {x : Operand} (ho : o.op = .unOp op t x) (hc : cOp P gl (.unOp op t x) = some i) (hev : evI g id e i = some eff) :
    Follows P M β w0 w (execOp a.eval o) hp id eff := by
  simp only [cOp, Option.map_eq_some_iff] at hc
  obtain ⟨x', hx, rfl⟩ := hc
  simp only [evI, Option.map_eq_some_iff] at hev
  obtain ⟨v, hv, rfl⟩ := hev
  have hr := cX_rel G E hx
  unfold Abs.unOp at hv
  split at hv
  · rename_i k n hx'
    cases hv; rw [hx'] at hr; simp only [Rel] at hr
    exact Follows.same S (c := .int k (k.wrap (0 - n))) (by simp [execOp, ho, hr, Op.unary, Op.intArith]) (by simp only [Rel])
  · rename_i k n hx'
    cases hv; rw [hx'] at hr; simp only [Rel] at hr
    exact Follows.same S (c := .int k (k.wrap (BitVec.ofInt k.bits (if k.signed then -1 else k.max) ^^^ BitVec.ofInt k.bits n).toNat)) (by simp [execOp, ho, hr, Op.unary, Op.intBits]) (by simp only [Rel])
  · rename_i b hx'
    cases hv; rw [hx'] at hr; simp only [Rel] at hr
    exact Follows.same S (c := .bool !b) (by simp [execOp, ho, hr, Op.unary]) (by simp only [Rel])
  · cases hv

theorem bytesLess_eq : ∀ (x y : List UInt8), Op.bytesLess x y = bytesLess (x.map (·.toNat)) (y.map (·.toNat))
  | _, [] => by simp [Op.bytesLess, bytesLess]
  | [], _ :: _ => by simp [Op.bytesLess, bytesLess]
  | a :: x, b :: y => by
    simp only [Op.bytesLess, bytesLess, List.map_cons, bytesLess_eq x y]
    congr 1
    · rw [Bool.eq_iff_iff]; simp [UInt8.lt_iff_toNat_lt, Nat.blt_eq]
    · congr 1
      rw [Bool.eq_iff_iff]; simp only [beq_iff_eq, Nat.beq_eq]; exact UInt8.toNat_inj.symm

theorem map_toNat_inj {x y : List UInt8} : (x.map (·.toNat) = y.map (·.toNat)) ↔ x = y := by
  constructor
  · intro h
    exact List.map_inj_right (fun a b hab => UInt8.toNat_inj.1 hab) |>.1 h
  · rintro rfl; rfl

theorem bytesOf_beq (s t : ByteArray) : (s.toList == t.toList) = (bytesOf s == bytesOf t) := by
  rw [Bool.eq_iff_iff]
  simp only [beq_iff_eq, ByteArray.toList_eq, bytesOf, map_toNat_inj]

theorem bytesOf_less (s t : ByteArray) : Op.bytesLess s.toList t.toList = bytesLess (bytesOf s) (bytesOf t) := by
  rw [bytesLess_eq, ByteArray.toList_eq, ByteArray.toList_eq]; rfl

theorem bytesOf_length (s : ByteArray) : (bytesOf s).length = s.size := by simp [bytesOf]

theorem bytesOf_append (s t : ByteArray) : bytesOf (s ++ t) = bytesOf s ++ bytesOf t := by
  simp [bytesOf, ByteArray.data_append]

theorem run_strOp {op : BinOp} {x y : List Nat} {r : V} (h : strOp op x y = some r) {s t : ByteArray} (hs : bytesOf s = x) (ht : bytesOf t = y) (w : World) :
    ∃ c, (Op.stringOp op s t).run P w = .ok c w ∧ Rel M β r c := by
  subst hs ht
  cases op <;> simp only [strOp] at h
  case add =>
    split at h
    · rename_i hle
      cases h
      have h1 : ¬ (((s.size + t.size : Nat) : Int) > IntKind.i64.max) := by
        rw [bytesOf_length, bytesOf_length] at hle
        have : IntKind.i64.max = 9223372036854775807 := by decide
        have : roomy = 1099511627776 := by decide
        omega
      exact ⟨.string (s ++ t), by simp only [Op.stringOp, if_neg h1]; rfl, by simp only [Rel]; exact ⟨_, rfl, bytesOf_append _ _⟩⟩
    · cases h
  all_goals first
    | (cases h; done)
    | (cases h; refine ⟨_, rfl, ?_⟩; simp only [Rel, bytesOf_beq, bytesOf_less]; done)

theorem run_intOp {op : BinOp} {k : IntKind} {x y : Int} {r : V} (h : intOp op k x y = some r) (t : TypeId) (w : World) :
    ∃ c, (Go.binOp op t (.int k x) (.int k y)).run P w = .ok c w ∧ Rel M β r c := by
  cases op <;> simp only [intOp] at h
  case quo =>
    split at h
    · cases h
    · rename_i hy
      cases h
      exact ⟨.int k (k.wrap (x.tdiv y)), by simp [binOp_quo, Op.intDiv, hy], by simp only [Rel]⟩
  case rem =>
    split at h
    · cases h
    · rename_i hy
      cases h
      exact ⟨.int k (x.tmod y), by simp [binOp_rem, Op.intDiv, hy], by simp only [Rel]⟩
  all_goals first
    | (cases h; done)
    | (cases h; refine ⟨_, by simp only [Go.binOp, ne_eq, not_true_eq_false, if_false, Op.intArith, Op.intBits, Op.intCmp]; rfl, ?_⟩; simp only [Rel]; done)

theorem run_shiftOp {op : BinOp} {k : IntKind} {x y : Int} {r : V} (h : shiftOp op k x y = some r) (k' : IntKind) (w : World) :
    ∃ c, (Op.shift op k x k' y).run P w = .ok c w ∧ Rel M β r c := by
  unfold shiftOp at h
  split at h
  · cases h
  · rename_i hy
    cases op <;> simp only at h
    case shl => cases h; exact ⟨.int k (k.wrap (x * 2 ^ (min y.toNat k.bits))), by simp [Op.shift, hy], by simp only [Rel]⟩
    case shr => cases h; exact ⟨.int k (x.fdiv (2 ^ (min y.toNat k.bits))), by simp [Op.shift, hy], by simp only [Rel]⟩
    all_goals cases h

theorem wrap_lim {k : IntKind} {n : Int} (h0 : 0 ≤ n) (h1 : n < limOf k) : k.wrap n = n := by
  unfold IntKind.wrap
  cases k <;> simp only [limOf] at h1 <;> simp [IntKind.bits, IntKind.signed] <;> omega

theorem Sx.Means.bnd {x : Sx} {n : Int} (h : x.Means n) : x.bnd.1 ≤ n ∧ n ≤ x.bnd.2 := by
  cases x with
  | num k p lo hi fs => exact ⟨h.2.1, h.2.2.1⟩
  | rem k d p lo hi fs => exact ⟨h.1, h.2.1⟩
  | any k lo hi => exact h

theorem Poly.at_const (n : Int) : (Poly.const n).at = n := by simp [Poly.at, Poly.const]
theorem Poly.at_add (p q : Poly) : (p.add q).at = p.at + q.at := by simp only [Poly.at, Poly.add]; grind
theorem Poly.at_mul {p q r : Poly} (h : p.mul q = some r) : r.at = p.at * q.at := by
  unfold Poly.mul at h
  split at h
  · rename_i hz
    obtain ⟨h1, h2, h3, h4, h5⟩ := hz
    cases h
    simp only [Poly.at]
    grind
  · cases h

theorem Facts.pick {fs gs : List (Poly × Int × Int)} (h : Facts fs) (h' : Facts gs) : Facts (pickF fs gs) := by
  unfold pickF
  split
  · exact h'
  · exact h

theorem tight_ok {fs : List (Poly × Int × Int)} (hf : Facts fs) {p : Poly} {lo hi : Int} (h : lo ≤ p.at ∧ p.at ≤ hi) : (tight fs p lo hi).1 ≤ p.at ∧ p.at ≤ (tight fs p lo hi).2 := by
  unfold tight
  split
  · rename_i f hfi
    have h1 := List.find?_some hfi
    simp only [decide_eq_true_eq] at h1
    have h2 := hf f (List.mem_of_find?_eq_some hfi)
    rw [h1] at h2
    constructor
    · show (if lo ≤ f.2.1 then f.2.1 else lo) ≤ _
      split
      · exact h2.1
      · exact h.1
    · show _ ≤ (if f.2.2 ≤ hi then f.2.2 else hi)
      split
      · exact h2.2
      · exact h.2
  · exact h

theorem mkNum_rel {k : IntKind} {p : Poly} {lo hi n : Int} {fs : List (Poly × Int × Int)} (h : n = p.at ∧ lo ≤ n ∧ n ≤ hi ∧ Facts fs) : Rel M β (mkNum k p lo hi fs) (.int k n) := by
  unfold mkNum
  split
  · rename_i hz
    simp only [Rel]
    rw [h.1]
    simp [Poly.at, hz.1, hz.2.1, hz.2.2]
  · simp only [Rel]
    exact ⟨n, rfl, h⟩

theorem cmpB_ok {op : BinOp} {x y : Int × Int} {b : Bool} {m n : Int} (k : IntKind) (h : cmpB op x y = some b) (hm : x.1 ≤ m ∧ m ≤ x.2) (hn : y.1 ≤ n ∧ n ≤ y.2) : intOp op k m n = some (.bool b) := by
  cases op <;> simp only [cmpB] at h <;> first | (cases h; done) | skip
  all_goals
    simp only [intOp]
    split at h
    · cases h
      congr 2
      first | (simp; omega) | (rw [Bool.eq_iff_iff]; simp; omega)
    · first
      | (cases h; done)
      | (split at h
         · cases h
           congr 2
           first | (simp; omega) | (rw [Bool.eq_iff_iff]; simp; omega)
         · cases h)

theorem symCmp_ok {op : BinOp} {x y : Sx} {b : Bool} {m n : Int} (k : IntKind) (h : symCmp op x y = some b) (hm : x.Means m) (hn : y.Means n) : intOp op k m n = some (.bool b) := by
  unfold symCmp at h
  split at h
  · rename_i ha
    have e : m = n := by
      cases x <;> cases y <;> simp [Sx.alike] at ha
      subst ha
      rw [hm.1, hn.1]
    subst e
    cases op <;> simp only at h <;> first | (cases h; done) | (cases h; simp [intOp]; done)
  · exact cmpB_ok k h hm.bnd hn.bnd

theorem symNum_ok {op : BinOp} {x y : Sx} {r : V} {m n : Int} (h : symNum op x y = some r) (hm : x.Means m) (hn : y.Means n) : ∃ z, intOp op x.kind m n = some (.int x.kind z) ∧ Rel M β r (.int x.kind z) := by
  unfold symNum at h
  split at h
  · rename_i k p lo hi fs k' q lo' hi' gs
    obtain ⟨m1, m2, m3, m4⟩ := hm
    obtain ⟨n1, n2, n3, n4⟩ := hn
    have hfs := m4.pick n4
    split at h
    · unfold fitNum at h
      split at h
      · rename_i hz
        cases h
        have hat : m + n = (p.add q).at := by rw [Poly.at_add, m1, n1]
        have ht := tight_ok hfs (p := p.add q) (lo := lo + lo') (hi := hi + hi') (by omega)
        refine ⟨m + n, ?_, mkNum_rel ⟨hat, by omega, by omega, hfs⟩⟩
        simp only [intOp, Sx.kind]
        rw [wrap_lim (by omega) (by omega)]
      · cases h
    · split at h
      · rename_i hz
        simp only [Option.bind_eq_some_iff] at h
        obtain ⟨s, hs, h⟩ := h
        unfold fitNum at h
        split at h
        · rename_i hf
          cases h
          have h1 : lo * lo' ≤ m * n := Int.mul_le_mul m2 n2 hz.2 (by omega)
          have h2 : m * n ≤ hi * hi' := Int.mul_le_mul m3 n3 (by omega) (by omega)
          have hat : m * n = s.at := by rw [Poly.at_mul hs, m1, n1]
          have ht := tight_ok hfs (p := s) (lo := lo * lo') (hi := hi * hi') (by rw [← hat]; exact ⟨h1, h2⟩)
          rw [← hat] at ht
          refine ⟨m * n, ?_, mkNum_rel ⟨hat, ht.1, ht.2, hfs⟩⟩
          simp only [intOp, Sx.kind]
          rw [wrap_lim (by omega) (by omega)]
        · cases h
      · cases h
    · cases h
  · rename_i k d p lo hi fs k' q lo' hi' gs
    obtain ⟨m1, m2, m3, m4, m5, m6⟩ := hm
    obtain ⟨n1, n2, n3⟩ := hn
    split at h
    · split at h
      · rename_i hz
        cases h
        rw [hz.1, Poly.at_const] at n1
        subst n1
        refine ⟨m.tmod n, ?_, mkNum_rel ⟨m3, by rw [m3]; exact m4, by rw [m3]; exact m5, m6⟩⟩
        simp only [intOp, Sx.kind, if_neg hz.2]
      · cases h
    · cases h
  · cases h

theorem run_symOp {op : BinOp} {x y : Sx} {r : V} {m n : Int} (h : symOp op x y = some r) (hm : x.Means m) (hn : y.Means n) (t : TypeId) (w : World) :
    ∃ c, (Go.binOp op t (.int x.kind m) (.int y.kind n)).run P w = .ok c w ∧ Rel M β r c := by
  unfold symOp at h
  split at h
  · rename_i hk
    rw [← hk]
    split at h
    · rename_i b hb
      cases h
      exact run_intOp (P := P) (symCmp_ok x.kind hb hm hn) t w
    · obtain ⟨z, h1, h2⟩ := symNum_ok (M := M) (β := β) h hm hn
      obtain ⟨c, h3, h4⟩ := run_intOp (P := P) (M := M) (β := β) h1 t w
      simp only [Rel] at h4
      subst h4
      exact ⟨_, h3, h2⟩
  · cases h

theorem clash_ne : ∀ {l r s t : List Nat}, clash l r = true → Wild l s → Wild r t → s ≠ t
  | [], [], _, _, h, _, _ => by simp [clash] at h
  | [], _ :: _, _, _, _, h1, ⟨d, r, rfl, _, _⟩ => by cases h1; simp
  | _ :: _, [], _, _, _, ⟨d, r, rfl, _, _⟩, h2 => by cases h2; simp
  | c :: l, d :: r, _, _, h, ⟨c', s, rfl, hc, h1⟩, ⟨d', t, rfl, hd, h2⟩ => by
    simp only [clash, Bool.or_eq_true] at h
    intro e
    simp only [List.cons.injEq] at e
    rcases h with h | h
    · unfold clash1 at h
      obtain ⟨e, _⟩ := e
      subst e
      split at h
      · rename_i h256
        simp [Nat.blt_eq] at h
        rcases hc with hc | hc <;> rcases hd with hd | hd <;> omega
      · split at h
        · simp [Nat.blt_eq] at h
          rcases hc with hc | hc <;> rcases hd with hd | hd <;> omega
        · simp at h
          rcases hc with hc | hc <;> rcases hd with hd | hd <;> omega
    · exact clash_ne h h1 h2 e.2

theorem run_sstrOp {op : BinOp} {x y : List Nat} {r : V} (h : sstrOp op x y = some r) {s t : ByteArray} (hs : Wild x (bytesOf s)) (ht : Wild y (bytesOf t)) (w : World) :
    ∃ c, (Op.stringOp op s t).run P w = .ok c w ∧ Rel M β r c := by
  cases op <;> simp only [sstrOp] at h
  case add =>
    split at h
    · rename_i hle
      cases h
      have h1 : ¬ (((s.size + t.size : Nat) : Int) > IntKind.i64.max) := by
        have e1 := hs.length
        have e2 := ht.length
        rw [bytesOf_length] at e1 e2
        have : IntKind.i64.max = 9223372036854775807 := by decide
        have : roomy = 1099511627776 := by decide
        omega
      exact ⟨.string (s ++ t), by simp only [Op.stringOp, if_neg h1]; rfl, by simp only [Rel]; exact ⟨_, rfl, by rw [bytesOf_append]; exact hs.append ht⟩⟩
    · cases h
  case eql =>
    split at h
    · rename_i hc
      cases h
      refine ⟨_, rfl, ?_⟩
      simp only [Rel, bytesOf_beq]
      have := clash_ne hc hs ht
      simp [this]
    · cases h
  case neq =>
    split at h
    · rename_i hc
      cases h
      refine ⟨_, rfl, ?_⟩
      simp only [Rel, bytesOf_beq]
      have := clash_ne hc hs ht
      simp [this]
    · cases h
  all_goals cases h

theorem run_binOp {op : BinOp} {u v r : V} (h : Abs.binOp op u v = some r) {c d : Value} (hu : Rel M β u c) (hv : Rel M β v d) (t : TypeId) (x y : Operand) (w : World) :
    ∃ c', (do eqGuard op t x y c d; Go.binOp op t c d : Sem Value).run P w = .ok c' w ∧ Rel M β r c' := by
  unfold Abs.binOp at h
  split at h
  · rename_i k p k' q
    simp only [Rel] at hu hv
    subst hu hv
    have hg : eqGuard op t x y (.int k p) (.int k' q) = pure () := eqGuard_at_int ..
    split at h
    · obtain ⟨c', h1, h2⟩ := run_shiftOp (P := P) (M := M) (β := β) h k' w
      exact ⟨c', by simp [hg, binOp_shl, h1], h2⟩
    · obtain ⟨c', h1, h2⟩ := run_shiftOp (P := P) (M := M) (β := β) h k' w
      exact ⟨c', by simp [hg, binOp_shr, h1], h2⟩
    · split at h
      · rename_i hk
        subst hk
        obtain ⟨c', h1, h2⟩ := run_intOp (P := P) (M := M) (β := β) h t w
        exact ⟨c', by simp [hg, h1], h2⟩
      · cases h
  · simp only [Rel] at hu hv
    obtain ⟨s, rfl, hs⟩ := hu
    obtain ⟨s', rfl, hs'⟩ := hv
    obtain ⟨c', h1, h2⟩ := run_strOp (P := P) (M := M) (β := β) h hs hs' w
    refine ⟨c', ?_, h2⟩
    have hb : Go.binOp op t (.string s) (.string s') = Op.stringOp op s s' := by cases op <;> rfl
    simp [eqGuard_at_string, hb, h1]
  · simp only [Rel] at hu hv
    obtain ⟨m, rfl, hm⟩ := hu
    obtain ⟨n, rfl, hn⟩ := hv
    obtain ⟨c', h1, h2⟩ := run_symOp (P := P) (M := M) (β := β) h hm hn t w
    exact ⟨c', by simp [eqGuard_at_int, h1], h2⟩
  · simp only [Rel] at hu hv
    obtain ⟨m, rfl, hm⟩ := hu
    subst hv
    obtain ⟨c', h1, h2⟩ := run_symOp (P := P) (M := M) (β := β) h hm (n := _) ⟨(Poly.at_const _).symm, Int.le_refl _, Int.le_refl _, (fun f h => nomatch h)⟩ t w
    exact ⟨c', by rw [show eqGuard op t x y _ _ = pure () from eqGuard_at_int ..]; exact h1, h2⟩
  · simp only [Rel] at hu hv
    obtain ⟨m, rfl, hm⟩ := hv
    subst hu
    obtain ⟨c', h1, h2⟩ := run_symOp (P := P) (M := M) (β := β) h (m := _) ⟨(Poly.at_const _).symm, Int.le_refl _, Int.le_refl _, (fun f h => nomatch h)⟩ hm t w
    exact ⟨c', by rw [show eqGuard op t x y _ _ = pure () from eqGuard_at_int ..]; exact h1, h2⟩
  · simp only [Rel] at hu hv
    obtain ⟨s, rfl, hs⟩ := hu
    obtain ⟨s', rfl, hs'⟩ := hv
    obtain ⟨c', h1, h2⟩ := run_sstrOp (P := P) (M := M) (β := β) h hs hs' w
    refine ⟨c', ?_, h2⟩
    have hb : Go.binOp op t (.string s) (.string s') = Op.stringOp op s s' := by cases op <;> rfl
    simp [eqGuard_at_string, hb, h1]
  · simp only [Rel] at hu hv
    obtain ⟨s, rfl, hs⟩ := hu
    obtain ⟨s', rfl, rfl⟩ := hv
    obtain ⟨c', h1, h2⟩ := run_sstrOp (P := P) (M := M) (β := β) h hs (Wild.refl _) w
    refine ⟨c', ?_, h2⟩
    have hb : Go.binOp op t (.string s) (.string s') = Op.stringOp op s s' := by cases op <;> rfl
    simp [eqGuard_at_string, hb, h1]
  · simp only [Rel] at hu hv
    obtain ⟨s, rfl, rfl⟩ := hu
    obtain ⟨s', rfl, hs'⟩ := hv
    obtain ⟨c', h1, h2⟩ := run_sstrOp (P := P) (M := M) (β := β) h (Wild.refl _) hs' w
    refine ⟨c', ?_, h2⟩
    have hb : Go.binOp op t (.string s) (.string s') = Op.stringOp op s s' := by cases op <;> rfl
    simp [eqGuard_at_string, hb, h1]
  · cases h

theorem f_bin (G : Globs gl M) (E : EnvRel M β N e a) (S : Sim M β hp.get w0 w) {op : BinOp} {t u : TypeId} {x y : Operand} (ho : o.op = .binOp op t x y u) {x' y' : X} (hx : cX gl x = some x') (hy : cX gl y = some y')
    (hev : evI g id e (.bin op x' y') = some eff) : Follows P M β w0 w (execOp a.eval o) hp id eff := by
  simp only [evI, Option.map_eq_some_iff] at hev
  obtain ⟨v, hv, rfl⟩ := hev
  obtain ⟨c, h1, h2⟩ := run_binOp (P := P) hv (cX_rel G E hx) (cX_rel G E hy) t x y w
  refine Follows.same S (c := c) ?_ h2
  simp only [execOp, ho]
  simp only [Sem.run_bind, Sem.run_pure] at h1 ⊢
  rw [h1]; rfl

end
end Go.Abs
