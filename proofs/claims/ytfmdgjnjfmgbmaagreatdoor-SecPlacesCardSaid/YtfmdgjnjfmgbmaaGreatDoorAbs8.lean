/-
  ABS, part 8: operations on values alone, and those that read, are followed.
-/
import Derived.Test.YtfmdgjnjfmgbmaaGreatDoorAbs7
import Derived.Laws.Strings
namespace Go.Abs
open Go Go.RowKit

section
variable {P : Program} {M : Mem} {β : Places} {w0 w : World} {hp : Heap} {id N : Nat} {e : Env} {a : Act} {gl : Nat → Option (List V)} {g : View} {o : Oper} {i : I} {eff : Eff}

theorem f_move (G : Globs gl M) (E : EnvRel M β N e a) (S : Sim M β hp.get w0 w) {x : Operand} (ho : o.op = .move x ∨ o.op = .assign x) (hc : (cX gl x).map I.mov = some i) (hev : evI g id e i = some eff) :
    Follows P M β w0 w (execOp a.eval o) hp id eff := by
  simp only [Option.map_eq_some_iff] at hc
  obtain ⟨x', hx, rfl⟩ := hc
  simp only [evI, Option.some.injEq] at hev
  subst hev
  refine Follows.same S (c := a.eval x) ?_ (cX_rel G E hx)
  rcases ho with ho | ho <;> simp [execOp, ho]

theorem f_pick (G : Globs gl M) (E : EnvRel M β N e a) (S : Sim M β hp.get w0 w) {c x y : Operand} (ho : o.op = .pick c x y) (hc : cOp P gl (.pick c x y) = some i) (hev : evI g id e i = some eff) :
    Follows P M β w0 w (execOp a.eval o) hp id eff := by
  simp only [cOp, Option.bind_eq_some_iff, Option.map_eq_some_iff] at hc
  obtain ⟨c', hc', x', hx, y', hy, rfl⟩ := hc
  simp only [evI] at hev
  have hr := cX_rel G E hc'
  split at hev
  · rename_i t ht
    cases hev
    rw [ht] at hr
    simp only [Rel] at hr
    refine Follows.same S (c := if t then a.eval x else a.eval y) ?_ ?_
    · simp [execOp, ho, asBool, hr]
    · cases t
      · exact cX_rel G E hy
      · exact cX_rel G E hx
  · cases hev

theorem f_un (G : Globs gl M) (E : EnvRel M β N e a) (S : Sim M β hp.get w0 w) {op : UnOp} {t : TypeId} {x : Operand} (ho : o.op = .unOp op t x) (hc : cOp P gl (.unOp op t x) = some i) (hev : evI g id e i = some eff) :
    Follows P M β w0 w (execOp a.eval o) hp id eff := by
  simp only [cOp, Option.map_eq_some_iff] at hc
  obtain ⟨x', hx, rfl⟩ := hc
  simp only [evI, Option.map_eq_some_iff] at hev
  obtain ⟨v, hv, rfl⟩ := hev
  have hr := cX_rel G E hx
  unfold Abs.unOp at hv
  split at hv
  · rename_i k n hx'
    cases hv; rw [hx'] at hr; simp only [Rel] at hr
    exact Follows.same S (c := .int k (k.wrap (0 - n))) (by simp [execOp, ho, hr, Op.unary, Op.intArith]) (by simp only [Rel])
  · rename_i k n hx'
    cases hv; rw [hx'] at hr; simp only [Rel] at hr
    exact Follows.same S (c := .int k (k.wrap (BitVec.ofInt k.bits (if k.signed then -1 else k.max) ^^^ BitVec.ofInt k.bits n).toNat)) (by simp [execOp, ho, hr, Op.unary, Op.intBits]) (by simp only [Rel])
  · rename_i b hx'
    cases hv; rw [hx'] at hr; simp only [Rel] at hr
    exact Follows.same S (c := .bool !b) (by simp [execOp, ho, hr, Op.unary]) (by simp only [Rel])
  · cases hv

theorem bytesLess_eq : ∀ (x y : List UInt8), Op.bytesLess x y = bytesLess (x.map (·.toNat)) (y.map (·.toNat))
  | _, [] => by simp [Op.bytesLess, bytesLess]
  | [], _ :: _ => by simp [Op.bytesLess, bytesLess]
  | a :: x, b :: y => by
    simp only [Op.bytesLess, bytesLess, List.map_cons, bytesLess_eq x y]
    congr 1
    · rw [Bool.eq_iff_iff]; simp [UInt8.lt_iff_toNat_lt, Nat.blt_eq]
    · congr 1
      rw [Bool.eq_iff_iff]; simp only [beq_iff_eq, Nat.beq_eq]; exact UInt8.toNat_inj.symm

theorem map_toNat_inj {x y : List UInt8} : (x.map (·.toNat) = y.map (·.toNat)) ↔ x = y := by
  constructor
  · intro h
    exact List.map_inj_right (fun a b hab => UInt8.toNat_inj.1 hab) |>.1 h
  · rintro rfl; rfl

theorem bytesOf_beq (s t : ByteArray) : (s.toList == t.toList) = (bytesOf s == bytesOf t) := by
  rw [Bool.eq_iff_iff]
  simp only [beq_iff_eq, ByteArray.toList_eq, bytesOf, map_toNat_inj]

theorem bytesOf_less (s t : ByteArray) : Op.bytesLess s.toList t.toList = bytesLess (bytesOf s) (bytesOf t) := by
  rw [bytesLess_eq, ByteArray.toList_eq, ByteArray.toList_eq]; rfl

theorem bytesOf_length (s : ByteArray) : (bytesOf s).length = s.size := by simp [bytesOf]

theorem bytesOf_append (s t : ByteArray) : bytesOf (s ++ t) = bytesOf s ++ bytesOf t := by
  simp [bytesOf, ByteArray.data_append]

theorem run_strOp {op : BinOp} {x y : List Nat} {r : V} (h : strOp op x y = some r) {s t : ByteArray} (hs : bytesOf s = x) (ht : bytesOf t = y) (w : World) :
    ∃ c, (Op.stringOp op s t).run P w = .ok c w ∧ Rel M β r c := by
  subst hs ht
  cases op <;> simp only [strOp] at h
  case add =>
    split at h
    · rename_i hle
      cases h
      have h1 : ¬ (((s.size + t.size : Nat) : Int) > IntKind.i64.max) := by
        rw [bytesOf_length, bytesOf_length] at hle
        have : IntKind.i64.max = 9223372036854775807 := by decide
        have : roomy = 1099511627776 := by decide
        omega
      exact ⟨.string (s ++ t), by simp only [Op.stringOp, if_neg h1]; rfl, by simp only [Rel]; exact ⟨_, rfl, bytesOf_append _ _⟩⟩
    · cases h
  all_goals first
    | (cases h; done)
    | (cases h; refine ⟨_, rfl, ?_⟩; simp only [Rel, bytesOf_beq, bytesOf_less]; done)

theorem run_intOp {op : BinOp} {k : IntKind} {x y : Int} {r : V} (h : intOp op k x y = some r) (t : TypeId) (w : World) :
    ∃ c, (Go.binOp op t (.int k x) (.int k y)).run P w = .ok c w ∧ Rel M β r c := by
  cases op <;> simp only [intOp] at h
  case quo =>
    split at h
    · cases h
    · rename_i hy
      cases h
      exact ⟨.int k (k.wrap (x.tdiv y)), by simp [binOp_quo, Op.intDiv, hy], by simp only [Rel]⟩
  case rem =>
    split at h
    · cases h
    · rename_i hy
      cases h
      exact ⟨.int k (x.tmod y), by simp [binOp_rem, Op.intDiv, hy], by simp only [Rel]⟩
  all_goals first
    | (cases h; done)
    | (cases h; refine ⟨_, by simp only [Go.binOp, ne_eq, not_true_eq_false, if_false, Op.intArith, Op.intBits, Op.intCmp]; rfl, ?_⟩; simp only [Rel]; done)

theorem run_shiftOp {op : BinOp} {k : IntKind} {x y : Int} {r : V} (h : shiftOp op k x y = some r) (k' : IntKind) (w : World) :
    ∃ c, (Op.shift op k x k' y).run P w = .ok c w ∧ Rel M β r c := by
  unfold shiftOp at h
  split at h
  · cases h
  · rename_i hy
    cases op <;> simp only at h
    case shl => cases h; exact ⟨.int k (k.wrap (x * 2 ^ (min y.toNat k.bits))), by simp [Op.shift, hy], by simp only [Rel]⟩
    case shr => cases h; exact ⟨.int k (x.fdiv (2 ^ (min y.toNat k.bits))), by simp [Op.shift, hy], by simp only [Rel]⟩
    all_goals cases h

theorem run_binOp {op : BinOp} {u v r : V} (h : Abs.binOp op u v = some r) {c d : Value} (hu : Rel M β u c) (hv : Rel M β v d) (t : TypeId) (x y : Operand) (w : World) :
    ∃ c', (do eqGuard op t x y c d; Go.binOp op t c d : Sem Value).run P w = .ok c' w ∧ Rel M β r c' := by
  unfold Abs.binOp at h
  split at h
  · rename_i k p k' q
    simp only [Rel] at hu hv
    subst hu hv
    have hg : eqGuard op t x y (.int k p) (.int k' q) = pure () := eqGuard_at_int ..
    split at h
    · obtain ⟨c', h1, h2⟩ := run_shiftOp (P := P) (M := M) (β := β) h k' w
      exact ⟨c', by simp [hg, binOp_shl, h1], h2⟩
    · obtain ⟨c', h1, h2⟩ := run_shiftOp (P := P) (M := M) (β := β) h k' w
      exact ⟨c', by simp [hg, binOp_shr, h1], h2⟩
    · split at h
      · rename_i hk
        subst hk
        obtain ⟨c', h1, h2⟩ := run_intOp (P := P) (M := M) (β := β) h t w
        exact ⟨c', by simp [hg, h1], h2⟩
      · cases h
  · simp only [Rel] at hu hv
    obtain ⟨s, rfl, hs⟩ := hu
    obtain ⟨s', rfl, hs'⟩ := hv
    obtain ⟨c', h1, h2⟩ := run_strOp (P := P) (M := M) (β := β) h hs hs' w
    refine ⟨c', ?_, h2⟩
    have hb : Go.binOp op t (.string s) (.string s') = Op.stringOp op s s' := by cases op <;> rfl
    simp [eqGuard_at_string, hb, h1]
  · cases h

theorem f_bin (G : Globs gl M) (E : EnvRel M β N e a) (S : Sim M β hp.get w0 w) {op : BinOp} {t u : TypeId} {x y : Operand} (ho : o.op = .binOp op t x y u) {x' y' : X} (hx : cX gl x = some x') (hy : cX gl y = some y')
    (hev : evI g id e (.bin op x' y') = some eff) : Follows P M β w0 w (execOp a.eval o) hp id eff := by
  simp only [evI, Option.map_eq_some_iff] at hev
  obtain ⟨v, hv, rfl⟩ := hev
  obtain ⟨c, h1, h2⟩ := run_binOp (P := P) hv (cX_rel G E hx) (cX_rel G E hy) t x y w
  refine Follows.same S (c := c) ?_ h2
  simp only [execOp, ho]
  simp only [Sem.run_bind, Sem.run_pure] at h1 ⊢
  rw [h1]; rfl

end
end Go.Abs
