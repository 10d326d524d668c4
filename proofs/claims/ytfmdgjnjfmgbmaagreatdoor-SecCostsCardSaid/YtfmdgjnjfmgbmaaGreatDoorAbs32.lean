/-
  ABS, part 32: a function of the model's own table: where a byte stands in a string.
-/
import Derived.Test.YtfmdgjnjfmgbmaaGreatDoorAbs31
import Derived.Lib.Bytealg
namespace Go.Abs
open Go Go.RowKit
set_option linter.unusedSectionVars false
variable [Syms]

def idxOf : List Nat → Nat → Int
  | [], _ => -1
  | b :: l, c => if b = c then 0 else if idxOf l c = -1 then -1 else idxOf l c + 1

theorem idxOf_eq : ∀ (l : List UInt8) (c : UInt8), Lib.indexByte l c = idxOf (l.map (·.toNat)) c.toNat
  | [], c => rfl
  | b :: l, c => by
    simp only [Lib.indexByte, idxOf, List.map_cons, idxOf_eq l c, beq_iff_eq, UInt8.toNat_inj]

def idxF : List V → Option V
  | [.str s, .int .u8 c] => some (.int .i64 (idxOf s c.toNat.toUInt8.toNat))
  | _ => none

theorem PureSpec.index {P : Program} {gl : Nat → Option (List V)} {f : FuncId} {fn : Func} (hf : P.funcs[f]? = some fn) (hname : (fn.name == "runtime.NumGoroutine") = false) (hb : fn.body.isNone = true) (hn : Extern.findNext fn = none)
    (he : Extern.find fn = some Extern.BytealgIndexByte.indexByte) : PureSpec P gl f idxF := by
  intro M args cargs r w G hok himm R hr
  unfold idxF at hr
  split at hr
  · rename_i s c
    cases hr
    simp only [RelL, Rel] at R
    obtain ⟨c1, cs1, rfl, ⟨bs, rfl, hbs⟩, c2, cs2, rfl, rfl, rfl⟩ := R
    refine .inr ⟨.int .i64 (Lib.indexByte bs.data.toList c.toNat.toUInt8), w, ?_, M, _, rfl, .refl M, .refl _ M, hok, .refl _ w, rfl, ?_⟩
    · rw [run_callFunc_extern hf hname hb hn he]
      have := Lib.run_indexByteString (P := P) bs c w
      simp only [List.toArray]
      erw [this]
      rfl
    · simp only [Rel]
      rw [idxOf_eq, ← hbs]
      rfl
  · cases hr
end Go.Abs
