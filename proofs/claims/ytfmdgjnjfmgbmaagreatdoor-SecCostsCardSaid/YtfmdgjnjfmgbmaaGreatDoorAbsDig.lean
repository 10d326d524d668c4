/-
  ABS: numbers below a hundred as texts, told on values: known ones, and ones of which only the bounds are known.
-/
import Derived.Test.YtfmdgjnjfmgbmaaGreatDoorAbsJoin
namespace Go.Abs
open Go Go.RowKit
set_option linter.unusedSectionVars false
variable [Syms]

def digN (n : Nat) : List Nat := if n < 10 then [48 + n] else [48 + n / 10, 48 + n % 10]

def digC : List V → Option V
  | [.int .u64 n] => if 0 ≤ n ∧ n < 100 then some (.str (digN n.toNat)) else none
  | _ => none

def digF : List V → Option V
  | [.sym (.num .u64 _ lo hi _)] => if 1 ≤ lo ∧ hi ≤ 9 then some (.sstr [256]) else if 10 ≤ lo ∧ hi ≤ 99 then some (.sstr [256, 256]) else none
  | args => digC args

theorem wild_digit {d : Nat} (h0 : 48 ≤ d) (h1 : d ≤ 57) : ∀ {l s : List Nat}, Wild l s → Wild (256 :: l) (d :: s) := fun h => ⟨d, _, rfl, .inr ⟨rfl, h0, h1⟩, h⟩

theorem PureSpec.digits {P : Program} {gl : Nat → Option (List V)} {f : FuncId} (h : PureSpec P gl f digC) : PureSpec P gl f digF := by
  intro M args cargs r w G hok himm R hr
  unfold digF at hr
  split at hr
  · rename_i p lo hi fs
    simp only [RelL, Rel] at R
    obtain ⟨c1, cs1, rfl, ⟨n, rfl, hn, h1, h2, _⟩, rfl⟩ := R
    have hb : 0 ≤ n ∧ n < 100 ∧ r.imm = true ∧ ∀ (M' : Mem) s, bytesOf s = digN n.toNat → Rel M' nowhere r (.string s) := by
      split at hr
      · cases hr
        refine ⟨by omega, by omega, rfl, fun M' s hs => ?_⟩
        simp only [Rel]
        refine ⟨s, rfl, ?_⟩
        rw [hs]
        unfold digN
        rw [if_pos (by omega)]
        exact wild_digit (by omega) (by omega) rfl
      · split at hr
        · cases hr
          refine ⟨by omega, by omega, rfl, fun M' s hs => ?_⟩
          simp only [Rel]
          refine ⟨s, rfl, ?_⟩
          rw [hs]
          unfold digN
          rw [if_neg (by omega)]
          exact wild_digit (by omega) (by omega) (wild_digit (by omega) (by omega) rfl)
        · cases hr
    obtain ⟨h0, h100, hi', hrel⟩ := hb
    have hd := h M [.int .u64 n] [.int .u64 n] (.str (digN n.toNat)) w G hok rfl (by simp only [RelL, Rel]; exact ⟨_, _, rfl, rfl, rfl⟩) (by simp [digC, h0, h100])
    refine hd.mono ?_
    rintro e w' ⟨M', c, e1, e2, e3, e4, e5, _, e7⟩
    simp only [Rel] at e7
    obtain ⟨s, rfl, hs⟩ := e7
    exact ⟨M', _, e1, e2, e3, e4, e5, hi', hrel M' s hs⟩
  · exact h M _ cargs r w G hok himm R hr
end Go.Abs
