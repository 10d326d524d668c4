/-
  SymsTwice: for every two bytes the law answers yes. Conditions: the row's own (the listed variables hold what the program's text lays; the card ties them).
-/
import Derived.Test.YtobablbcmdhlbaaGreatDoorSymsTwice5
import Derived.Test.YtobablbcmdhlbaaGreatDoorSymsRow
namespace Go.Proofs.YtobablbcmdhlbaaGreatDoor.SymsTwice
open Go.ChangeShapes Go.WideShapes Go.ChangeAt Go.RowKit Go.Abs
set_option maxRecDepth 100000
set_option linter.unusedVariables false

def ansF : List V → Option V
  | [.int .u8 a, .int .u8 g] => if 0 ≤ a ∧ a < 256 ∧ 0 ≤ g ∧ g < 256 then some (.bool true) else none
  | _ => none

theorem pure : PureSpec Tryz.prog SeatA.gl 4 ansF := by
  refine PureSpec.of_tells SeatA.H8 (drawn_ok SeatA.mixed SeatA.H8) fun args r _ h => ?_
  unfold ansF at h
  split at h
  · split at h
    · rename_i c
      cases h
      exact SeatA.twice_tells c.1 c.2.1 c.2.2.1 c.2.2.2
    · cases h
  · cases h

theorem walk (a g : Int) (W : World) (hL : laidMetH Tryz.prog laid3 W) (wa : (Lit.int .u8 a).wf = true) (wg : (Lit.int .u8 g).wf = true) :
    Calls Tryz.prog 4 #[.int .u8 a, .int .u8 g] W fun e w' => e = .returned (.bool true) ∧ Below W.heap.size W w' := by
  have b : ∀ n : Int, (Lit.int .u8 n).wf = true → 0 ≤ n ∧ n < 256 := fun n h => by
    simp [Lit.wf, IntKind.min, IntKind.max, IntKind.bits, IntKind.signed] at h
    omega
  have ha := b a wa
  have hg := b g wg
  refine (calls_of_pure pure (SeatA.H8.fnOk 4 (by kernel_rfl)) (globs hL) (args := [.int .u8 a, .int .u8 g]) (cargs := [.int .u8 a, .int .u8 g]) rfl ?_ (r := .bool true) ?_).mono ?_
  · simp only [RelL, Rel]
    exact ⟨_, _, rfl, rfl, _, _, rfl, rfl, rfl⟩
  · simp [ansF, ha.1, ha.2, hg.1, hg.2]
  · rintro e w' ⟨c, rfl, hb, M, hr⟩
    simp only [Rel] at hr
    exact ⟨by rw [hr], hb⟩

theorem lifted (os : Os) (started : os.Started) (H : Type) (enc : TypeId × Value → H) :
    ReturnsInHanded {} Tryz.checked os 4 .any (fun w args => (Rows.symsTwiceSpec.pre enc Tryz.prog Tryz.f4 Rows.symsTwiceRow.domain false w args ∧ laidMetH Tryz.prog laid3 w) ∧ sizedMet enc Tryz.prog Tryz.f4 (OpenSpec.ofChange Rows.symsTwiceSpec) false w args)
      (Rows.symsTwiceSpec.post enc Tryz.prog Tryz.f4 false true false false) := by
  refine returnsInHanded_of_change_and (C := Tryz.checked) (X := fun w _ => laidMetH Tryz.prog laid3 w) (fun _ _ _ hh h => h.of_heap hh) own started (by kernel_rfl) Tryz.func4
    (ChangeSpec.witness_shaped (enc := enc) (C := Tryz.checked) (os := os) (X := fun w _ => laidMetH Tryz.prog laid3 w) false (World.laidAll Tryz.prog os laid3) #[.int .u8 0, .int .u8 0] 8 (World.laidAll_os _ _ _)
      (World.shaped_of_ZipB (by kernel_rfl) (by kernel_rfl)) (by kernel_rfl) (by kernel_rfl) (by kernel_rfl) (laid_met os _)) ?_
  intro W base args ds gs before hval0 hW hcnd _ hL _
  have hval : ∀ (j : Nat) t v, Tryz.f4.params[j]? = some t → args[j]? = some v → Value.okWide Tryz.prog W .any base t v := hval0
  have hW' := hW
  obtain ⟨p, q, hA0, hV, rfl, hfz, hnd⟩ := hW
  have hA : DataW.TrodAll enc Tryz.prog W 0 (fun _ => true) true Tryz.f4.params.toList args.toList ds p := hA0
  rw [Tryz.params4] at hA hval
  obtain ⟨v0, vs0, d0, ds0, p0, q0, hargs, rfl, rfl, h0, r0⟩ := trodAll_cons hA
  obtain ⟨v1, vs1, d1, ds1, p1, q1, rfl, rfl, rfl, h1, r1⟩ := trodAll_cons r0
  obtain ⟨rfl, rfl, rfl⟩ := trodAll_nil r1
  obtain rfl : args = #[v0, v1] := by cases args; simp_all
  obtain ⟨rfl, rfl⟩ := trodVars_none hV
  obtain ⟨a0, rfl, rfl, rfl, w0⟩ := open_int Tryz.underlying5 (hval 0 5 v0 rfl rfl) h0
  obtain ⟨a1, rfl, rfl, rfl, w1⟩ := open_int Tryz.underlying5 (hval 1 5 v1 rfl rfl) h1
  clear hA0 hval0
  refine (walk a0 a1 W hL w0 w1).mono fun e W' ⟨he, bel⟩ => ?_
  subst he
  exact ⟨_, rfl, _, _, _, [], _, [], hW', trodAll_mk1 (shut_bool Tryz.underlying4 _), (trodAll_cons_mk (shut_int Tryz.underlying5 w0) (trodAll_cons_mk (shut_int Tryz.underlying5 w1) trodAll_mk0)), rfl, bel.frame _, fun h => by cases h⟩

theorem over : Rows.symsTwiceRow.holds Tryz.pinned (OpenSpec.ofChange Rows.symsTwiceSpec) :=
  OpenClaim.holds_of_wide 4 Tryz.f4 rfl rfl rfl rfl rfl rfl rfl ⟨rfl, rfl, rfl, rfl, rfl⟩ rfl rfl rfl rfl rfl (by kernel_rfl) Tryz.func4 (by kernel_rfl)
    (of_decide_eq_true (by kernel_rfl)) (by unfold Func.isWrapper; first | (rw [if_pos (by decide +kernel)]; kernel_rfl) | (rw [if_neg (by decide +kernel)]; exact ⟨rfl, rfl⟩))
    (fun os started H enc _ => lifted os started H enc)

theorem card : Rows.SymsTwiceCardSaid :=
  Claim7.holds_tied_plain_at .later [] [.data, .data, .pinned] true (true, "72443a834e19e08b0ea8a647ef82c9b188f09355b0b0865ae35a6998f12e1d20") false over (fun _ h => by cases h) (by kernel_rfl) (fun _ h => by cases h) symsTwice_row_tie rfl ⟨rfl, rfl⟩ (by kernel_rfl) rfl
    (fun f fn hf hfn => by
      obtain rfl : f = 4 := Option.some.inj ((show Tryz.prog.funcNamed "caponier/caponierlaw07.SymsTwice" = some 4 by kernel_rfl).symm.trans hf) |>.symm
      obtain rfl : fn = Tryz.f4 := (Option.some.inj (Tryz.func4.symm.trans hfn)).symm
      exact ⟨by kernel_rfl, fun j t ht => by
        rw [Tryz.params4] at ht
        have hm : t ∈ [5, 5] := by simpa using Array.mem_of_getElem? ht
        have hall : ([5, 5].all fun u => !Tryz.prog.wantsStandIn u) = true := by kernel_rfl
        have h2 := List.all_eq_true.1 hall t hm
        show Tryz.prog.wantsStandIn t = false
        simpa using h2⟩)
    (by kernel_rfl)
end Go.Proofs.YtobablbcmdhlbaaGreatDoor.SymsTwice
namespace Go.Proofs.YtobablbcmdhlbaaGreatDoor
/-- The card, under a short name, for the claim. -/
theorem symsTwice_card : Rows.SymsTwiceCardSaid := SymsTwice.card
#print axioms symsTwice_card
end Go.Proofs.YtobablbcmdhlbaaGreatDoor
