/-
  SecPlaces: for every byte and truth value the law answers yes. Conditions: the row's own (the listed variables hold what the program's text lays; the card ties them).
-/
import Derived.Test.YtfmdgjnjfmgbmaaGreatDoorSecPlaces5
import Derived.Test.YtfmdgjnjfmgbmaaGreatDoorSecRow
namespace Go.Proofs.YtfmdgjnjfmgbmaaGreatDoor.SecPlaces
open Go.ChangeShapes Go.WideShapes Go.ChangeAt Go.RowKit Go.Abs
set_option maxRecDepth 100000
set_option linter.unusedVariables false

def ansF : List V → Option V
  | [.int .u8 a, .bool _] => if 0 ≤ a then some (.bool true) else none
  | _ => none

theorem pure : PureSpec Tryz.prog SeatB.gl 5 ansF := by
  refine PureSpec.of_tells SeatB.H3 (drawn_ok SeatB.mixed SeatB.H3) fun args r _ h => ?_
  unfold ansF at h
  split at h
  · split at h
    · rename_i c
      cases h
      exact SeatB.places_tells c
    · cases h
  · cases h

theorem walk (a : Int) (b : Bool) (W : World) (hL : laidMetH Tryz.prog laid5 W) (wa : (Lit.int .u8 a).wf = true) :
    Calls Tryz.prog 5 #[.int .u8 a, .bool b] W fun e w' => e = .returned (.bool true) ∧ Below W.heap.size W w' := by
  have ha : 0 ≤ a := by
    simp [Lit.wf, IntKind.min, IntKind.max, IntKind.bits, IntKind.signed] at wa
    omega
  refine (calls_of_pure pure (SeatB.H3.fnOk 5 (by kernel_rfl)) (globs hL) (args := [.int .u8 a, .bool b]) (cargs := [.int .u8 a, .bool b]) rfl ?_ (r := .bool true) ?_).mono ?_
  · simp only [RelL, Rel]
    exact ⟨_, _, rfl, rfl, _, _, rfl, rfl, rfl⟩
  · simp [ansF, ha]
  · rintro e w' ⟨c, rfl, hb, M, hr⟩
    simp only [Rel] at hr
    exact ⟨by rw [hr], hb⟩

theorem lifted (os : Os) (started : os.Started) (H : Type) (enc : TypeId × Value → H) :
    ReturnsInHanded {} Tryz.checked os 5 .any (fun w args => (Rows.secPlacesSpec.pre enc Tryz.prog Tryz.f5 Rows.secPlacesRow.domain false w args ∧ laidMetH Tryz.prog laid5 w) ∧ sizedMet enc Tryz.prog Tryz.f5 (OpenSpec.ofChange Rows.secPlacesSpec) false w args)
      (Rows.secPlacesSpec.post enc Tryz.prog Tryz.f5 false true false false) := by
  refine returnsInHanded_of_change_and (C := Tryz.checked) (X := fun w _ => laidMetH Tryz.prog laid5 w) (fun _ _ _ hh h => h.of_heap hh) own started (by kernel_rfl) Tryz.func5
    (ChangeSpec.witness_shaped (enc := enc) (C := Tryz.checked) (os := os) (X := fun w _ => laidMetH Tryz.prog laid5 w) false (World.laidAll Tryz.prog os laid5) #[.int .u8 0, .bool false] 8 (World.laidAll_os _ _ _)
      (World.shaped_of_ZipB (by kernel_rfl) (by kernel_rfl)) (by kernel_rfl) (by kernel_rfl) (by kernel_rfl) (laid_met os _)) ?_
  intro W base args ds gs before hval0 hW hcnd _ hL _
  have hval : ∀ (j : Nat) t v, Tryz.f5.params[j]? = some t → args[j]? = some v → Value.okWide Tryz.prog W .any base t v := hval0
  have hW' := hW
  obtain ⟨p, q, hA0, hV, rfl, hfz, hnd⟩ := hW
  have hA : DataW.TrodAll enc Tryz.prog W 0 (fun _ => true) true Tryz.f5.params.toList args.toList ds p := hA0
  rw [Tryz.params5] at hA hval
  obtain ⟨v0, vs0, d0, ds0, p0, q0, hargs, rfl, rfl, h0, r0⟩ := trodAll_cons hA
  obtain ⟨v1, vs1, d1, ds1, p1, q1, rfl, rfl, rfl, h1, r1⟩ := trodAll_cons r0
  obtain ⟨rfl, rfl, rfl⟩ := trodAll_nil r1
  obtain rfl : args = #[v0, v1] := by cases args; simp_all
  obtain ⟨rfl, rfl⟩ := trodVars_none hV
  obtain ⟨a0, rfl, rfl, rfl, w0⟩ := open_int Tryz.underlying5 (hval 0 5 v0 rfl rfl) h0
  obtain ⟨a1, rfl, rfl, rfl⟩ := open_bool Tryz.underlying4 (hval 1 4 v1 rfl rfl) h1
  clear hA0 hval0
  refine (walk a0 a1 W hL w0).mono fun e W' ⟨he, bel⟩ => ?_
  subst he
  exact ⟨_, rfl, _, _, _, [], _, [], hW', trodAll_mk1 (shut_bool Tryz.underlying4 _), (trodAll_cons_mk (shut_int Tryz.underlying5 w0) (trodAll_cons_mk (shut_bool Tryz.underlying4 _) trodAll_mk0)), rfl, bel.frame _, fun h => by cases h⟩

theorem over : Rows.secPlacesRow.holds Tryz.pinned (OpenSpec.ofChange Rows.secPlacesSpec) :=
  OpenClaim.holds_of_wide 5 Tryz.f5 rfl rfl rfl rfl rfl rfl rfl ⟨rfl, rfl, rfl, rfl, rfl⟩ rfl rfl rfl rfl rfl (by kernel_rfl) Tryz.func5 (by kernel_rfl)
    (of_decide_eq_true (by kernel_rfl)) (by unfold Func.isWrapper; first | (rw [if_pos (by decide +kernel)]; kernel_rfl) | (rw [if_neg (by decide +kernel)]; exact ⟨rfl, rfl⟩))
    (fun os started H enc _ => lifted os started H enc)

theorem card : Rows.SecPlacesCardSaid :=
  Claim7.holds_tied_plain_at .later [] [.data, .data, .data, .data, .pinned] true (true, "04ae3fc3dc5a8e6fe1410db1e8238dc7fd8842678aa266e58129bd7f5892d6a2") true over (fun _ h => by cases h) (by kernel_rfl) (fun _ h => by cases h) secPlaces_row_tie rfl ⟨rfl, rfl⟩ (by kernel_rfl) rfl
    (fun f fn hf hfn => by
      obtain rfl : f = 5 := Option.some.inj ((show Tryz.prog.funcNamed "caponier/caponierlaw11.SecPlaces" = some 5 by kernel_rfl).symm.trans hf) |>.symm
      obtain rfl : fn = Tryz.f5 := (Option.some.inj (Tryz.func5.symm.trans hfn)).symm
      exact ⟨by kernel_rfl, fun j t ht => by
        rw [Tryz.params5] at ht
        have hm : t ∈ [5, 4] := by simpa using Array.mem_of_getElem? ht
        have hall : ([5, 4].all fun u => !Tryz.prog.wantsStandIn u) = true := by kernel_rfl
        have h2 := List.all_eq_true.1 hall t hm
        show Tryz.prog.wantsStandIn t = false
        simpa using h2⟩)
    (by kernel_rfl)
end Go.Proofs.YtfmdgjnjfmgbmaaGreatDoor.SecPlaces
namespace Go.Proofs.YtfmdgjnjfmgbmaaGreatDoor
/-- The card, under a short name, for the claim. -/
theorem secPlaces_card : Rows.SecPlacesCardSaid := SecPlaces.card
#print axioms secPlaces_card
end Go.Proofs.YtfmdgjnjfmgbmaaGreatDoor
