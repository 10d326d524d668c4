/-
  SecFlows: for every two bytes and truth value the law answers yes. Conditions: the row's own (the listed variables hold what the program's text lays; the card ties them).
-/
import Derived.Test.YtfmdgjnjfmgbmaaGreatDoorSecFlowsZ
import Derived.Test.YtfmdgjnjfmgbmaaGreatDoorSecCRow
namespace Go.Proofs.YtfmdgjnjfmgbmaaGreatDoor.SecFlows
open Go.ChangeShapes Go.WideShapes Go.ChangeAt Go.RowKit Go.Abs
set_option maxRecDepth 100000
set_option linter.unusedVariables false

theorem at_const [Syms] (n : Int) : (⟨n, 0, 0, 0⟩ : Poly).at = n := Poly.at_const n

theorem walk (a b : Int) (t : Bool) (W : World) (hL : laidMetH Tryz.prog laid5 W) (wa : (Lit.int .u8 a).wf = true) (wb : (Lit.int .u8 b).wf = true) :
    Calls Tryz.prog 4 #[.int .u8 a, .int .u8 b, .bool t] W fun e W' => e = .returned (.bool true) ∧ Below W.heap.size W W' := by
  have ha : 0 ≤ a ∧ a ≤ 255 := by
    simp [Lit.wf, IntKind.min, IntKind.max, IntKind.bits, IntKind.signed] at wa
    omega
  have hb : 0 ≤ b ∧ b ≤ 255 := by
    simp [Lit.wf, IntKind.min, IntKind.max, IntKind.bits, IntKind.signed] at wb
    omega
  letI sy : Syms := ⟨0, 0⟩
  have nofact : Facts [] := fun f h => nomatch h
  have key : ∀ args : List V, PureSpec Tryz.prog SeatC.gl 4 (tabF [(args, .bool true)]) → V.eqFs args args = true → V.imm.imms args = true → RelL (memOf W) nowhere args [.int .u8 a, .int .u8 b, .bool t] →
      Calls Tryz.prog 4 #[.int .u8 a, .int .u8 b, .bool t] W fun e W' => e = .returned (.bool true) ∧ Below W.heap.size W W' := by
    intro args hp he hi hr
    refine (calls_of_pure hp (SeatC.H4.fnOk 4 (by kernel_rfl)) (globs hL) (args := args) (cargs := [.int .u8 a, .int .u8 b, .bool t]) hi hr (r := .bool true) (by simp [tabF, he])).mono ?_
    rintro e w' ⟨c, rfl, hb, M, hr⟩
    simp only [Rel] at hr
    exact ⟨by rw [hr], hb⟩
  obtain ⟨j, hj⟩ : ∃ j : Nat, a % 20 = (j : Int) := ⟨(a % 20).toNat, by omega⟩
  have hj20 : j < 20 := by omega
  have rel_n : Rel (memOf W) nowhere (.sym (.rem .u8 20 ⟨Int.ofNat j, 0, 0, 0⟩ (Int.ofNat j) (Int.ofNat j) [])) (.int .u8 a) := by
    simp only [Rel]
    refine ⟨a, rfl, ha.1, ha.2, ?_, ?_, ?_, nofact⟩
    · rw [Int.tmod_eq_emod_of_nonneg ha.1, at_const]; exact hj
    · rw [at_const]; exact Int.le_refl _
    · rw [at_const]; exact Int.le_refl _
  cases t with
  | false =>
    refine key _ (SeatC.flows_n j hj20) (by simp [SeatC.flowN, V.eqFs, V.eqF]) rfl ?_
    simp only [SeatC.flowN, RelL]
    refine ⟨_, _, rfl, rel_n, _, _, rfl, ?_, _, _, rfl, ?_, rfl⟩
    · simp only [Rel]; exact ⟨b, rfl, hb⟩
    · simp only [Rel]
  | true =>
    obtain ⟨i, hi⟩ : ∃ i : Nat, b % ((j + 1 : Nat) : Int) = (i : Int) := ⟨(b % ((j + 1 : Nat) : Int)).toNat, (Int.toNat_of_nonneg (Int.emod_nonneg _ (by omega))).symm⟩
    have hil : i < j + 1 := by
      have := Int.emod_lt_of_pos b (show (0 : Int) < ((j + 1 : Nat) : Int) by omega)
      omega
    refine key _ (SeatC.flows_t j i hj20 hil) (by simp [SeatC.flowT, V.eqFs, V.eqF]) rfl ?_
    simp only [SeatC.flowT, RelL]
    refine ⟨_, _, rfl, rel_n, _, _, rfl, ?_, _, _, rfl, ?_, rfl⟩
    · simp only [Rel]
      refine ⟨b, rfl, hb.1, hb.2, ?_, ?_, ?_, nofact⟩
      · rw [Int.tmod_eq_emod_of_nonneg hb.1, at_const]; exact hi
      · rw [at_const]; exact Int.le_refl _
      · rw [at_const]; exact Int.le_refl _
    · simp only [Rel]

theorem lifted (os : Os) (started : os.Started) (H : Type) (enc : TypeId × Value → H) :
    ReturnsInHanded {} Tryz.checked os 4 .any (fun w args => (Rows.secFlowsSpec.pre enc Tryz.prog Tryz.f4 Rows.secFlowsRow.domain false w args ∧ laidMetH Tryz.prog laid5 w) ∧ sizedMet enc Tryz.prog Tryz.f4 (OpenSpec.ofChange Rows.secFlowsSpec) false w args)
      (Rows.secFlowsSpec.post enc Tryz.prog Tryz.f4 false true false false) := by
  refine returnsInHanded_of_change_and (C := Tryz.checked) (X := fun w _ => laidMetH Tryz.prog laid5 w) (fun _ _ _ hh h => h.of_heap hh) own started (by kernel_rfl) Tryz.func4
    (ChangeSpec.witness_shaped (enc := enc) (C := Tryz.checked) (os := os) (X := fun w _ => laidMetH Tryz.prog laid5 w) false (World.laidAll Tryz.prog os laid5) #[.int .u8 0, .int .u8 0, .bool false] 8 (World.laidAll_os _ _ _)
      (World.shaped_of_ZipB (by kernel_rfl) (by kernel_rfl)) (by kernel_rfl) (by kernel_rfl) (by kernel_rfl) (laid_met os _)) ?_
  intro W base args ds gs before hval0 hW hcnd _ hL _
  have hval : ∀ (j : Nat) t v, Tryz.f4.params[j]? = some t → args[j]? = some v → Value.okWide Tryz.prog W .any base t v := hval0
  have hW' := hW
  obtain ⟨p, q, hA0, hV, rfl, hfz, hnd⟩ := hW
  have hA : DataW.TrodAll enc Tryz.prog W 0 (fun _ => true) true Tryz.f4.params.toList args.toList ds p := hA0
  rw [Tryz.params4] at hA hval
  obtain ⟨v0, vs0, d0, ds0, p0, q0, hargs, rfl, rfl, h0, r0⟩ := trodAll_cons hA
  obtain ⟨v1, vs1, d1, ds1, p1, q1, rfl, rfl, rfl, h1, r1⟩ := trodAll_cons r0
  obtain ⟨v2, vs2, d2, ds2, p2, q2, rfl, rfl, rfl, h2, r2⟩ := trodAll_cons r1
  obtain ⟨rfl, rfl, rfl⟩ := trodAll_nil r2
  obtain rfl : args = #[v0, v1, v2] := by cases args; simp_all
  obtain ⟨rfl, rfl⟩ := trodVars_none hV
  obtain ⟨a0, rfl, rfl, rfl, w0⟩ := open_int Tryz.underlying5 (hval 0 5 v0 rfl rfl) h0
  obtain ⟨a1, rfl, rfl, rfl, w1⟩ := open_int Tryz.underlying5 (hval 1 5 v1 rfl rfl) h1
  obtain ⟨a2, rfl, rfl, rfl⟩ := open_bool Tryz.underlying4 (hval 2 4 v2 rfl rfl) h2
  clear hA0 hval0
  refine (walk a0 a1 a2 W hL w0 w1).mono fun e W' ⟨he, bel⟩ => ?_
  subst he
  exact ⟨_, rfl, _, _, _, [], _, [], hW', trodAll_mk1 (shut_bool Tryz.underlying4 _), (trodAll_cons_mk (shut_int Tryz.underlying5 w0) (trodAll_cons_mk (shut_int Tryz.underlying5 w1) (trodAll_cons_mk (shut_bool Tryz.underlying4 _) trodAll_mk0))), rfl, bel.frame _, fun h => by cases h⟩

theorem over : Rows.secFlowsRow.holds Tryz.pinned (OpenSpec.ofChange Rows.secFlowsSpec) :=
  OpenClaim.holds_of_wide 4 Tryz.f4 rfl rfl rfl rfl rfl rfl rfl ⟨rfl, rfl, rfl, rfl, rfl⟩ rfl rfl rfl rfl rfl (by kernel_rfl) Tryz.func4 (by kernel_rfl)
    (of_decide_eq_true (by kernel_rfl)) (by unfold Func.isWrapper; first | (rw [if_pos (by decide +kernel)]; kernel_rfl) | (rw [if_neg (by decide +kernel)]; exact ⟨rfl, rfl⟩))
    (fun os started H enc _ => lifted os started H enc)

theorem card : Rows.SecFlowsCardSaid :=
  Claim7.holds_tied_plain_at .later [] [.data, .data, .data, .data, .pinned] true (true, "04ae3fc3dc5a8e6fe1410db1e8238dc7fd8842678aa266e58129bd7f5892d6a2") true over (fun _ h => by cases h) (by kernel_rfl) (fun _ h => by cases h) secFlows_row_tie rfl ⟨rfl, rfl⟩ (by kernel_rfl) rfl
    (fun f fn hf hfn => by
      obtain rfl : f = 4 := Option.some.inj ((show Tryz.prog.funcNamed "caponier/caponierlaw11.SecFlows" = some 4 by kernel_rfl).symm.trans hf) |>.symm
      obtain rfl : fn = Tryz.f4 := (Option.some.inj (Tryz.func4.symm.trans hfn)).symm
      exact ⟨by kernel_rfl, fun j t ht => by
        rw [Tryz.params4] at ht
        have hm : t ∈ [5, 5, 4] := by simpa using Array.mem_of_getElem? ht
        have hall : ([5, 5, 4].all fun u => !Tryz.prog.wantsStandIn u) = true := by kernel_rfl
        have h2 := List.all_eq_true.1 hall t hm
        show Tryz.prog.wantsStandIn t = false
        simpa using h2⟩)
    (by kernel_rfl)
end Go.Proofs.YtfmdgjnjfmgbmaaGreatDoor.SecFlows
namespace Go.Proofs.YtfmdgjnjfmgbmaaGreatDoor
/-- The card, under a short name, for the claim. -/
theorem secFlows_card : Rows.SecFlowsCardSaid := SecFlows.card
#print axioms secFlows_card
end Go.Proofs.YtfmdgjnjfmgbmaaGreatDoor
