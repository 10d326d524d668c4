/-
  SecCosts: for every two bytes the law answers yes. Conditions: the row's own (the listed variables hold what the program's text lays; the card ties them).
-/
import Derived.Test.YtfmdgjnjfmgbmaaGreatDoorSecCosts3
import Derived.Test.YtfmdgjnjfmgbmaaGreatDoorSecCRow
namespace Go.Proofs.YtfmdgjnjfmgbmaaGreatDoor.SecCosts
open Go.ChangeShapes Go.WideShapes Go.ChangeAt Go.RowKit Go.Abs
set_option maxRecDepth 100000
set_option linter.unusedVariables false

theorem rel_n [Syms] {M : Mem} {a lo hi : Int} {fs : List (Poly × Int × Int)} (ha : 0 ≤ a ∧ a ≤ 255) (hs : Syms.a = 1 + a % 64) (h : lo ≤ a % 64 ∧ a % 64 ≤ hi) (hf : Facts fs) : Rel M nowhere (SeatC.cn lo hi fs) (.int .u8 a) := by
  simp only [SeatC.cn, Rel]
  refine ⟨a, rfl, ha.1, ha.2, ?_, ?_, ?_, hf⟩
  · rw [Int.tmod_eq_emod_of_nonneg ha.1]; simp only [Poly.at, hs]; omega
  · simp only [Poly.at, hs]; omega
  · simp only [Poly.at, hs]; omega

theorem rel_m [Syms] {M : Mem} {a lo hi : Int} {fs : List (Poly × Int × Int)} (ha : 0 ≤ a ∧ a ≤ 255) (hs : Syms.b = 1 + a % 64) (h : lo ≤ a % 64 ∧ a % 64 ≤ hi) (hf : Facts fs) : Rel M nowhere (SeatC.cm lo hi fs) (.int .u8 a) := by
  simp only [SeatC.cm, Rel]
  refine ⟨a, rfl, ha.1, ha.2, ?_, ?_, ?_, hf⟩
  · rw [Int.tmod_eq_emod_of_nonneg ha.1]; simp only [Poly.at, hs]; omega
  · simp only [Poly.at, hs]; omega
  · simp only [Poly.at, hs]; omega

theorem walk (a b : Int) (W : World) (hL : laidMetH Tryz.prog laid5 W) (wa : (Lit.int .u8 a).wf = true) (wb : (Lit.int .u8 b).wf = true) :
    Calls Tryz.prog 3 #[.int .u8 a, .int .u8 b] W fun e w' => e = .returned (.bool true) ∧ Below W.heap.size W w' := by
  have ha : 0 ≤ a ∧ a ≤ 255 := by
    simp [Lit.wf, IntKind.min, IntKind.max, IntKind.bits, IntKind.signed] at wa
    omega
  have hb : 0 ≤ b ∧ b ≤ 255 := by
    simp [Lit.wf, IntKind.min, IntKind.max, IntKind.bits, IntKind.signed] at wb
    omega
  letI sy : Syms := ⟨1 + a % 64, 1 + b % 64⟩
  have key : ∀ p ∈ SeatC.costsT, RelL (memOf W) nowhere p.1 [.int .u8 a, .int .u8 b] → V.imm.imms p.1 = true →
      Calls Tryz.prog 3 #[.int .u8 a, .int .u8 b] W fun e w' => e = .returned (.bool true) ∧ Below W.heap.size W w' := by
    intro p hp hr hi
    refine (calls_of_pure SeatC.costs_pure (SeatC.H4.fnOk 3 (by kernel_rfl)) (globs hL) (args := p.1) (cargs := [.int .u8 a, .int .u8 b]) hi hr (r := .bool true) (SeatC.V.eqF_refl_cc p hp)).mono ?_
    rintro e w' ⟨c, rfl, hb, M, hr⟩
    simp only [Rel] at hr
    exact ⟨by rw [hr], hb⟩
  have nofact : Facts [] := fun f h => nomatch h
  have two : ∀ (lo hi lo' hi' : Int) (fs : List (Poly × Int × Int)), lo ≤ a % 64 ∧ a % 64 ≤ hi → lo' ≤ b % 64 ∧ b % 64 ≤ hi' → Facts fs → RelL (memOf W) nowhere [SeatC.cn lo hi fs, SeatC.cm lo' hi' fs] [.int .u8 a, .int .u8 b] := by
    intro lo hi lo' hi' fs h1 h2 hf
    simp only [RelL]
    exact ⟨_, _, rfl, rel_n ha rfl h1 hf, _, _, rfl, rel_m hb rfl h2 hf, rfl⟩
  have fact : ∀ lo hi : Int, lo ≤ 1 + 2 * (1 + a % 64) + 3 * ((1 + a % 64) * (1 + b % 64)) ∧ 1 + 2 * (1 + a % 64) + 3 * ((1 + a % 64) * (1 + b % 64)) ≤ hi → Facts [((⟨1, 2, 0, 3⟩ : Poly), lo, hi)] := by
    intro lo hi h f hf
    simp only [List.mem_cons, List.not_mem_nil, or_false] at hf
    subst hf
    have e : (⟨1, 2, 0, 3⟩ : Poly).at = 1 + 2 * (1 + a % 64) + 3 * ((1 + a % 64) * (1 + b % 64)) := by
      show (1 : Int) + 2 * (1 + a % 64) + 0 * (1 + b % 64) + 3 * ((1 + a % 64) * (1 + b % 64)) = _
      omega
    rw [e]
    exact h
  have hprod : (1 + a % 64) * (1 + b % 64) ≤ 64 * 64 := Int.mul_le_mul (by omega) (by omega) (by omega) (by omega)
  have hpos : 0 ≤ (1 + a % 64) * (1 + b % 64) := Int.mul_nonneg (by omega) (by omega)
  generalize hq : (1 + a % 64) * (1 + b % 64) = q at fact hprod hpos
  by_cases a9 : a % 64 ≤ 8
  · by_cases b9 : b % 64 ≤ 8
    · exact key (SeatC.cc1, .bool true) (by simp [SeatC.costsT]) (two 0 8 0 8 [] (by omega) (by omega) nofact) rfl
    · exact key (SeatC.cc2, .bool true) (by simp [SeatC.costsT]) (two 0 8 9 63 [] (by omega) (by omega) nofact) rfl
  · by_cases b9 : b % 64 ≤ 8
    · exact key (SeatC.cc3, .bool true) (by simp [SeatC.costsT]) (two 9 63 0 8 [] (by omega) (by omega) nofact) rfl
    · by_cases c1 : 1 + 2 * (1 + a % 64) + 3 * q ≤ 3998
      · exact key (SeatC.cc4, .bool true) (by simp [SeatC.costsT]) (two 9 63 9 63 _ (by omega) (by omega) (fact 0 3998 (by omega))) rfl
      · by_cases c2 : 1 + 2 * (1 + a % 64) + 3 * q ≤ 4000
        · exact key (SeatC.cc5, .bool true) (by simp [SeatC.costsT]) (two 9 63 9 63 _ (by omega) (by omega) (fact 3999 4000 (by omega))) rfl
        · exact key (SeatC.cc6, .bool true) (by simp [SeatC.costsT]) (two 9 63 9 63 _ (by omega) (by omega) (fact 4001 100000 (by omega))) rfl

theorem lifted (os : Os) (started : os.Started) (H : Type) (enc : TypeId × Value → H) :
    ReturnsInHanded {} Tryz.checked os 3 .any (fun w args => (Rows.secCostsSpec.pre enc Tryz.prog Tryz.f3 Rows.secCostsRow.domain false w args ∧ laidMetH Tryz.prog laid5 w) ∧ sizedMet enc Tryz.prog Tryz.f3 (OpenSpec.ofChange Rows.secCostsSpec) false w args)
      (Rows.secCostsSpec.post enc Tryz.prog Tryz.f3 false true false false) := by
  refine returnsInHanded_of_change_and (C := Tryz.checked) (X := fun w _ => laidMetH Tryz.prog laid5 w) (fun _ _ _ hh h => h.of_heap hh) own started (by kernel_rfl) Tryz.func3
    (ChangeSpec.witness_shaped (enc := enc) (C := Tryz.checked) (os := os) (X := fun w _ => laidMetH Tryz.prog laid5 w) false (World.laidAll Tryz.prog os laid5) #[.int .u8 0, .int .u8 0] 8 (World.laidAll_os _ _ _)
      (World.shaped_of_ZipB (by kernel_rfl) (by kernel_rfl)) (by kernel_rfl) (by kernel_rfl) (by kernel_rfl) (laid_met os _)) ?_
  intro W base args ds gs before hval0 hW hcnd _ hL _
  have hval : ∀ (j : Nat) t v, Tryz.f3.params[j]? = some t → args[j]? = some v → Value.okWide Tryz.prog W .any base t v := hval0
  have hW' := hW
  obtain ⟨p, q, hA0, hV, rfl, hfz, hnd⟩ := hW
  have hA : DataW.TrodAll enc Tryz.prog W 0 (fun _ => true) true Tryz.f3.params.toList args.toList ds p := hA0
  rw [Tryz.params3] at hA hval
  obtain ⟨v0, vs0, d0, ds0, p0, q0, hargs, rfl, rfl, h0, r0⟩ := trodAll_cons hA
  obtain ⟨v1, vs1, d1, ds1, p1, q1, rfl, rfl, rfl, h1, r1⟩ := trodAll_cons r0
  obtain ⟨rfl, rfl, rfl⟩ := trodAll_nil r1
  obtain rfl : args = #[v0, v1] := by cases args; simp_all
  obtain ⟨rfl, rfl⟩ := trodVars_none hV
  obtain ⟨a0, rfl, rfl, rfl, w0⟩ := open_int Tryz.underlying5 (hval 0 5 v0 rfl rfl) h0
  obtain ⟨a1, rfl, rfl, rfl, w1⟩ := open_int Tryz.underlying5 (hval 1 5 v1 rfl rfl) h1
  clear hA0 hval0
  refine (walk a0 a1 W hL w0 w1).mono fun e W' ⟨he, bel⟩ => ?_
  subst he
  exact ⟨_, rfl, _, _, _, [], _, [], hW', trodAll_mk1 (shut_bool Tryz.underlying4 _), (trodAll_cons_mk (shut_int Tryz.underlying5 w0) (trodAll_cons_mk (shut_int Tryz.underlying5 w1) trodAll_mk0)), rfl, bel.frame _, fun h => by cases h⟩

theorem over : Rows.secCostsRow.holds Tryz.pinned (OpenSpec.ofChange Rows.secCostsSpec) :=
  OpenClaim.holds_of_wide 3 Tryz.f3 rfl rfl rfl rfl rfl rfl rfl ⟨rfl, rfl, rfl, rfl, rfl⟩ rfl rfl rfl rfl rfl (by kernel_rfl) Tryz.func3 (by kernel_rfl)
    (of_decide_eq_true (by kernel_rfl)) (by unfold Func.isWrapper; first | (rw [if_pos (by decide +kernel)]; kernel_rfl) | (rw [if_neg (by decide +kernel)]; exact ⟨rfl, rfl⟩))
    (fun os started H enc _ => lifted os started H enc)

theorem card : Rows.SecCostsCardSaid :=
  Claim7.holds_tied_plain_at .later [] [.data, .data, .data, .data, .pinned] true (true, "04ae3fc3dc5a8e6fe1410db1e8238dc7fd8842678aa266e58129bd7f5892d6a2") true over (fun _ h => by cases h) (by kernel_rfl) (fun _ h => by cases h) secCosts_row_tie rfl ⟨rfl, rfl⟩ (by kernel_rfl) rfl
    (fun f fn hf hfn => by
      obtain rfl : f = 3 := Option.some.inj ((show Tryz.prog.funcNamed "caponier/caponierlaw11.SecCosts" = some 3 by kernel_rfl).symm.trans hf) |>.symm
      obtain rfl : fn = Tryz.f3 := (Option.some.inj (Tryz.func3.symm.trans hfn)).symm
      exact ⟨by kernel_rfl, fun j t ht => by
        rw [Tryz.params3] at ht
        have hm : t ∈ [5, 5] := by simpa using Array.mem_of_getElem? ht
        have hall : ([5, 5].all fun u => !Tryz.prog.wantsStandIn u) = true := by kernel_rfl
        have h2 := List.all_eq_true.1 hall t hm
        show Tryz.prog.wantsStandIn t = false
        simpa using h2⟩)
    (by kernel_rfl)
end Go.Proofs.YtfmdgjnjfmgbmaaGreatDoor.SecCosts
namespace Go.Proofs.YtfmdgjnjfmgbmaaGreatDoor
/-- The card, under a short name, for the claim. -/
theorem secCosts_card : Rows.SecCostsCardSaid := SecCosts.card
#print axioms secCosts_card
end Go.Proofs.YtfmdgjnjfmgbmaaGreatDoor
