/-
  Abs30, Abs31, Abs32, put together in one file.
-/
import Derived.Test.YtfmdgjnjfmgbmaaGreatDoorAbsGf
import Derived.Lib.Bytealg
/-
  ABS, part 30: a run that answers by a truth value tells as one that answers by a proposition.
-/
namespace Go.Abs
set_option maxHeartbeats 1000000
open Go Go.RowKit
set_option linter.unusedSectionVars false
variable [Syms]

abbrev CallB (Ω : Type) := FuncId → List V → Heap → Nat → (End → Heap → Nat → Ω) → Ω

/-- What one call answers the other holds. -/
def CallBP {Ω : Type} (H : Ω → Prop) (cb : CallB Ω) (cp : CallF) : Prop := ∀ f args h nid (Kb : End → Heap → Nat → Ω) (Kp : End → Heap → Nat → Prop), (∀ e h nid, H (Kb e h nid) → Kp e h nid) → H (cb f args h nid Kb) → cp f args h nid Kp

/-- The same for what is yielded. -/
def YldBP {Ω : Type} (H : Ω → Prop) (yb : Yld Ω) (yp : Yld Prop) : Prop := ∀ b args h nid (Kb : End → Heap → Nat → Ω) (Kp : End → Heap → Nat → Prop), (∀ e h nid, H (Kb e h nid) → Kp e h nid) → H (yb b args h nid Kb) → yp b args h nid Kp

/-- Answers that hold. -/
structure Holds {Ω : Type} [Ans Ω] (H : Ω → Prop) : Prop where
  ff : ¬ H Ans.ff
  all : ∀ l, H (Ans.all l) → ∀ x ∈ l, H x

section
variable {Ω : Type} [Ans Ω] {H : Ω → Prop} (hH : Holds H) {cx : Ctx} {cb : CallB Ω} {cp : CallF} {yb : Yld Ω} {yp : Yld Prop}
include hH

theorem evOps_bp (hc : CallBP H cb cp) (hy : YldBP H yb yp) : ∀ (l : List O) (st : FSt) (Kb : Ex → FSt → Ω) (Kp : Ex → FSt → Prop), (∀ x st, H (Kb x st) → Kp x st) → H (evOps cb yb l st Kb) → evOps cp yp l st Kp
  | [], st, Kb, Kp, hK, h => hK _ _ h
  | o :: l, st, Kb, Kp, hK, h => by
    unfold evOps at h ⊢
    split
    · rename_i hw
      rw [if_pos hw] at h
      split
      · rename_i f args ho
        simp only [ho] at h
        split
        · rename_i f' args' hr
          simp only [hr] at h
          refine hc _ _ _ _ _ _ (fun e h nid he => ?_) h
          cases e with
          | returned v => exact evOps_bp hc hy l _ Kb Kp hK he
          | panicked ch => exact hK _ _ he
        · rename_i hr
          simp only [hr] at h
          split
          · rename_i b hb
            simp only [hb] at h
            refine hy _ _ _ _ _ _ (fun e h nid he => ?_) h
            cases e with
            | returned v => exact evOps_bp hc hy l _ Kb Kp hK he
            | panicked ch => exact hK _ _ he
          · rename_i hb; simp only [hb] at h; exact absurd h hH.ff
      · rename_i x ho
        simp only [ho] at h
        split
        · rename_i hr; simp only [hr] at h; exact hK _ _ h
        · split at h
          · rename_i hr _ _ _ hv; exact absurd hv (hr _ _)
          · exact absurd h hH.ff
      · rename_i f args ho
        simp only [ho] at h
        split
        · rename_i hr; simp only [hr] at h; exact evOps_bp hc hy l _ Kb Kp hK h
        · rename_i hr; simp only [hr] at h; exact absurd h hH.ff
      · rename_i ho; simp only [ho] at h; exact absurd h hH.ff
      · rename_i it ho
        simp only [ho] at h
        split
        · rename_i cs hr
          simp only [hr] at h
          intro p hp
          obtain ⟨c, hcm, rfl⟩ := List.mem_map.1 hp
          refine evOps_bp hc hy l _ Kb Kp hK ?_
          have := hH.all _ h _ (List.mem_map.2 ⟨c, hcm, rfl⟩)
          exact this
        · rename_i hr; simp only [hr] at h; exact absurd h hH.ff
      · rename_i i h1 h2 h3 h4 h5
        split at h
        · rename_i ho; exact absurd ho (h1 _ _)
        · rename_i ho; exact absurd ho (h2 _)
        · rename_i ho; exact absurd ho (h3 _ _)
        · rename_i ho; exact absurd ho h4
        · rename_i ho; exact absurd ho (h5 _)
        · split
          · rename_i hr; simp only [hr] at h; exact evOps_bp hc hy l _ Kb Kp hK h
          · rename_i hr; simp only [hr] at h; exact absurd h hH.ff
    · rename_i hw
      rw [if_neg hw] at h
      exact evOps_bp hc hy l _ Kb Kp hK h

theorem iter_bp {rb : FSt → (Ex → FSt → Ω) → Ω} {rp : FSt → (Ex → FSt → Prop) → Prop} (hr : ∀ st (Kb : Ex → FSt → Ω) (Kp : Ex → FSt → Prop), (∀ x st, H (Kb x st) → Kp x st) → H (rb st Kb) → rp st Kp) :
    ∀ (m : Nat) (st : FSt) (Kb : Ex → FSt → Ω) (Kp : Ex → FSt → Prop), (∀ x st, H (Kb x st) → Kp x st) → H (iter rb m st Kb) → iter rp m st Kp
  | 0, _, _, _, _, h => by exact absurd h hH.ff
  | m + 1, st, Kb, Kp, hK, h => hr _ _ _ (fun x st hx => by
      cases x with
      | normal => exact iter_bp hr m _ _ _ hK hx
      | _ => exact hK _ _ hx) h

theorem passes_bp {l : Nat} {rb : FSt → (Ex → FSt → Ω) → Ω} {rp : FSt → (Ex → FSt → Prop) → Prop} (hr : ∀ st (Kb : Ex → FSt → Ω) (Kp : Ex → FSt → Prop), (∀ x st, H (Kb x st) → Kp x st) → H (rb st Kb) → rp st Kp) :
    ∀ (m : Nat) (st : FSt) (Kb : Ex → FSt → Ω) (Kp : Ex → FSt → Prop), (∀ x st, H (Kb x st) → Kp x st) → H (passes l rb m st Kb) → passes l rp m st Kp
  | 0, _, _, _, _, h => by exact absurd h hH.ff
  | m + 1, st, Kb, Kp, hK, h => hr _ _ _ (fun x st hx => by
      cases x with
      | goto l' =>
        simp only at hx ⊢
        split
        · rename_i e; rw [if_pos e] at hx; exact passes_bp hr m _ _ _ hK hx
        · rename_i e; rw [if_neg e] at hx; exact absurd hx hH.ff
      | _ => exact hK _ _ hx) h

theorem callOp_bp (hc : CallBP H cb cp) (n : Nat) (o : O) (st : FSt) (kb : FSt → Ω) (kp : FSt → Prop) (Kb' : Ex → FSt → Ω) (Kp' : Ex → FSt → Prop) (hk : ∀ s, H (kb s) → kp s) (hK' : ∀ x s, H (Kb' x s) → Kp' x s) (h : H (callOp cb n o st kb Kb')) : callOp cp n o st kp Kp' := by
  unfold callOp at h ⊢
  split
  · rename_i hw
    rw [if_pos hw] at h
    split
    · rename_i f args hi
      simp only [hi] at h
      split
      · rename_i f' args' hr
        simp only [hr] at h
        refine hc _ _ _ _ _ _ (fun e h nid he => ?_) h
        cases e with
        | returned v => exact hk _ he
        | panicked ch => exact hK' _ _ he
      · rename_i hr; simp only [hr] at h; exact absurd h hH.ff
    · rename_i hi
      split at h
      · rename_i hi2; exact absurd hi2 (hi _ _)
      · exact absurd h hH.ff
  · rename_i hw; rw [if_neg hw] at h; exact hk _ h

theorem walk_bp (hc : CallBP H cb cp) {z : List (O × List Nat)} {n : Nat} {Kb : Ex → FSt → Ω} {Kp : Ex → FSt → Prop} (hK : ∀ x st, H (Kb x st) → Kp x st) : ∀ (fuel : Nat) (R : List Nat) (st : FSt), H (walk cx cb z n Kb fuel R st) → walk cx cp z n Kp fuel R st
  | 0, R, st, h => absurd h hH.ff
  | fuel + 1, R, st, h => by
    have one : ∀ c o, H (walkOne cx cb z n Kb (walk cx cb z n Kb fuel) R st c o) → walkOne cx cp z n Kp (walk cx cp z n Kp fuel) R st c o := fun c o h => by
      unfold walkOne at h ⊢
      split
      · rename_i hcond
        rw [if_pos hcond] at h
        split
        · rename_i p sA hp hsA
          simp only [hp, hsA] at h
          split
          · rename_i sB hsB
            simp only [hsB] at h
            refine callOp_bp hH hc _ _ _ _ _ _ _ (fun s hs => ?_) (fun x s hs => ?_) h
            · split
              · rename_i sF hsF
                simp only [hsF] at hs
                split
                · rename_i hsm; rw [if_pos hsm] at hs; exact walk_bp hc hK fuel _ _ hs
                · rename_i hsm; rw [if_neg hsm] at hs; exact absurd hs hH.ff
              · rename_i hsF; simp only [hsF] at hs; exact absurd hs hH.ff
            · split
              · rename_i he; rw [if_pos he] at hs; exact hK _ _ hs
              · rename_i he; rw [if_neg he] at hs; exact absurd hs hH.ff
          · rename_i hsB; simp only [hsB] at h; exact absurd h hH.ff
        · rename_i hno
          split at h
          · rename_i p sA hp hsA; exact absurd hsA (hno _ _ hp)
          · exact absurd h hH.ff
      · rename_i hcond; rw [if_neg hcond] at h; exact absurd h hH.ff
    simp only [walk] at h ⊢
    split
    · rename_i hf
      simp only [hf] at h
      split
      · rename_i s hs; simp only [hs] at h; exact hK _ _ h
      · rename_i hs; simp only [hs] at h; exact absurd h hH.ff
    · rename_i c hf
      simp only [hf] at h
      split
      · rename_i he; rw [if_pos he] at h; exact absurd h hH.ff
      · rename_i he
        rw [if_neg he] at h
        intro p hp
        obtain ⟨o, ho, rfl⟩ := List.mem_map.1 hp
        exact one c o (hH.all _ h _ (List.mem_map.2 ⟨o, ho, rfl⟩))

theorem rounds_bp {ra rb : FSt → (Ex → FSt → Ω) → Ω} {pa pb : FSt → (Ex → FSt → Prop) → Prop} (ha : ∀ st (Kb : Ex → FSt → Ω) (Kp : Ex → FSt → Prop), (∀ x st, H (Kb x st) → Kp x st) → H (ra st Kb) → pa st Kp)
    (hb : ∀ st (Kb : Ex → FSt → Ω) (Kp : Ex → FSt → Prop), (∀ x st, H (Kb x st) → Kp x st) → H (rb st Kb) → pb st Kp) (hy : YldBP H yb yp) (b : Nat) (ps : List Nat) (env : Env) : YldBP H (rounds ra rb b ps env yb) (rounds pa pb b ps env yp) := by
  intro l vs h nid Kb Kp hK hk
  simp only [rounds] at hk ⊢
  split
  · rename_i e
    rw [if_pos e] at hk
    split
    · rename_i c
      rw [if_pos c] at hk
      refine ha _ _ _ (fun x s hx => ?_) hk
      cases x with
      | normal =>
        simp only at hx ⊢
        split
        · rename_i c2
          rw [if_pos c2] at hx
          refine hb _ _ _ (fun x s hx => ?_) hx
          cases x with
          | normal =>
            simp only at hx ⊢
            split
            · rename_i c3; rw [if_pos c3] at hx; exact hK _ _ _ hx
            · rename_i c3; rw [if_neg c3] at hx; exact absurd hx hH.ff
          | _ => exact absurd hx hH.ff
        · rename_i c2; rw [if_neg c2] at hx; exact absurd hx hH.ff
      | _ => exact absurd hx hH.ff
    · rename_i c; rw [if_neg c] at hk; exact absurd hk hH.ff
  · rename_i e
    rw [if_neg e] at hk
    exact hy _ _ _ _ _ _ hK hk

theorem evC_bp {cb : Yld Ω → CallB Ω} {cp : Yld Prop → CallF} (hc : ∀ yb yp, YldBP H yb yp → CallBP H (cb yb) (cp yp)) (hy : YldBP H yb yp) (m : Nat) : ∀ (c : C) (st : FSt) (Kb : Ex → FSt → Ω) (Kp : Ex → FSt → Prop), (∀ x st, H (Kb x st) → Kp x st) → H (evC cx cb yb m c st Kb) → evC cx cp yp m c st Kp
  | .skip, st, Kb, Kp, hK, h => hK _ _ h
  | .ops l, st, Kb, Kp, hK, h => evOps_bp hH (hc _ _ hy) hy l st Kb Kp hK h
  | .drawn l t, st, Kb, Kp, hK, h => by
    simp only [evC] at h ⊢
    split
    · rename_i hr; simp only [hr] at h; exact evOps_bp hH (hc _ _ hy) hy t _ Kb Kp hK h
    · rename_i hr
      simp only [hr] at h
      refine walk_bp hH (hc _ _ hy) (fun x s hx => ?_) _ _ _ h
      cases x with
      | normal => exact evOps_bp hH (hc _ _ hy) hy t _ Kb Kp hK hx
      | _ => exact hK _ _ hx
  | .seq a b, st, Kb, Kp, hK, h => by
    simp only [evC] at h ⊢
    refine evC_bp hc hy m a st _ _ (fun x st hx => ?_) h
    cases x with
    | normal => exact evC_bp hc hy m b _ _ _ hK hx
    | _ => exact hK _ _ hx
  | .cond q a b, st, Kb, Kp, hK, h => by
    simp only [evC] at h ⊢
    split
    · rename_i hr; simp only [hr] at h; exact evC_bp hc hy m a _ _ _ hK h
    · rename_i hr; simp only [hr] at h; exact evC_bp hc hy m b _ _ _ hK h
    · rename_i h1 h2
      split at h
      · rename_i hr; exact absurd hr h1
      · rename_i hr; exact absurd hr h2
      · exact absurd h hH.ff
  | .block id c, st, Kb, Kp, hK, h => by
    simp only [evC] at h ⊢
    refine evC_bp hc hy m c st _ _ (fun x st hx => ?_) h
    cases x with
    | exit j =>
      simp only at hx ⊢
      split
      · rename_i e; rw [if_pos e] at hx; exact hK _ _ hx
      · rename_i e; rw [if_neg e] at hx; exact hK _ _ hx
    | _ => exact hK _ _ hx
  | .loop c, st, Kb, Kp, hK, h => iter_bp hH (fun st Kb Kp hK h => evC_bp hc hy m c st Kb Kp hK h) m st Kb Kp hK h
  | .exit id, st, Kb, Kp, hK, h => hK _ _ h
  | .ret, st, Kb, Kp, hK, h => hK _ _ h
  | .label l, st, Kb, Kp, hK, h => hK _ _ h
  | .goto l, st, Kb, Kp, hK, h => hK _ _ h
  | .scope c l rest, st, Kb, Kp, hK, h => by
    simp only [evC] at h ⊢
    refine evC_bp hc hy m c st _ _ (fun x st hx => ?_) h
    cases x with
    | goto l' =>
      simp only at hx ⊢
      split
      · rename_i e; rw [if_pos e] at hx; exact passes_bp hH (fun st Kb Kp hK h => evC_bp hc hy m rest st Kb Kp hK h) m _ _ _ hK hx
      · rename_i e; rw [if_neg e] at hx; exact absurd hx hH.ff
    | _ => exact hK _ _ hx
  | .rangeF x ps a b, st, Kb, Kp, hK, h => by
    simp only [evC] at h ⊢
    split
    · rename_i f args hr
      simp only [hr] at h
      split
      · rename_i hs
        rw [if_pos hs] at h
        refine hc _ _ (rounds_bp hH (fun st Kb Kp hK h => evC_bp hc hy m a st Kb Kp hK h) (fun st Kb Kp hK h => evC_bp hc hy m b st Kb Kp hK h) hy _ _ _) _ _ _ _ _ _ (fun e hp nid he => ?_) h
        cases e with
        | returned v =>
          simp only at he ⊢
          split
          · rename_i e; rw [if_pos e] at he; exact hK _ _ he
          · rename_i e; rw [if_neg e] at he; exact absurd he hH.ff
        | panicked ch => exact absurd he hH.ff
      · rename_i hs; rw [if_neg hs] at h; exact absurd h hH.ff
    · rename_i hr; simp only [hr] at h; exact absurd h hH.ff

theorem leave_bp {rb : C → FSt → (Ex → FSt → Ω) → Ω} {rp : C → FSt → (Ex → FSt → Prop) → Prop} (hr : ∀ c st (Kb : Ex → FSt → Ω) (Kp : Ex → FSt → Prop), (∀ x st, H (Kb x st) → Kp x st) → H (rb c st Kb) → rp c st Kp) :
    ∀ (l : List Dfr) (u : Option (List V)) (h : Heap) (nid : Nat) (Kb : Option (List V) → Heap → Nat → Ω) (Kp : Option (List V) → Heap → Nat → Prop), (∀ u h nid, H (Kb u h nid) → Kp u h nid) → H (leave cx rb l u h nid Kb) → leave cx rp l u h nid Kp
  | [], u, h, nid, Kb, Kp, hK, hl => hK _ _ _ hl
  | .mark d :: l, u, h, nid, Kb, Kp, hK, hl => by
    simp only [leave] at hl ⊢
    split
    · rename_i e; rw [if_pos e] at hl; exact leave_bp hr l _ _ _ Kb Kp hK hl
    · rename_i e; rw [if_neg e] at hl; exact absurd hl hH.ff
  | .call f args :: l, u, h, nid, Kb, Kp, hK, hl => by
    have ha : ∀ (fn : AFn) (kb : Heap → Nat → Ω) (kp : Heap → Nat → Prop), (∀ h nid, H (kb h nid) → kp h nid) → ∀ x st, H (afterDfr fn kb x st) → afterDfr fn kp x st := fun fn kb kp hk x st hx => by
      have hret : H (match st.dfr with
          | [] => match results fn.results st.env st.h with
            | some _ => kb st.h st.nid
            | none => Ans.ff
          | _ => (Ans.ff : Ω)) → (match st.dfr with
          | [] => match results fn.results st.env st.h with
            | some _ => kp st.h st.nid
            | none => Ans.ff
          | _ => (Ans.ff : Prop)) := fun hx => by
        split
        · rename_i hd
          simp only [hd] at hx
          split
          · rename_i hr2; simp only [hr2] at hx; exact hk _ _ hx
          · rename_i hr2; simp only [hr2] at hx; exact absurd hx hH.ff
        · rename_i hd
          split at hx
          · rename_i hd'; exact absurd hd' hd
          · exact absurd hx hH.ff
      cases x with
      | normal => exact hret hx
      | ret => exact hret hx
      | panic _ => exact absurd hx hH.ff
      | exit _ => exact absurd hx hH.ff
      | goto _ => exact absurd hx hH.ff
    simp only [leave] at hl ⊢
    split
    · rename_i e; simp only [e] at hl; exact absurd hl hH.ff
    · rename_i fn e
      simp only [e] at hl
      split
      · rename_i p hp
        simp only [hp] at hl
        split
        · rename_i v hv
          simp only [hv] at hl
          exact hr _ _ _ _ (ha fn _ _ fun h nid hx => leave_bp hr l _ _ _ Kb Kp hK hx) hl
        · rename_i hv; simp only [hv] at hl; exact absurd hl hH.ff
      · rename_i hp
        simp only [hp] at hl
        exact hr _ _ _ _ (ha fn _ _ fun h nid hx => leave_bp hr l _ _ _ Kb Kp hK hx) hl

theorem cloneMap_bp {args : List V} {h : Heap} {nid : Nat} {Kb : End → Heap → Nat → Ω} {Kp : End → Heap → Nat → Prop} (hK : ∀ e h nid, H (Kb e h nid) → Kp e h nid) (hk : H (cloneMap args h nid Kb)) : cloneMap args h nid Kp := by
  unfold cloneMap at hk
  split at hk
  · rename_i t b
    simp only [cloneMap]
    cases e : h.get b with
    | none => rw [e] at hk; exact absurd hk hH.ff
    | some o =>
      rw [e] at hk
      cases o <;> first | exact hK _ _ _ hk | exact absurd hk hH.ff
  · exact absurd hk hH.ff

theorem callF_bp (m : Nat) : ∀ n yb yp, YldBP H yb yp → CallBP H (callF cx m n yb) (callF cx m n yp)
  | 0 => fun yb yp hy f args h nid Kb Kp hK hk => absurd hk hH.ff
  | n + 1 => fun yb yp hy f args h nid Kb Kp hK hk => by
    unfold callF at hk ⊢
    split
    · rename_i F hF
      simp only [hF] at hk
      split
      · rename_i hr; simp only [hr] at hk; exact hK _ _ _ hk
      · rename_i hr; simp only [hr] at hk; exact absurd hk hH.ff
    · rename_i hF
      simp only [hF] at hk
      split
      · rename_i hcl
        rw [if_pos hcl] at hk
        exact cloneMap_bp hH hK hk
      · rename_i hcl
        rw [if_neg hcl] at hk
        split
        · rename_i fn hfn
          simp only [hfn] at hk
          have hrun : ∀ c st (Kb : Ex → FSt → Ω) (Kp : Ex → FSt → Prop), (∀ x st, H (Kb x st) → Kp x st) → H (evC cx (callF cx m n) noYld m c st Kb) → evC cx (callF cx m n) noYld m c st Kp := fun c st Kb Kp hK hh => evC_bp hH (callF_bp m n) (fun _ _ _ _ _ _ _ h => absurd h hH.ff) m c st Kb Kp hK hh
          have hends : ∀ (e : Env) u h nid, H (ends fn e Kb u h nid) → ends fn e Kp u h nid := fun e u h nid hx => by
            cases u with
            | none =>
              simp only [ends] at hx ⊢
              split
              · rename_i hr; simp only [hr] at hx; exact hK _ _ _ hx
              · rename_i hr; simp only [hr] at hx; exact absurd hx hH.ff
            | some ch => exact hK _ _ _ hx
          refine evC_bp hH (callF_bp m n) hy m fn.body _ _ _ (fun x st hx => ?_) hk
          cases x with
          | normal => exact leave_bp hH hrun st.dfr _ _ _ _ _ (hends st.env) hx
          | ret => exact leave_bp hH hrun st.dfr _ _ _ _ _ (hends st.env) hx
          | panic ch => exact leave_bp hH hrun st.dfr _ _ _ _ _ (hends st.env) hx
          | exit id => exact absurd hx hH.ff
          | goto l => exact absurd hx hH.ff
        · rename_i hfn; simp only [hfn] at hk; exact absurd hk hH.ff
end

theorem noYld_bp {Ω : Type} [Ans Ω] {H : Ω → Prop} (hH : Holds H) : YldBP H noYld noYld := fun _ _ _ _ _ _ _ h => absurd h hH.ff

theorem holdsBool : Holds (fun b : Bool => b = true) := ⟨(fun h => by cases h), fun l h x hx => List.all_eq_true.1 h x hx⟩

/-- A run that is looked at by a test. -/
def testRun (cx : Ctx) (m n : Nat) (f : FuncId) (args : List V) (chk : V → Bool) : Bool :=
  callF (Ω := Bool) cx m n noYld f args .leaf 0 fun e h _ => match e with
    | .returned r => match reify h.get deep r with
      | some v => chk v
      | none => false
    | _ => false

theorem Tells.of_test {cx : Ctx} {m n : Nat} {f : FuncId} {args : List V} {v : V} {chk : V → Bool} (hchk : ∀ u, chk u = true → u = v) (h : testRun cx m n f args chk = true) : Tells cx f args v := by
  refine ⟨m, n, callF_bp holdsBool m n _ _ (noYld_bp holdsBool) _ _ _ _ _ _ (fun e hp nid he => ?_) h⟩
  cases e with
  | panicked ch => cases he
  | returned r =>
    simp only at he ⊢
    split at he
    · rename_i u hu; rw [hu, hchk u he]
    · cases he

def isTrue : V → Bool
  | .bool b => b
  | _ => false
theorem isTrue_eq : ∀ u, isTrue u = true → u = .bool true
  | .bool true, _ => rfl
  | .bool false, h => by cases h
  | .int .., h => by cases h
  | .str _, h => by cases h
  | .nilPtr, h => by cases h
  | .ptr .., h => by cases h
  | .rptr .., h => by cases h
  | .nilSlice, h => by cases h
  | .slice .., h => by cases h
  | .rslice .., h => by cases h
  | .nilMap, h => by cases h
  | .map _, h => by cases h
  | .rmap .., h => by cases h
  | .func .., h => by cases h
  | .nilFunc, h => by cases h
  | .iface .., h => by cases h
  | .nilIface, h => by cases h
  | .agg _, h => by cases h
  | .tuple _, h => by cases h
  | .sym _, h => by cases h
  | .sstr _, h => by cases h

mutual
/-- Are two values that lead nowhere the same? -/
def V.eqF : V → V → Bool
  | .bool a, .bool b => a == b
  | .int k a, .int l b => decide (k = l) && decide (a = b)
  | .str a, .str b => a == b
  | .sym a, .sym b => decide (a = b)
  | .sstr a, .sstr b => a == b
  | .nilPtr, .nilPtr => true
  | .nilSlice, .nilSlice => true
  | .nilMap, .nilMap => true
  | .nilFunc, .nilFunc => true
  | .nilIface, .nilIface => true
  | .agg a, .agg b => V.eqFs a b
  | .tuple a, .tuple b => V.eqFs a b
  | .iface t a, .iface u b => decide (t = u) && V.eqF a b
  | .rslice a o l c, .rslice b p m d => V.eqFs a b && decide (o = p) && decide (l = m) && decide (c = d)
  | _, _ => false
def V.eqFs : List V → List V → Bool
  | [], [] => true
  | a :: as, b :: bs => V.eqF a b && V.eqFs as bs
  | _, _ => false
end

mutual
theorem V.eqF_eq : ∀ (a b : V), V.eqF a b = true → a = b
  | .bool a, .bool b, h => by simp only [V.eqF, beq_iff_eq] at h; rw [h]
  | .int k a, .int l b, h => by simp only [V.eqF, Bool.and_eq_true, decide_eq_true_eq] at h; rw [h.1, h.2]
  | .str a, .str b, h => by simp only [V.eqF, beq_iff_eq] at h; rw [h]
  | .sym a, .sym b, h => by simp only [V.eqF, decide_eq_true_eq] at h; rw [h]
  | .sstr a, .sstr b, h => by simp only [V.eqF, beq_iff_eq] at h; rw [h]
  | .agg a, .agg b, h => by simp only [V.eqF] at h; rw [V.eqFs_eq a b h]
  | .tuple a, .tuple b, h => by simp only [V.eqF] at h; rw [V.eqFs_eq a b h]
  | .iface t a, .iface u b, h => by simp only [V.eqF, Bool.and_eq_true, decide_eq_true_eq] at h; rw [h.1, V.eqF_eq a b h.2]
  | .rslice a o l c, .rslice b p m d, h => by
    simp only [V.eqF, Bool.and_eq_true, decide_eq_true_eq] at h
    obtain ⟨⟨⟨h1, h2⟩, h3⟩, h4⟩ := h
    rw [V.eqFs_eq a b h1, h2, h3, h4]
  | .nilPtr, b, h => by cases b <;> first | rfl | (simp only [V.eqF] at h; cases h)
  | .nilSlice, b, h => by cases b <;> first | rfl | (simp only [V.eqF] at h; cases h)
  | .nilMap, b, h => by cases b <;> first | rfl | (simp only [V.eqF] at h; cases h)
  | .nilFunc, b, h => by cases b <;> first | rfl | (simp only [V.eqF] at h; cases h)
  | .nilIface, b, h => by cases b <;> first | rfl | (simp only [V.eqF] at h; cases h)
  | .ptr .., b, h => by cases b <;> (simp only [V.eqF] at h; cases h)
  | .rptr .., b, h => by cases b <;> (simp only [V.eqF] at h; cases h)
  | .slice .., b, h => by cases b <;> (simp only [V.eqF] at h; cases h)
  | .map .., b, h => by cases b <;> (simp only [V.eqF] at h; cases h)
  | .rmap .., b, h => by cases b <;> (simp only [V.eqF] at h; cases h)
  | .func .., b, h => by cases b <;> (simp only [V.eqF] at h; cases h)
theorem V.eqFs_eq : ∀ (a b : List V), V.eqFs a b = true → a = b
  | [], [], _ => rfl
  | a :: as, b :: bs, h => by
    simp only [V.eqFs, Bool.and_eq_true] at h
    rw [V.eqF_eq a b h.1, V.eqFs_eq as bs h.2]
  | [], _ :: _, h => by simp only [V.eqFs] at h; cases h
  | _ :: _, [], h => by simp only [V.eqFs] at h; cases h
end

/-! Summaries that the evaluator itself gives. -/
structure OptV where
  v : Option V

def OptV.same (a b : OptV) : Bool := match a.v, b.v with
  | some a, some b => V.eqF a b
  | _, _ => false

theorem OptV.same_eq {a b : OptV} (h : OptV.same a b = true) : a = b := by
  obtain ⟨a⟩ := a
  obtain ⟨b⟩ := b
  cases a <;> cases b <;> simp only [OptV.same] at h <;> first | (cases h; done) | skip
  rw [V.eqF_eq _ _ h]

instance : Ans OptV := ⟨⟨none⟩, fun l => match l with
  | [] => ⟨none⟩
  | x :: xs => if xs.all (OptV.same x) then x else ⟨none⟩⟩

theorem holdsV (v : V) : Holds (fun a : OptV => a = ⟨some v⟩) where
  ff h := by cases h
  all l h x hx := by
    cases l with
    | nil => cases hx
    | cons y ys =>
      have h' : (if ys.all (OptV.same y) then y else ⟨none⟩) = (⟨some v⟩ : OptV) := h
      split at h'
      · rename_i hall
        rcases List.mem_cons.1 hx with rfl | hx
        · exact h'
        · rw [← OptV.same_eq (List.all_eq_true.1 hall x hx)]; exact h'
      · cases h'

/-- A function's answer by a run of its own. -/
def auto (cx : Ctx) (m n : Nat) (f : FuncId) (args : List V) : Option V :=
  (callF (Ω := OptV) cx m n noYld f args .leaf 0 fun e h _ => match e with
    | .returned r => ⟨reify h.get deep r⟩
    | _ => ⟨none⟩).v

theorem Tells.of_auto {cx : Ctx} {m n : Nat} {f : FuncId} {args : List V} {v : V} (h : auto cx m n f args = some v) : Tells cx f args v := by
  have h' : (callF (Ω := OptV) cx m n noYld f args .leaf 0 fun e h _ => match e with
    | .returned r => ⟨reify h.get deep r⟩
    | _ => ⟨none⟩) = ⟨some v⟩ := by
    unfold auto at h
    rw [← h]
  refine ⟨m, n, callF_bp (holdsV v) m n _ _ (noYld_bp (holdsV v)) _ _ _ _ _ _ (fun e hp nid he => ?_) h'⟩
  cases e with
  | panicked ch => cases he
  | returned r =>
    simp only at he ⊢
    exact congrArg OptV.v he

theorem PureSpec.of_auto {P : Program} {gl : Nat → Option (List V)} {cx : Ctx} (hm : P.follows .mixedOrders = true) (H : CtxOk P gl cx) (m n : Nat) (f : FuncId) : PureSpec P gl f (auto cx m n f) :=
  PureSpec.of_tells H (drawn_ok hm H) fun _ _ _ h => Tells.of_auto h
end Go.Abs

/-
  ABS, part 31: a run in pieces: a piece's answer is the state behind it; operations whose value is known beforehand.
-/
namespace Go.Abs
open Go Go.RowKit
set_option linter.unusedSectionVars false
variable [Syms]

/-- A piece's answer: the state behind it. -/
structure OptS where
  v : Option (Ex × FSt)

instance : Ans OptS := ⟨⟨none⟩, fun l => match l with
  | [x] => x
  | _ => ⟨none⟩⟩

theorem holdsS (v : Ex × FSt) : Holds (fun a : OptS => a = ⟨some v⟩) where
  ff h := by cases h
  all l h x hx := by
    match l, h, hx with
    | [y], h, hx => rcases List.mem_singleton.1 hx with rfl; exact h
    | [], h, hx => cases hx
    | _ :: _ :: _, h, _ => cases h

section
variable (cx : Ctx) (m n : Nat)

/-- A piece. -/
def piece (c : C) (st : FSt) : OptS := evC (Ω := OptS) cx (callF cx m n) noYld m c st fun x s => ⟨some (x, s)⟩

def OptS.andThen (o : OptS) (f : FSt → OptS) : OptS := match o.v with
  | some (.normal, s) => f s
  | _ => ⟨none⟩

def OptS.test (o : OptS) (f : FSt → Bool) : Bool := match o.v with
  | some (.normal, s) => f s
  | _ => false

/-- The rest, looked at by a test. -/
def rest (c : C) (tb : Ex → FSt → Bool) (st : FSt) : Bool := evC (Ω := Bool) cx (callF cx m n) noYld m c st tb

variable {cx m n}

theorem piece_ok {c : C} {st s : FSt} (h : piece cx m n c st = ⟨some (.normal, s)⟩) {K : Ex → FSt → Prop} (hK : K .normal s) : evC (Ω := Prop) cx (callF cx m n) noYld m c st K := by
  refine evC_bp (holdsS (.normal, s)) (fun yb yp hy => callF_bp (holdsS (.normal, s)) m n yb yp hy) (noYld_bp (holdsS (.normal, s))) m c st _ K (fun x st' hx => ?_) h
  cases hx
  exact hK

theorem rest_ok {c : C} {tb : Ex → FSt → Bool} {st : FSt} (h : rest cx m n c tb st = true) : evC (Ω := Prop) cx (callF cx m n) noYld m c st fun x s => tb x s = true :=
  evC_bp holdsBool (fun yb yp hy => callF_bp holdsBool m n yb yp hy) (noYld_bp holdsBool) m c st _ _ (fun _ _ hx => hx) h

theorem test_some {o : OptS} {f : FSt → Bool} (h : o.test f = true) : ∃ s, o = ⟨some (.normal, s)⟩ ∧ f s = true := by
  obtain ⟨v⟩ := o
  unfold OptS.test at h
  split at h
  · rename_i s hs
    simp only at hs
    subst hs
    exact ⟨s, rfl, h⟩
  · cases h

theorem seq_piece {a b : C} {st s : FSt} {K : Ex → FSt → Prop} (h : piece cx m n a st = ⟨some (.normal, s)⟩) (hb : evC (Ω := Prop) cx (callF cx m n) noYld m b s K) : evC (Ω := Prop) cx (callF cx m n) noYld m (.seq a b) st K := by
  simp only [evC]
  exact piece_ok h hb

/-- One operation known beforehand. -/
theorem one_known {p p' r : C} {st : FSt} {tb : Ex → FSt → Bool} (h1 : piece cx m n p st = piece cx m n p' st) (h2 : (piece cx m n p' st).test (rest cx m n r tb) = true) :
    evC (Ω := Prop) cx (callF cx m n) noYld m (.seq p r) st fun x s => tb x s = true := by
  obtain ⟨s, hs, hr⟩ := test_some h2
  exact seq_piece (h1.trans hs) (rest_ok hr)

/-- Two of them. -/
theorem two_known {p p' q q' r : C} {st : FSt} {tb : Ex → FSt → Bool} (h1 : piece cx m n p st = piece cx m n p' st) (h2 : (piece cx m n p' st).andThen (piece cx m n q) = (piece cx m n p' st).andThen (piece cx m n q'))
    (h3 : (piece cx m n p' st).test (fun s => (piece cx m n q' s).test (rest cx m n r tb)) = true) :
    evC (Ω := Prop) cx (callF cx m n) noYld m (.seq p (.seq q r)) st fun x s => tb x s = true := by
  obtain ⟨s, hs, hr⟩ := test_some h3
  obtain ⟨s2, hs2, hr2⟩ := test_some hr
  rw [hs] at h2
  have h2' : piece cx m n q s = piece cx m n q' s := h2
  exact seq_piece (h1.trans hs) (seq_piece (h2'.trans hs2) (rest_ok hr2))
end

/-! Code's text, cut. -/
def spine : List C → C → C
  | [], c => c
  | x :: l, c => .seq x (spine l c)

def C.cut : Nat → C → List C × C
  | n + 1, .seq a b => (a :: (C.cut n b).1, (C.cut n b).2)
  | _, c => ([], c)

theorem spine_cut : ∀ (n : Nat) (c : C), spine (C.cut n c).1 (C.cut n c).2 = c
  | 0, c => rfl
  | n + 1, .seq a b => by simp only [C.cut, spine, spine_cut n b]
  | n + 1, .skip => rfl
  | n + 1, .ops _ => rfl
  | n + 1, .drawn .. => rfl
  | n + 1, .cond .. => rfl
  | n + 1, .block .. => rfl
  | n + 1, .loop _ => rfl
  | n + 1, .exit _ => rfl
  | n + 1, .ret => rfl
  | n + 1, .label _ => rfl
  | n + 1, .goto _ => rfl
  | n + 1, .scope .. => rfl
  | n + 1, .rangeF .. => rfl

/-- The first pieces of a text as one piece. -/
def C.front (n : Nat) (c : C) : C := spine (C.cut n c).1 .skip
def C.back (n : Nat) (c : C) : C := (C.cut n c).2

/-- Where a slot's value is known beforehand. -/
def C.known (d : Nat) (v : V) : C → C
  | .ops l => .ops (l.map fun o => if o.dst == some d then ⟨o.dst, .mov (.const v), o.guard⟩ else o)
  | .seq a b => .seq (a.known d v) (b.known d v)
  | c => c

section
variable {Ω : Type} [Ans Ω] {cx : Ctx} {call : Yld Ω → FuncId → List V → Heap → Nat → (End → Heap → Nat → Ω) → Ω} {yld : Yld Ω} {m : Nat}

theorem evC_spine : ∀ (l : List C) (c : C) (st : FSt) (K : Ex → FSt → Ω), evC cx call yld m (spine l c) st K = evC cx call yld m (.seq (spine l .skip) c) st K
  | [], c, st, K => by simp only [spine, evC]
  | x :: l, c, st, K => by
    simp only [spine, evC]
    congr 1
    funext x st
    cases x <;> simp only
    rw [evC_spine l c]
    simp only [evC]

theorem evC_cut (n : Nat) (c : C) (st : FSt) (K : Ex → FSt → Ω) : evC cx call yld m c st K = evC cx call yld m (.seq (c.front n) (c.back n)) st K := by
  conv => lhs; rw [← spine_cut n c]
  exact evC_spine _ _ _ _
end

/-- A function that answers yes, told at its way out. -/
def yes (rs : List RV) (x : Ex) (st : FSt) : Bool := match x with
  | .normal | .ret => match st.dfr with
    | [] => match results rs st.env st.h with
      | some v => match reify st.h.get deep v with
        | some v => isTrue v
        | none => false
      | none => false
    | _ => false
  | _ => false

theorem Tells.of_body {cx : Ctx} {m n : Nat} {f : FuncId} {fn : AFn} {args : List V} (hs : cx.sum f = none) (hcl : cx.clone f = false) (hf : cx.fn f = some fn)
    (h : evC (Ω := Prop) cx (callF cx m n) noYld m fn.body { env := initEnv 0 args .leaf, h := .leaf, nid := 0, dfr := [] } fun x s => yes fn.results x s = true) : Tells cx f args (.bool true) := by
  refine ⟨m, n + 1, ?_⟩
  simp only [callF, hs, hf, hcl, Bool.false_eq_true, if_false]
  refine evC_bp (Ω := Prop) (H := id) ⟨fun h => h, fun l h x hx => h x hx⟩ (fun yb yp hy => callF_bp (Ω := Prop) (H := id) ⟨fun h => h, fun l h x hx => h x hx⟩ m n yb yp hy) (fun _ _ _ _ _ _ _ h => h.elim) m fn.body _ _ _ (fun x s hx => ?_) h
  have hx' : yes fn.results x s = true := hx
  unfold yes at hx'
  have hret : (match s.dfr with
    | [] => match results fn.results s.env s.h with
      | some v => match reify s.h.get deep v with
        | some v => isTrue v
        | none => false
      | none => false
    | _ => false) = true → leave cx (fun c st K => evC cx (callF cx m n) noYld m c st K) s.dfr none s.h s.nid (ends fn s.env fun e h _ => match e with
        | .returned r => reify h.get deep r = some (.bool true)
        | _ => (Ans.ff : Prop)) := fun hx => by
    cases hd : s.dfr with
    | cons _ _ => rw [hd] at hx; cases hx
    | nil =>
      rw [hd] at hx
      simp only at hx
      cases hv : results fn.results s.env s.h with
      | none => rw [hv] at hx; cases hx
      | some v =>
        rw [hv] at hx
        simp only at hx
        cases hu : reify s.h.get deep v with
        | none => rw [hu] at hx; cases hx
        | some u =>
          rw [hu] at hx
          simp only [leave, ends, hv]
          rw [hu, isTrue_eq u hx]
  cases x with
  | normal => exact hret hx'
  | ret => exact hret hx'
  | panic _ => cases hx'
  | exit _ => cases hx'
  | goto _ => cases hx'
end Go.Abs

/-
  ABS, part 32: a function of the model's own table: where a byte stands in a string.
-/
namespace Go.Abs
open Go Go.RowKit
set_option linter.unusedSectionVars false
variable [Syms]

def idxOf : List Nat → Nat → Int
  | [], _ => -1
  | b :: l, c => if b = c then 0 else if idxOf l c = -1 then -1 else idxOf l c + 1

theorem idxOf_eq : ∀ (l : List UInt8) (c : UInt8), Lib.indexByte l c = idxOf (l.map (·.toNat)) c.toNat
  | [], c => rfl
  | b :: l, c => by
    simp only [Lib.indexByte, idxOf, List.map_cons, idxOf_eq l c, beq_iff_eq, UInt8.toNat_inj]

def idxF : List V → Option V
  | [.str s, .int .u8 c] => some (.int .i64 (idxOf s c.toNat.toUInt8.toNat))
  | _ => none

theorem PureSpec.index {P : Program} {gl : Nat → Option (List V)} {f : FuncId} {fn : Func} (hf : P.funcs[f]? = some fn) (hname : (fn.name == "runtime.NumGoroutine") = false) (hb : fn.body.isNone = true) (hn : Extern.findNext fn = none)
    (he : Extern.find fn = some Extern.BytealgIndexByte.indexByte) : PureSpec P gl f idxF := by
  intro M args cargs r w G hok himm R hr
  unfold idxF at hr
  split at hr
  · rename_i s c
    cases hr
    simp only [RelL, Rel] at R
    obtain ⟨c1, cs1, rfl, ⟨bs, rfl, hbs⟩, c2, cs2, rfl, rfl, rfl⟩ := R
    refine .inr ⟨.int .i64 (Lib.indexByte bs.data.toList c.toNat.toUInt8), w, ?_, M, _, rfl, .refl M, .refl _ M, hok, .refl _ w, rfl, ?_⟩
    · rw [run_callFunc_extern hf hname hb hn he]
      have := Lib.run_indexByteString (P := P) bs c w
      simp only [List.toArray]
      erw [this]
      rfl
    · simp only [Rel]
      rw [idxOf_eq, ← hbs]
      rfl
  · cases hr
end Go.Abs
