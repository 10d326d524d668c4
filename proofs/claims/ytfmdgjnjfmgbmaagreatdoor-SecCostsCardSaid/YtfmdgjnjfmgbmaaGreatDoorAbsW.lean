/-
  ABS, part W: a region that holds calls which are not told by values: what is free of a call may be done ahead of it or behind it.
-/
import Derived.Test.YtfmdgjnjfmgbmaaGreatDoorAbs28
namespace Go.Abs
set_option maxHeartbeats 1000000
open Go Go.RowKit
set_option linter.unusedSectionVars false
variable [Syms]

/-! Equality of values. -/
mutual
theorem V.eqA_eq : ∀ (a b : V), V.eqA a b = true → a = b
  | .bool a, .bool b, h => by simp only [V.eqA, beq_iff_eq] at h; rw [h]
  | .int k a, .int l b, h => by simp only [V.eqA, Bool.and_eq_true, decide_eq_true_eq] at h; rw [h.1, h.2]
  | .str a, .str b, h => by simp only [V.eqA, beq_iff_eq] at h; rw [h]
  | .ptr a i, .ptr b j, h => by
    simp only [V.eqA, Bool.and_eq_true] at h
    rw [Nat.eq_of_beq_eq_true h.1, Nat.eq_of_beq_eq_true h.2]
  | .slice a o l c, .slice b p m d, h => by
    simp only [V.eqA, Bool.and_eq_true, decide_eq_true_eq] at h
    obtain ⟨⟨⟨h1, h2⟩, h3⟩, h4⟩ := h
    rw [Nat.eq_of_beq_eq_true h1, Nat.eq_of_beq_eq_true h2, Nat.eq_of_beq_eq_true h3, h4]
  | .map a, .map b, h => by simp only [V.eqA] at h; rw [Nat.eq_of_beq_eq_true h]
  | .func f a b, w, h => by
    cases f with
    | func f =>
      cases w with
      | func g c d =>
        cases g with
        | func g =>
          simp only [V.eqA, Bool.and_eq_true] at h
          rw [Nat.eq_of_beq_eq_true h.1.1, V.eqAs_eq a c h.1.2, V.eqAs_eq b d h.2]
        | _ => simp only [V.eqA] at h; cases h
      | _ => simp only [V.eqA] at h; cases h
    | _ => cases w <;> (simp only [V.eqA] at h; cases h)
  | .agg a, .agg b, h => by simp only [V.eqA] at h; rw [V.eqAs_eq a b h]
  | .tuple a, .tuple b, h => by simp only [V.eqA] at h; rw [V.eqAs_eq a b h]
  | .iface t a, .iface u b, h => by simp only [V.eqA, Bool.and_eq_true, decide_eq_true_eq] at h; rw [h.1, V.eqA_eq a b h.2]
  | .rslice a o l c, .rslice b p m d, h => by
    simp only [V.eqA, Bool.and_eq_true, decide_eq_true_eq] at h
    obtain ⟨⟨⟨h1, h2⟩, h3⟩, h4⟩ := h
    rw [V.eqAs_eq a b h1, h2, h3, h4]
  | .sym a, b, h => by cases b <;> first | (simp only [V.eqA, decide_eq_true_eq] at h; rw [h]; done) | (simp only [V.eqA] at h; cases h)
  | .sstr a, b, h => by cases b <;> first | (simp only [V.eqA, beq_iff_eq] at h; rw [h]; done) | (simp only [V.eqA] at h; cases h)
  | .nilPtr, b, h => by cases b <;> first | rfl | (simp only [V.eqA] at h; cases h)
  | .nilSlice, b, h => by cases b <;> first | rfl | (simp only [V.eqA] at h; cases h)
  | .nilMap, b, h => by cases b <;> first | rfl | (simp only [V.eqA] at h; cases h)
  | .nilFunc, b, h => by cases b <;> first | rfl | (simp only [V.eqA] at h; cases h)
  | .nilIface, b, h => by cases b <;> first | rfl | (simp only [V.eqA] at h; cases h)
  | .rptr .., b, h => by cases b <;> (simp only [V.eqA] at h; cases h)
  | .rmap .., b, h => by cases b <;> (simp only [V.eqA] at h; cases h)
theorem V.eqAs_eq : ∀ (a b : List V), V.eqAs a b = true → a = b
  | [], [], _ => rfl
  | a :: as, b :: bs, h => by
    simp only [V.eqAs, Bool.and_eq_true] at h
    rw [V.eqA_eq a b h.1, V.eqAs_eq as bs h.2]
  | [], _ :: _, h => by simp only [V.eqAs] at h; cases h
  | _ :: _, [], h => by simp only [V.eqAs] at h; cases h
end

theorem calm_cls {i : I} (h : i.calm = true) : i.cls = .pure ∨ i.cls = .read := by
  cases i <;> first | (cases h; done) | exact .inl rfl | exact .inr rfl

theorem conflict_comm {x y : O} (h : conflict x y = false) : conflict y x = false := by
  simp only [conflict, Bool.or_eq_false_iff] at h ⊢
  obtain ⟨⟨⟨⟨h1, h2⟩, h3⟩, h4⟩, h5⟩ := h
  refine ⟨⟨⟨⟨h2, h1⟩, ?_⟩, ?_⟩, ?_⟩
  · cases hx : x.dst <;> cases hy : y.dst <;> first | rfl | skip
    rw [hx, hy] at h3
    simp only [beq_eq_false_iff_ne, ne_eq] at h3 ⊢
    exact fun e => h3 e.symm
  · rw [Bool.and_comm]; exact h5
  · rw [Bool.and_comm]; exact h4

/-- What such a region's text is like. -/
structure Tidy (z : List (O × List Nat)) (n : Nat) : Prop where
  len : z.length = n
  lt : ∀ (i : Nat) p, z[i]? = some p → ∀ x ∈ p.2, x < i
  trans : ∀ (i : Nat) p x q, z[i]? = some p → x ∈ p.2 → z[x]? = some q → ∀ y ∈ q.2, y ∈ p.2
  apart : ∀ (i j : Nat) p q, z[i]? = some p → z[j]? = some q → j < i → conflict q.1 p.1 = false ∨ j ∈ p.2

theorem befOf_eq {z : List (O × List Nat)} {i : Nat} {p : O × List Nat} (h : z[i]? = some p) : befOf z i = p.2 := by simp only [befOf, h]
theorem callAt_eq {z : List (O × List Nat)} {i : Nat} {p : O × List Nat} (h : z[i]? = some p) : callAt z i = p.1.i.isCall := by simp only [callAt, h]
theorem dstOf_eq {z : List (O × List Nat)} {i : Nat} {p : O × List Nat} (h : z[i]? = some p) : dstOf z i = p.1.dst := by simp only [dstOf, h]

section
variable {cx : Ctx} {nid n : Nat} {z : List (O × List Nat)}

theorem Tidy.at (Z : Tidy z n) {i : Nat} (h : i < n) : ∃ p, z[i]? = some p := by
  have : i < z.length := by rw [Z.len]; exact h
  exact ⟨_, List.getElem?_eq_getElem this⟩

theorem Tidy.free (Z : Tidy z n) {i j : Nat} {p q : O × List Nat} (hi : z[i]? = some p) (hj : z[j]? = some q) (hne : j ≠ i) (h1 : j ∉ p.2) (h2 : i ∉ q.2) : conflict q.1 p.1 = false := by
  rcases Nat.lt_or_gt_of_ne hne with h | h
  · exact (Z.apart i j p q hi hj h).resolve_right h1
  · exact conflict_comm ((Z.apart j i q p hj hi h).resolve_right h2)

theorem actIdx_append {l1 l2 : List Nat} {s : Env × Heap} : actIdx cx nid n z (l1 ++ l2) s = (actIdx cx nid n z l1 s).bind (actIdx cx nid n z l2) := by
  induction l1 generalizing s with
  | nil => rfl
  | cons i l ih =>
    simp only [List.cons_append, actIdx]
    cases z[i]? with
    | none => rfl
    | some p =>
      simp only
      cases actOp cx nid n i p.1 p.2 s with
      | none => rfl
      | some s1 => simp only [Option.bind_some]; exact ih

theorem actIdx_cons {i : Nat} {l : List Nat} {p : O × List Nat} (h : z[i]? = some p) {s : Env × Heap} : actIdx cx nid n z (i :: l) s = (actOp cx nid n i p.1 p.2 s).bind (actIdx cx nid n z l) := by
  simp only [actIdx, h]

theorem pull_at (Z : Tidy z n) {i : Nat} {p : O × List Nat} (hz : z[i]? = some p) {l1 l2 : List Nat} {s fin : Env × Heap} (H : ∀ j ∈ l1, j < n ∧ j ≠ i ∧ j ∉ p.2 ∧ i ∉ befOf z j) (h : actIdx cx nid n z (l1 ++ i :: l2) s = some fin) :
    ∃ s', actOp cx nid n i p.1 p.2 s = some s' ∧ actIdx cx nid n z (l1 ++ l2) s' = some fin := by
  have hi : i < n := by
    rw [← Z.len]
    exact (List.getElem?_eq_some_iff.1 hz).1
  refine act_front (o := p.1) (bef := p.2) hz hi (fun j hj => ?_) h
  obtain ⟨h1, h2, h3, h4⟩ := H j hj
  obtain ⟨q, hq⟩ := Z.at h1
  rw [befOf_eq hq] at h4
  exact ⟨q.1, q.2, hq, Z.free hz hq h2 h3 h4, h2, h1, h3, h4⟩

theorem pull (Z : Tidy z n) {i : Nat} {p : O × List Nat} (hz : z[i]? = some p) {l : List Nat} {s fin : Env × Heap} (hs : l.Pairwise (· < ·)) (hin : i ∈ l) (hn : ∀ j ∈ l, j < n) (hr : ∀ j ∈ l, j ∉ p.2) (h : actIdx cx nid n z l s = some fin) :
    ∃ s', actOp cx nid n i p.1 p.2 s = some s' ∧ actIdx cx nid n z (l.erase i) s' = some fin := by
  obtain ⟨l1, l2, hni, hl, he⟩ := List.exists_erase_eq hin
  rw [he]
  rw [hl] at h
  refine pull_at Z hz (fun j hj => ?_) h
  have hjl : j ∈ l := by rw [hl]; exact List.mem_append_left _ hj
  have hji : j < i := by
    rw [hl] at hs
    exact (List.pairwise_append.1 hs).2.2 j hj i List.mem_cons_self
  refine ⟨hn j hjl, by omega, hr j hjl, fun hb => ?_⟩
  obtain ⟨q, hq⟩ := Z.at (hn j hjl)
  rw [befOf_eq hq] at hb
  have := Z.lt j q hq i hb
  omega

theorem sorted_nodup {l : List Nat} (h : l.Pairwise (· < ·)) : l.Nodup := h.imp fun h => Nat.ne_of_lt h

theorem mem_erase {l : List Nat} (h : l.Nodup) {i j : Nat} : j ∈ l.erase i ↔ j ≠ i ∧ j ∈ l := List.Nodup.mem_erase_iff h

/-- All of a list taken out. -/
def eraseAll : List Nat → List Nat → List Nat
  | W, [] => W
  | W, x :: l => eraseAll (W.erase x) l

theorem eraseAll_snoc : ∀ {W l : List Nat} {i : Nat}, eraseAll W (l ++ [i]) = (eraseAll W l).erase i
  | _, [], _ => rfl
  | W, x :: l, _ => eraseAll_snoc (W := W.erase x) (l := l)

theorem eraseAll_sorted : ∀ {W l : List Nat}, W.Pairwise (· < ·) → (eraseAll W l).Pairwise (· < ·)
  | _, [], h => h
  | _, _ :: l, h => eraseAll_sorted (l := l) (h.sublist List.erase_sublist)

theorem eraseAll_mem : ∀ {W l : List Nat}, W.Nodup → ∀ {j : Nat}, j ∈ eraseAll W l ↔ j ∉ l ∧ j ∈ W
  | W, [], h, j => by simp [eraseAll]
  | W, x :: l, h, j => by
    show j ∈ eraseAll (W.erase x) l ↔ _
    rw [eraseAll_mem (h.erase x), mem_erase h, List.mem_cons]
    constructor
    · rintro ⟨h1, h2, h3⟩; exact ⟨fun h => h.elim h2 h1, h3⟩
    · rintro ⟨h1, h2⟩; exact ⟨fun h => h1 (.inr h), fun h => h1 (.inl h), h2⟩

/-- An order in which some of a list may be done. -/
def okSeq (z : List (O × List Nat)) : List Nat → List Nat → Prop
  | _, [] => True
  | W, x :: l => x ∈ W ∧ (∀ y ∈ befOf z x, y ∉ W) ∧ okSeq z (W.erase x) l

theorem okSeq_snoc : ∀ {W l : List Nat} {i : Nat}, okSeq z W l → i ∈ eraseAll W l → (∀ y ∈ befOf z i, y ∉ eraseAll W l) → okSeq z W (l ++ [i])
  | _, [], _, _, h1, h2 => ⟨h1, h2, trivial⟩
  | W, x :: _, _, ⟨a, b, c⟩, h1, h2 => ⟨a, b, okSeq_snoc (W := W.erase x) c h1 h2⟩

theorem okSeq_mem : ∀ {W l : List Nat}, okSeq z W l → ∀ x ∈ l, x ∈ W
  | W, y :: l, ⟨a, b, c⟩, x, hx => by
    rcases List.mem_cons.1 hx with rfl | hx
    · exact a
    · exact List.mem_of_mem_erase (okSeq_mem c x hx)

/-- What is not written stays. -/
theorem actIdx_keeps {t : Nat} : ∀ {l : List Nat} {s s' : Env × Heap}, (∀ j ∈ l, dstOf z j ≠ some t) → actIdx cx nid n z l s = some s' → s'.1.at t = s.1.at t
  | [], s, s', _, h => by cases h; rfl
  | i :: l, s, s', H, h => by
    cases hz : z[i]? with
    | none => simp [actIdx, hz] at h
    | some p =>
      rw [actIdx_cons hz] at h
      simp only [Option.bind_eq_some_iff] at h
      obtain ⟨s1, h1, h2⟩ := h
      rw [actIdx_keeps (fun j hj => H j (List.mem_cons_of_mem _ hj)) h2]
      rw [actOp_eff] at h1
      simp only [Option.map_eq_some_iff] at h1
      obtain ⟨eff, _, rfl⟩ := h1
      exact putDst_at fun hd => H i List.mem_cons_self (by rw [dstOf_eq hz, hd])

theorem calm_act {i : Nat} {p : O × List Nat} (hz : z[i]? = some p) (hc : calmAt z i = true) {s s' : Env × Heap} (h : actOp cx nid n i p.1 p.2 s = some s') : ∃ v, s' = (putDst s.1 p.1.dst v, s.2) := by
  rw [actOp_eff] at h
  simp only [Option.map_eq_some_iff] at h
  obtain ⟨eff, he, rfl⟩ := h
  simp only [calmAt, hz] at hc
  have : eff.upd = none ∧ eff.new = none := by
    rcases calm_cls hc with hc | hc
    · exact (effOf_pure (g' := fun _ => none) (id' := 0) hc).2 eff he
    · exact effOf_read hc eff he
  exact ⟨eff.val, by simp only [Eff.heap, this.1, this.2]⟩

theorem calm_heap : ∀ {l : List Nat} {s s' : Env × Heap}, (∀ j ∈ l, calmAt z j = true) → actIdx cx nid n z l s = some s' → s'.2 = s.2
  | [], s, s', _, h => by cases h; rfl
  | i :: l, s, s', H, h => by
    cases hz : z[i]? with
    | none => simp [actIdx, hz] at h
    | some p =>
      rw [actIdx_cons hz] at h
      simp only [Option.bind_eq_some_iff] at h
      obtain ⟨s1, h1, h2⟩ := h
      obtain ⟨v, rfl⟩ := calm_act hz (H i List.mem_cons_self) h1
      rw [calm_heap (fun j hj => H j (List.mem_cons_of_mem _ hj)) h2]

theorem distinct_spec : ∀ {U : List Nat}, U.Nodup → distinct (U.filterMap (dstOf z)) = true → ∀ x ∈ U, ∀ y ∈ U, x ≠ y → ∀ d, dstOf z x = some d → dstOf z y ≠ some d
  | [], _, _, x, hx, _, _, _, _, _ => by cases hx
  | u :: U, hnd, h, x, hx, y, hy, hne, d, hd => by
    have hnd := List.nodup_cons.1 hnd
    have ht : distinct (U.filterMap (dstOf z)) = true := by
      rw [List.filterMap_cons] at h
      cases hu : dstOf z u with
      | none => rw [hu] at h; exact h
      | some e => rw [hu] at h; simp only [distinct, Bool.and_eq_true] at h; exact h.2
    have hh : ∀ d, dstOf z u = some d → ∀ y ∈ U, dstOf z y ≠ some d := fun d hu y hy hyd => by
      rw [List.filterMap_cons, hu] at h
      simp only [distinct, Bool.and_eq_true, Bool.not_eq_true'] at h
      have : d ∈ U.filterMap (dstOf z) := List.mem_filterMap.2 ⟨y, hy, hyd⟩
      have h1 := h.1
      rw [List.contains_iff_mem.2 this] at h1
      cases h1
    rcases List.mem_cons.1 hx with e1 | hx1
    · rcases List.mem_cons.1 hy with e2 | hy1
      · exact absurd (e1.trans e2.symm) hne
      · exact hh d (e1 ▸ hd) y hy1
    · rcases List.mem_cons.1 hy with e2 | hy1
      · exact fun h' => hh d (e2 ▸ h') x hx1 hd
      · exact distinct_spec hnd.2 ht x hx1 y hy1 hne d hd

/-- The same again behind the call. -/
theorem replay (Z : Tidy z n) {nid1 : Nat} {d : Option Nat} {v : V} {h1 : Heap} {sB sF s' : Env × Heap} : ∀ (lx W : List Nat) (s : Env × Heap), W.Pairwise (· < ·) → (∀ j ∈ W, j < n) → okSeq z W lx → (∀ j ∈ W, calmAt z j = true) →
    (∀ x ∈ W, ∀ y ∈ W, x ≠ y → ∀ d, dstOf z x = some d → dstOf z y ≠ some d) → (∀ x ∈ W, ∀ a, d = some a → dstOf z x ≠ some a) → actIdx cx nid n z lx s = some s' → actIdx cx nid n z (eraseAll W lx) s' = some sB →
    actIdx cx nid1 n z W (putDst s.1 d v, h1) = some sF → (∀ x ∈ W, ∀ t, dstOf z x = some t → sB.1.at t = sF.1.at t) → actIdx cx nid1 n z lx (putDst s.1 d v, h1) = some (putDst s'.1 d v, h1)
  | [], W, s, _, _, _, _, _, _, hb, _, _, _ => by cases hb; rfl
  | x :: l, W, s, hs, hn, hok, hcalm, hdst, hd, hb, hB, hF, hsame => by
    obtain ⟨hxW, hready, hok⟩ := hok
    obtain ⟨p, hz⟩ := Z.at (hn x hxW)
    rw [befOf_eq hz] at hready
    rw [actIdx_cons hz] at hb ⊢
    simp only [Option.bind_eq_some_iff] at hb
    obtain ⟨sx, hsx, hb⟩ := hb
    obtain ⟨tx, htx, hF'⟩ := pull Z hz hs hxW hn (fun j hj hb => hready j hb hj) hF
    have hnd := sorted_nodup hs
    have sub : ∀ {j}, j ∈ W.erase x → j ∈ W ∧ j ≠ x := fun hj => ⟨((mem_erase hnd).1 hj).2, ((mem_erase hnd).1 hj).1⟩
    obtain ⟨vb, rfl⟩ := calm_act hz (hcalm x hxW) hsx
    obtain ⟨va, rfl⟩ := calm_act hz (hcalm x hxW) htx
    have hx := dstOf_eq hz
    have heq : putDst (putDst s.1 d v) p.1.dst va = putDst (putDst s.1 p.1.dst vb) d v := by
      cases hpd : p.1.dst with
      | none => rfl
      | some t =>
        have hxd : dstOf z x = some t := by rw [hx, hpd]
        have e1 := hsame x hxW t hxd
        have k1 : sB.1.at t = vb := by
          have hl : ∀ j ∈ l, j ∈ W.erase x := okSeq_mem hok
          have a1 := actIdx_keeps (t := t) (fun j hj => hdst x hxW j (sub (hl j hj)).1 (Ne.symm (sub (hl j hj)).2) t hxd) hb
          have hin : ∀ j ∈ eraseAll (W.erase x) l, j ∈ W.erase x := fun j hj => ((eraseAll_mem (hnd.erase x)).1 hj).2
          have a2 := actIdx_keeps (t := t) (fun j hj => hdst x hxW j (sub (hin j hj)).1 (Ne.symm (sub (hin j hj)).2) t hxd) hB
          rw [a2, a1, hpd]
          simp [putDst, at_set]
        have k2 : sF.1.at t = va := by
          have a1 := actIdx_keeps (t := t) (fun j hj => hdst x hxW j (sub hj).1 (Ne.symm (sub hj).2) t hxd) hF'
          rw [a1, hpd]
          simp [putDst, at_set]
        rw [k1, k2] at e1
        subst e1
        exact putDst_comm fun a ha hb => hd x hxW a ha (by rw [hxd]; exact hb)
    rw [htx, heq]
    rw [heq] at hF'
    exact replay Z l (W.erase x) _ (hs.sublist List.erase_sublist) (fun j hj => hn j (sub hj).1) hok (fun j hj => hcalm j (sub hj).1) (fun a ha b hb => hdst a (sub ha).1 b (sub hb).1) (fun a ha => hd a (sub ha).1) hb hB hF' (fun a ha => hsame a (sub ha).1)

/-- What is to come when the call is made with E ahead of it and G behind it. -/
inductive Sub (cx : Ctx) (call : CallF) (z : List (O × List Nat)) (n : Nat) (K : Ex → FSt → Prop) (rem : Nat → Prop) (s : Env × Heap) (b : FSt) (c : Nat) (p : O × List Nat) (E G : List Nat) : Prop
  | mk {fuel : Nat} {la U lx lb R1 : List Nat} {sA s' sB : Env × Heap} : la.Pairwise (· < ·) → U.Pairwise (· < ·) → R1.Pairwise (· < ·) →
      (∀ i, rem i ↔ i ∈ la ∨ i ∈ eraseAll U lx ∨ i = c ∨ i ∈ lb) → (∀ i ∈ la, (i ∈ p.2 ∨ i ∈ E) ∧ callAt z i = false ∧ i ≠ c ∧ i < n ∧ ∀ y ∈ befOf z i, y ∈ p.2 ∨ y ∈ E) →
      (∀ i ∈ U, i ≠ c ∧ ¬ (i ∈ p.2 ∨ i ∈ E) ∧ c ∉ befOf z i ∧ calmAt z i = true ∧ i ∉ G ∧ ∀ g ∈ G, g ∉ befOf z i) → (∀ i ∈ lb, i ≠ c ∧ (c ∈ befOf z i ∨ i ∈ G ∨ ∃ g ∈ G, g ∈ befOf z i)) →
      (∀ i, i ∈ R1 ↔ i ∈ U ∨ i ∈ lb) → (∀ i ∈ R1, i < n) → (∀ x ∈ U, ∀ y ∈ U, x ≠ y → ∀ d, dstOf z x = some d → dstOf z y ≠ some d) → okSeq z U lx →
      actIdx cx b.nid n z la s = some s' → actIdx cx b.nid n z lx sA = some s' → actIdx cx b.nid n z (eraseAll U lx) s' = some sB →
      callOp call n p.1 { b with env := sA.1, h := sA.2 } (fun st1 => ∃ sF, actIdx cx st1.nid n z U (st1.env, st1.h) = some sF ∧ sameAt z U sB.1 sF.1 = true ∧ walk cx call z n K fuel R1 st1) (fun x s => U = [] ∧ K x s) → Sub cx call z n K rem s b c p E G

/-- Where a region stands: what is left, what the states are, and what the run says of what is to come. -/
inductive Stage (cx : Ctx) (call : CallF) (z : List (O × List Nat)) (n : Nat) (K : Ex → FSt → Prop) (rem : Nat → Prop) (s : Env × Heap) (b : FSt) : Prop
  | last {l : List Nat} {fin : Env × Heap} : l.Pairwise (· < ·) → (∀ i, rem i ↔ i ∈ l) → (∀ i ∈ l, i < n) → (∀ i ∈ l, callAt z i = false) → actIdx cx b.nid n z l s = some fin → K .normal { b with env := fin.1, h := fin.2, nid := b.nid + n } → Stage cx call z n K rem s b
  | plain {c : Nat} {p : O × List Nat} : z[c]? = some p → callAt z c = true → rem c → Sub cx call z n K rem s b c p [] [] → Stage cx call z n K rem s b
  | two {c u : Nat} {p : O × List Nat} : z[c]? = some p → callAt z c = true → rem c → callAt z u = false → (¬ rem u → ∀ y ∈ befOf z u, ¬ rem y) → (rem u → Sub cx call z n K rem s b c p [] [u]) → Sub cx call z n K rem s b c p (u :: befOf z u) [] → Stage cx call z n K rem s b

theorem calm_call {i : Nat} (h : calmAt z i = true) : callAt z i = false := by
  unfold calmAt at h
  unfold callAt
  cases hz : z[i]? with
  | none => rfl
  | some p =>
    rw [hz] at h
    simp only at h ⊢
    generalize p.1.i = o at h
    cases o <;> first | rfl | cases h

variable {call : CallF} {K : Ex → FSt → Prop}

theorem sub_step (Z : Tidy z n) {rem : Nat → Prop} {s : Env × Heap} {b : FSt} {c : Nat} {q : O × List Nat} {E G : List Nat} (hcc : callAt z c = true) (hremc : rem c) (S : Sub cx call z n K rem s b c q E G) {i : Nat} {p : O × List Nat} (hz : z[i]? = some p) (hi : rem i) (hr : ∀ x ∈ p.2, ¬ rem x) (hc : callAt z i = false)
    (hG : ∀ g ∈ G, rem g ∧ g ≠ i) : ∃ s1, actOp cx b.nid n i p.1 p.2 s = some s1 ∧ Sub cx call z n K (fun j => rem j ∧ j ≠ i) s1 b c q E G := by
  cases S with
  | @mk fuel la U lx lb R1 sA s' sB hla hU hR1 hrem hA hUf hlb hR hRn hd hok e1 e2 e3 hcall =>
    have hnU := sorted_nodup hU
    have hnA := sorted_nodup hla
    have hnE : (eraseAll U lx).Nodup := sorted_nodup (eraseAll_sorted hU)
    have inU : ∀ {j}, j ∈ eraseAll U lx → j ∈ U := fun hj => ((eraseAll_mem hnU).1 hj).2
    have hic : i ≠ c := fun e => by rw [e, hcc] at hc; cases hc
    have hbi := befOf_eq hz
    have ltA : ∀ j ∈ la, j < n := fun j hj => (hA j hj).2.2.2.1
    have ltU : ∀ j ∈ U, j < n := fun j hj => hRn j ((hR j).2 (.inl hj))
    have hilb : i ∉ lb := fun h' => by
      rcases (hlb i h').2 with h | h | ⟨g, hg, h⟩
      · rw [hbi] at h; exact hr c h hremc
      · exact (hG i h).2 rfl
      · rw [hbi] at h; exact hr g h (hG g hg).1
    rcases (hrem i).1 hi with h | h | h | h
    · -- ahead of the call
      obtain ⟨s1, k1, k2⟩ := pull Z hz hla h ltA (fun j hj hb => hr j hb ((hrem j).2 (.inl hj))) e1
      have hiU : i ∉ eraseAll U lx := fun h' => (hUf i (inU h')).2.1 (hA i h).1
      refine ⟨s1, k1, .mk (fuel := fuel) (la := la.erase i) (U := U) (lx := lx) (lb := lb) (R1 := R1) (sA := sA) (hla.sublist List.erase_sublist) hU hR1 (fun j => ?_) (fun j hj => hA j (List.mem_of_mem_erase hj)) hUf hlb hR hRn hd hok k2 e2 e3 hcall⟩
      rw [hrem j, mem_erase hnA]
      constructor
      · rintro ⟨h1 | h1 | h1 | h1, h2⟩
        · exact .inl ⟨h2, h1⟩
        · exact .inr (.inl h1)
        · exact .inr (.inr (.inl h1))
        · exact .inr (.inr (.inr h1))
      · rintro (h1 | h1 | h1 | h1)
        · exact ⟨.inl h1.2, h1.1⟩
        · exact ⟨.inr (.inl h1), fun e => hiU (e ▸ h1)⟩
        · exact ⟨.inr (.inr (.inl h1)), fun e => hic (e ▸ h1)⟩
        · exact ⟨.inr (.inr (.inr h1)), fun e => hilb (e ▸ h1)⟩
    · -- free of the call
      have hrE : ∀ j ∈ eraseAll U lx, j ∉ p.2 := fun j hj hb => hr j hb ((hrem j).2 (.inr (.inl hj)))
      obtain ⟨s2, k1, k2⟩ := pull Z hz (eraseAll_sorted hU) h (fun j hj => ltU j (inU hj)) hrE e3
      obtain ⟨_, ip, icb, _, _, _⟩ := hUf i (inU h)
      have happ : actIdx cx b.nid n z (la ++ [i]) s = some s2 := by
        rw [actIdx_append, e1, Option.bind_some, actIdx_cons hz, k1]
        rfl
      obtain ⟨s1, m1, m2⟩ := pull_at Z hz (l1 := la) (l2 := []) (fun j hj => ⟨ltA j hj, fun e => ip (e ▸ (hA j hj).1), fun hb => hr j hb ((hrem j).2 (.inl hj)), fun hb => ip ((hA j hj).2.2.2.2 i hb)⟩) happ
      rw [List.append_nil] at m2
      have hiA : i ∉ la := fun h' => ip (hA i h').1
      refine ⟨s1, m1, .mk (fuel := fuel) (la := la) (U := U) (lx := lx ++ [i]) (lb := lb) (R1 := R1) (sA := sA) hla hU hR1 (fun j => ?_) hA hUf hlb hR hRn hd (okSeq_snoc hok h fun y hy hyE => hrE y hyE (by rw [hbi] at hy; exact hy)) m2 (by rw [actIdx_append, e2, Option.bind_some, actIdx_cons hz, k1]; rfl) (by rw [eraseAll_snoc]; exact k2) hcall⟩
      rw [hrem j, eraseAll_snoc, mem_erase hnE]
      constructor
      · rintro ⟨h1 | h1 | h1 | h1, h2⟩
        · exact .inl h1
        · exact .inr (.inl ⟨h2, h1⟩)
        · exact .inr (.inr (.inl h1))
        · exact .inr (.inr (.inr h1))
      · rintro (h1 | h1 | h1 | h1)
        · exact ⟨.inl h1, fun e => hiA (e ▸ h1)⟩
        · exact ⟨.inr (.inl h1.2), h1.1⟩
        · exact ⟨.inr (.inr (.inl h1)), fun e => hic (e ▸ h1)⟩
        · exact ⟨.inr (.inr (.inr h1)), fun e => hilb (e ▸ h1)⟩
    · exact absurd h hic
    · exact absurd h hilb

/-- One that is ready is done. -/
theorem stage_step (Z : Tidy z n) {rem : Nat → Prop} {s : Env × Heap} {b : FSt} (S : Stage cx call z n K rem s b) {i : Nat} {p : O × List Nat} (hz : z[i]? = some p) (hi : rem i) (hr : ∀ x ∈ p.2, ¬ rem x) (hc : callAt z i = false) :
    ∃ s1, actOp cx b.nid n i p.1 p.2 s = some s1 ∧ Stage cx call z n K (fun j => rem j ∧ j ≠ i) s1 b := by
  cases S with
  | @last l fin h1 h2 h3 h4 h5 h6 =>
    obtain ⟨s1, e1, e2⟩ := pull Z hz h1 ((h2 i).1 hi) h3 (fun j hj hb => hr j hb ((h2 j).2 hj)) h5
    have hnd := sorted_nodup h1
    exact ⟨s1, e1, .last (h1.sublist List.erase_sublist) (fun j => by rw [mem_erase hnd, h2 j, and_comm]) (fun j hj => h3 j (List.mem_of_mem_erase hj)) (fun j hj => h4 j (List.mem_of_mem_erase hj)) e2 h6⟩
  | @plain c q hzc hcc hremc S =>
    obtain ⟨s1, e1, S1⟩ := sub_step Z hcc hremc S hz hi hr hc (fun g hg => by cases hg)
    exact ⟨s1, e1, .plain hzc hcc ⟨hremc, fun e => by rw [e, hc] at hcc; cases hcc⟩ S1⟩
  | @two c u q hzc hcc hremc hcu hdown S T =>
    obtain ⟨s1, e1, T1⟩ := sub_step Z hcc hremc T hz hi hr hc (fun g hg => by cases hg)
    refine ⟨s1, e1, .two (u := u) hzc hcc ⟨hremc, fun e => by rw [e, hc] at hcc; cases hcc⟩ hcu (fun hnu y hy hry => ?_) (fun hu => ?_) T1⟩
    · by_cases h : rem u
      · have hui : u = i := Classical.byContradiction fun hne => hnu ⟨h, hne⟩
        subst hui
        rw [befOf_eq hz] at hy
        exact hr y hy hry.1
      · exact hdown h y hy hry.1
    · obtain ⟨s2, e2, S1⟩ := sub_step Z hcc hremc (S hu.1) hz hi hr hc (fun g hg => by
        rcases List.mem_singleton.1 hg with rfl
        exact hu)
      rw [e1] at e2
      cases e2
      exact S1

/-- Some that may be done in this order are done. -/
theorem stage_run (Z : Tidy z n) {b : FSt} : ∀ (lx W : List Nat) {rem : Nat → Prop} {t : Env × Heap}, Stage cx call z n K rem t b → W.Nodup → (∀ x ∈ W, rem x) → (∀ x ∈ W, x < n) → okSeq z W lx → (∀ x ∈ W, ∀ y ∈ befOf z x, rem y → y ∈ W) → (∀ x ∈ W, callAt z x = false) →
    ∃ t', actIdx cx b.nid n z lx t = some t' ∧ Stage cx call z n K (fun j => rem j ∧ j ∉ lx) t' b
  | [], W, rem, t, S, _, _, _, _, _, _ => ⟨t, rfl, by
      have : (fun j => rem j ∧ j ∉ ([] : List Nat)) = rem := by funext j; simp
      rw [this]; exact S⟩
  | x :: l, W, rem, t, S, hnd, hW, hn, hok, hcl, hca => by
    obtain ⟨hx, hready, hok⟩ := hok
    obtain ⟨p, hz⟩ := Z.at (hn x hx)
    obtain ⟨t1, k1, S1⟩ := stage_step Z S hz (hW x hx) (fun y hy hry => hready y (by rw [befOf_eq hz]; exact hy) (hcl x hx y (by rw [befOf_eq hz]; exact hy) hry)) (hca x hx)
    have sub : ∀ {j}, j ∈ W.erase x → j ≠ x ∧ j ∈ W := fun hj => (mem_erase hnd).1 hj
    obtain ⟨t', k2, S2⟩ := stage_run Z l (W.erase x) S1 (hnd.erase x) (fun j hj => ⟨hW j (sub hj).2, (sub hj).1⟩) (fun j hj => hn j (sub hj).2) hok (fun a ha y hy hry => (mem_erase hnd).2 ⟨hry.2, hcl a (sub ha).2 y hy hry.1⟩) (fun j hj => hca j (sub hj).2)
    refine ⟨t', by rw [actIdx_cons hz, k1]; exact k2, ?_⟩
    have : (fun j => rem j ∧ j ∉ x :: l) = fun j => (rem j ∧ j ≠ x) ∧ j ∉ l := by
      funext j
      refine propext ⟨fun ⟨h1, h2⟩ => ⟨⟨h1, fun e => h2 (e ▸ List.mem_cons_self)⟩, fun e => h2 (List.mem_cons_of_mem _ e)⟩, fun ⟨⟨h1, h2⟩, h3⟩ => ⟨h1, fun e => (List.mem_cons.1 e).elim h2 h3⟩⟩
    rw [this]; exact S2

theorem mem_ahead {c : Nat} {p : O × List Nat} (hp : z[c]? = some p) {R E : List Nat} (i : Nat) : i ∈ R.filter (aheadC z c E) ↔ i ∈ R ∧ (i ∈ p.2 ∨ i ∈ E) := by
  rw [List.mem_filter, aheadC, befOf_eq hp, Bool.or_eq_true, List.contains_iff_mem, List.contains_iff_mem]
theorem mem_left {c : Nat} {p : O × List Nat} (hp : z[c]? = some p) {R E : List Nat} (i : Nat) : i ∈ R.filter (leftC z c E) ↔ i ∈ R ∧ i ≠ c ∧ ¬ (i ∈ p.2 ∨ i ∈ E) := by
  rw [List.mem_filter, leftC, aheadC, befOf_eq hp, Bool.and_eq_true, Bool.not_eq_true', Bool.not_eq_true', Bool.or_eq_false_iff]
  simp only [List.contains_eq_mem, decide_eq_false_iff_not, not_or]
  constructor
  · rintro ⟨h1, h2, h3⟩; exact ⟨h1, Nat.ne_of_beq_eq_false h2, h3⟩
  · rintro ⟨h1, h2, h3⟩
    refine ⟨h1, ?_, h3⟩
    cases e : Nat.beq i c with
    | false => rfl
    | true => exact absurd (Nat.eq_of_beq_eq_true e) h2
theorem mem_free {c : Nat} {R E G : List Nat} (i : Nat) : i ∈ R.filter (freeC z c E G) ↔ i ∈ R.filter (leftC z c E) ∧ c ∉ befOf z i ∧ i ∉ G ∧ ∀ g ∈ G, g ∉ befOf z i := by
  rw [List.mem_filter, List.mem_filter, freeC, Bool.and_eq_true, Bool.and_eq_true, Bool.and_eq_true]
  simp only [Bool.not_eq_true', List.contains_eq_mem, decide_eq_false_iff_not, List.any_eq_false, decide_eq_true_eq, and_assoc]
  exact ⟨fun ⟨a, b, c, d, e⟩ => ⟨a, b, c, d, fun g hg hb => e g hb hg⟩, fun ⟨a, b, c, d, e⟩ => ⟨a, b, c, d, fun x hx hg => e x hg hx⟩⟩

theorem sub_init (Z : Tidy z n) {fuel : Nat} {R : List Nat} {b : FSt} {c : Nat} {p : O × List Nat} {E G : List Nat} (hp : z[c]? = some p) (hcR : c ∈ R) (hs : R.Pairwise (· < ·)) (hn : ∀ i ∈ R, i < n) (hcE : c ∉ E) (hE : ∀ i ∈ E, ∀ y ∈ befOf z i, y ∈ E) (h : walkOne cx call z n K (walk cx call z n K fuel) R b c (E, G)) :
    Sub cx call z n K (· ∈ R) (b.env, b.h) b c p E G := by
  unfold walkOne at h
  split at h
  · rename_i hcond
    simp only [Bool.and_eq_true] at hcond
    obtain ⟨⟨hA, hU⟩, hd⟩ := hcond
    split at h
    · rename_i p' sA hp' hsA
      rw [hp] at hp'
      cases hp'
      split at h
      · rename_i sB hsB
        have hcp : c ∉ p.2 := fun h => by have := Z.lt c p hp c h; omega
        refine .mk (fuel := fuel) (la := R.filter (aheadC z c E)) (U := R.filter (freeC z c E G)) (lx := []) (lb := R.filter fun i => leftC z c E i && !freeC z c E G i) (R1 := R.filter (leftC z c E)) (hs.filter _) (hs.filter _) (hs.filter _) (fun i => ?_) (fun i hi => ?_) (fun i hi => ?_) (fun i hi => ?_) (fun i => ?_) (fun i hi => hn i ((mem_left hp i).1 hi).1) (distinct_spec (sorted_nodup (hs.filter _)) hd) trivial hsA rfl hsB ?_
        · rw [mem_ahead hp, show eraseAll (R.filter (freeC z c E G)) [] = R.filter (freeC z c E G) from rfl]
          constructor
          · intro hi
            by_cases h1 : i ∈ p.2 ∨ i ∈ E
            · exact .inl ⟨hi, h1⟩
            by_cases h2 : i = c
            · exact .inr (.inr (.inl h2))
            have h3 := (mem_left hp i).2 ⟨hi, h2, h1⟩
            by_cases h5 : freeC z c E G i = true
            · exact .inr (.inl (List.mem_filter.2 ⟨hi, h5⟩))
            · exact .inr (.inr (.inr (List.mem_filter.2 ⟨hi, by rw [(List.mem_filter.1 h3).2]; simpa using h5⟩)))
          · rintro (h1 | h1 | h1 | h1)
            · exact h1.1
            · exact (List.mem_filter.1 h1).1
            · exact h1 ▸ hcR
            · exact (List.mem_filter.1 h1).1
        · obtain ⟨h1, h2⟩ := (mem_ahead hp i).1 hi
          refine ⟨h2, by simpa using List.all_eq_true.1 hA i hi, fun e => by subst e; exact h2.elim hcp hcE, hn i h1, fun y hy => ?_⟩
          rcases h2 with h2 | h2
          · obtain ⟨q, hq⟩ := Z.at (hn i h1)
            rw [befOf_eq hq] at hy
            exact .inl (Z.trans c p i q hp h2 hq y hy)
          · exact .inr (hE i h2 y hy)
        · obtain ⟨h1, h2, h3, h4⟩ := (mem_free i).1 hi
          obtain ⟨_, h5, h6⟩ := (mem_left hp i).1 h1
          exact ⟨h5, h6, h2, List.all_eq_true.1 hU i hi, h3, h4⟩
        · obtain ⟨h1, h2⟩ := List.mem_filter.1 hi
          rw [Bool.and_eq_true] at h2
          have h3 := (mem_left hp i).1 (List.mem_filter.2 ⟨h1, h2.1⟩)
          refine ⟨h3.2.1, Classical.byContradiction fun hno => ?_⟩
          simp only [not_or, not_exists, not_and] at hno
          have := (mem_free (G := G) i).2 ⟨List.mem_filter.2 ⟨h1, h2.1⟩, hno.1, hno.2.1, hno.2.2⟩
          have h4 := h2.2
          rw [(List.mem_filter.1 this).2] at h4
          cases h4
        · rw [List.mem_filter, List.mem_filter, List.mem_filter]
          constructor
          · rintro ⟨h1, h2⟩
            by_cases h5 : freeC z c E G i = true
            · exact .inl ⟨h1, h5⟩
            · exact .inr ⟨h1, by simp [h2, h5]⟩
          · rintro (⟨h1, h2⟩ | ⟨h1, h2⟩)
            · refine ⟨h1, ?_⟩
              rw [freeC, Bool.and_eq_true, Bool.and_eq_true, Bool.and_eq_true] at h2
              exact h2.1.1.1
            · rw [Bool.and_eq_true] at h2
              exact ⟨h1, h2.1⟩
        · refine cast ?_ h
          congr 1
          · funext st1
            refine propext ⟨fun h => ?_, fun h => ?_⟩
            · split at h
              · rename_i sF hsF
                split at h
                · rename_i hsm; exact ⟨sF, hsF, hsm, h⟩
                · exact h.elim
              · exact h.elim
            · obtain ⟨sF, hsF, hsm, hw⟩ := h
              simp only [hsF, hsm, if_true]
              exact hw
          · funext x st
            refine propext ⟨fun h => ?_, fun h => ?_⟩
            · split at h
              · rename_i he; exact ⟨List.isEmpty_iff.1 he, h⟩
              · exact h.elim
            · rw [if_pos (List.isEmpty_iff.2 h.1)]; exact h.2
      · exact h.elim
    · exact h.elim
  · exact h.elim

/-- At first. -/
theorem stage_init (Z : Tidy z n) : ∀ {fuel : Nat} {R : List Nat} {b : FSt}, R.Pairwise (· < ·) → (∀ i ∈ R, i < n) → walk cx call z n K fuel R b → Stage cx call z n K (· ∈ R) (b.env, b.h) b
  | 0, R, b, _, _, h => h.elim
  | fuel + 1, R, b, hs, hn, h => by
    simp only [walk] at h
    split at h
    · rename_i hf
      split at h
      · rename_i fin hfin
        exact .last hs (fun _ => .rfl) hn (fun i hi => by simpa using List.find?_eq_none.1 hf i hi) hfin h
      · exact h.elim
    · rename_i c hf
      split at h
      · exact h.elim
      · rename_i hne
        have hcall : callAt z c = true := by simpa using List.find?_some hf
        have hcR : c ∈ R := List.mem_of_find?_eq_some hf
        obtain ⟨p, hp⟩ := Z.at (hn c hcR)
        unfold optsC at h hne
        split at h
        · exact .plain hp hcall hcR (sub_init Z hp hcR hs hn (by simp) (fun i hi => by cases hi) (h _ (List.mem_map.2 ⟨_, List.mem_singleton.2 rfl, rfl⟩)))
        · rename_i u hu
          have hmem : u ∈ R.filter fun i => freeC z c [] [] i && !calmAt z i := by rw [hu]; simp
          obtain ⟨m1, m2⟩ := List.mem_filter.1 hmem
          rw [Bool.and_eq_true] at m2
          obtain ⟨k1, k2, _, _⟩ := (mem_free u).1 (List.mem_filter.2 ⟨m1, m2.1⟩)
          obtain ⟨_, k3, k4⟩ := (mem_left hp u).1 k1
          split at h
          · rename_i hcu
            simp only [hu, if_pos hcu] at hne
            exact absurd rfl hne
          · rename_i hcu
            obtain ⟨q, hq⟩ := Z.at (hn u m1)
            refine .two (u := u) hp hcall hcR (by simpa using hcu) (fun hnu => absurd m1 hnu) (fun _ => sub_init Z hp hcR hs hn (by simp) (fun i hi => by cases hi) (h _ (List.mem_map.2 ⟨([], [u]), by simp, rfl⟩)))
              (sub_init Z hp hcR hs hn (fun hc => ?_) (fun i hi y hy => ?_) (h _ (List.mem_map.2 ⟨(u :: befOf z u, []), by simp, rfl⟩)))
            · rcases List.mem_cons.1 hc with e | hc
              · exact k3 e.symm
              · exact k2 hc
            · rcases List.mem_cons.1 hi with rfl | hi
              · exact List.mem_cons_of_mem _ hy
              · refine List.mem_cons_of_mem _ ?_
                rw [befOf_eq hq] at hi ⊢
                have hlt := Z.lt u q hq i hi
                obtain ⟨r, hr⟩ := Z.at (i := i) (by have := hn u m1; omega)
                rw [befOf_eq hr] at hy
                exact Z.trans u q i r hq hi hr y hy
        · rename_i h1 h2
          split at hne
          · rename_i he; exact absurd he h1
          · rename_i u he; exact absurd he (h2 u)
          · exact absurd rfl hne

/-- The call is made. -/
theorem sub_call (Z : Tidy z n) {rem : Nat → Prop} {s : Env × Heap} {b : FSt} {c : Nat} {p : O × List Nat} {E G : List Nat} (hz : z[c]? = some p) (S : Sub cx call z n K rem s b c p E G) (hr : ∀ x ∈ p.2, ¬ rem x) (hE : ∀ x ∈ E, ¬ rem x) :
    (wanted s.1 p.1.guard = false ∧ ∃ b' : FSt, b'.nid = b.nid ∧ b'.dfr = b.dfr ∧ Stage cx call z n K (fun j => rem j ∧ j ≠ c) (putDst s.1 p.1.dst V.undef, s.2) b') ∨
    (wanted s.1 p.1.guard = true ∧ ∃ f args f' args' Kc, p.1.i = .call f args ∧ resolve (f.val s.1) (args.map (X.val s.1)) = some (f', args') ∧ call f' args' s.2 (b.nid + n) Kc ∧
      (∀ v h nid, Kc (.returned v) h nid → ∃ b' : FSt, b'.nid = nid ∧ b'.dfr = b.dfr ∧ Stage cx call z n K (fun j => rem j ∧ j ≠ c) (putDst s.1 p.1.dst v, h) b') ∧
      (∀ ch h nid, Kc (.panicked ch) h nid → K (.panic ch) { b with env := s.1, h, nid })) := by
  cases S with
  | @mk fuel la U lx lb R1 sA s' sB hla hU hR1 hrem hA hUf hlb hR hRn hd hok e1 e2 e3 hcall =>
    have hnU := sorted_nodup hU
    have hla0 : la = [] := by
      cases la with
      | nil => rfl
      | cons x l =>
        have h1 := (hrem x).2 (.inl List.mem_cons_self)
        exact absurd h1 ((hA x List.mem_cons_self).1.elim (hr x) (hE x))
    subst hla0
    simp only [actIdx, Option.some.injEq] at e1
    subst e1
    have lxU : ∀ x ∈ lx, x ∈ U := okSeq_mem hok
    have ltU : ∀ j ∈ U, j < n := fun j hj => hRn j ((hR j).2 (.inl hj))
    have hconf : ∀ j ∈ U, ∃ r, z[j]? = some r ∧ conflict r.1 p.1 = false := fun j hj => by
      obtain ⟨r, hr⟩ := Z.at (ltU j hj)
      obtain ⟨k1, k2, k3, _⟩ := hUf j hj
      rw [befOf_eq hr] at k3
      exact ⟨r, hr, Z.free hz hr k1 (fun h => k2 (.inl h)) k3⟩
    have hlook : ∀ t ∈ p.1.looks, s.1.at t = sA.1.at t := fun t ht => actIdx_keeps (fun j hj hd' => by
      obtain ⟨r, hr, hcf⟩ := hconf j (lxU j hj)
      rw [dstOf_eq hr] at hd'
      exact (conflict_false hcf).1 t hd' ht) e2
    have hheap : s.2 = sA.2 := calm_heap (fun j hj => (hUf j (lxU j hj)).2.2.2.1) e2
    have hdst : ∀ x ∈ U, ∀ a, p.1.dst = some a → dstOf z x ≠ some a := fun x hx a ha hd' => by
      obtain ⟨r, hr, hcf⟩ := hconf x hx
      rw [dstOf_eq hr] at hd'
      exact (conflict_false hcf).2.2.1 a hd' ha
    have notlb : ∀ j ∈ U, j ∉ lb := fun j hj hl => by
      obtain ⟨_, _, k3, _, k5, k6⟩ := hUf j hj
      rcases (hlb j hl).2 with h | h | ⟨g, hg, h⟩
      · exact k3 h
      · exact k5 h
      · exact k6 g hg h
    have next : ∀ (st1 : FSt) (v : V) (h1 : Heap), st1.env = putDst sA.1 p.1.dst v → st1.h = h1 → (∃ sF, actIdx cx st1.nid n z U (st1.env, st1.h) = some sF ∧ sameAt z U sB.1 sF.1 = true ∧ walk cx call z n K fuel R1 st1) →
        Stage cx call z n K (fun j => rem j ∧ j ≠ c) (putDst s.1 p.1.dst v, h1) st1 := fun st1 v h1 he hh ⟨sF, hF, hsm, hw⟩ => by
      have S0 := stage_init Z hR1 hRn hw
      obtain ⟨t', k1, k2⟩ := stage_run Z lx U S0 hnU (fun x hx => (hR x).2 (.inl hx)) ltU hok (fun x hx y hy hry => by
        rcases (hR y).1 hry with h | h
        · exact h
        · exfalso
          obtain ⟨qx, hqx⟩ := Z.at (ltU x hx)
          obtain ⟨qy, hqy⟩ := Z.at (hRn y hry)
          obtain ⟨_, _, k3, _, _, k6⟩ := hUf x hx
          rw [befOf_eq hqx] at k3 k6 hy
          rcases (hlb y h).2 with k4 | k4 | ⟨g, hg, k4⟩
          · rw [befOf_eq hqy] at k4
            exact k3 (Z.trans x qx y qy hqx hy hqy c k4)
          · exact k6 y k4 hy
          · rw [befOf_eq hqy] at k4
            exact k6 g hg (Z.trans x qx y qy hqx hy hqy g k4)) (fun x hx => calm_call (hUf x hx).2.2.2.1)
      rw [he, hh] at hF k1
      have := replay Z lx U sA hU ltU hok (fun j hj => (hUf j hj).2.2.2.1) hd hdst e2 e3 hF (fun x hx t ht => by
        have := List.all_eq_true.1 hsm x hx
        simp only [ht] at this
        exact V.eqA_eq _ _ this)
      rw [k1] at this
      cases this
      have hpred : (fun j => j ∈ R1 ∧ j ∉ lx) = fun j => rem j ∧ j ≠ c := by
        funext j
        refine propext ?_
        rw [hR j, hrem j, eraseAll_mem hnU]
        constructor
        · rintro ⟨h1 | h1, h2⟩
          · exact ⟨.inr (.inl ⟨h2, h1⟩), (hUf j h1).1⟩
          · exact ⟨.inr (.inr (.inr h1)), (hlb j h1).1⟩
        · rintro ⟨h1 | h1 | h1 | h1, h2⟩
          · cases h1
          · exact ⟨.inl h1.2, h1.1⟩
          · exact absurd h1 h2
          · exact ⟨.inr h1, fun hj => notlb j (lxU j hj) h1⟩
      rw [← hpred]
      exact k2
    unfold callOp at hcall
    have hw : wanted s.1 p.1.guard = wanted sA.1 p.1.guard := wanted_congr fun t w hg => hlook t (by simp [O.looks, hg])
    simp only at hcall
    split at hcall
    · rename_i hwt
      refine .inr ⟨by rw [hw]; exact hwt, ?_⟩
      split at hcall
      · rename_i f args hi
        split at hcall
        · rename_i f' args' hres
          have h4 : f.val s.1 = f.val sA.1 := val_congr fun t ht => hlook t (by simp [O.looks, hi, I.tmps, ht])
          have h5 : args.map (X.val s.1) = args.map (X.val sA.1) := vals_congr fun t ht => hlook t (by simp [O.looks, hi, I.tmps, ht])
          refine ⟨f, args, f', args', _, hi, by rw [h4, h5]; exact hres, by rw [hheap]; exact hcall, fun v h nid hk => ?_, fun ch h nid hk => ?_⟩
          · exact ⟨{ env := putDst sA.1 p.1.dst v, h := h, nid := nid, dfr := b.dfr }, rfl, rfl, next _ v h rfl rfl hk⟩
          · obtain ⟨hU0, hk⟩ := hk
            subst hU0
            have : lx = [] := by
              cases lx with
              | nil => rfl
              | cons x l => exact absurd (lxU x List.mem_cons_self) (by simp)
            subst this
            simp only [actIdx, Option.some.injEq] at e2
            subst e2
            exact hk
        · exact hcall.elim
      · exact hcall.elim
    · rename_i hwt
      refine .inl ⟨by rw [hw]; exact Bool.eq_false_iff.2 hwt, { b with env := putDst sA.1 p.1.dst V.undef, h := sA.2 }, rfl, rfl, ?_⟩
      rw [hheap]
      exact next { b with env := putDst sA.1 p.1.dst V.undef, h := sA.2 } V.undef sA.2 rfl rfl hcall

theorem sub_same {rem : Nat → Prop} {s : Env × Heap} {b : FSt} {c : Nat} {p : O × List Nat} {E G : List Nat} (S : Sub cx call z n K rem s b c p E G) (hG : ∀ g ∈ G, rem g ∧ callAt z g = false) (hremc : rem c) {c' : Nat} {q : O × List Nat} (hz : z[c']? = some q) (hc : rem c') (hr : ∀ x ∈ q.2, ¬ rem x) (hcc : callAt z c' = true) : c' = c := by
  cases S with
  | @mk fuel la U lx lb R1 sA s' sB hla hU hR1 hrem hA hUf hlb hR hRn hd hok e1 e2 e3 hcall =>
    rcases (hrem c').1 hc with h | h | h | h
    · rw [(hA c' h).2.1] at hcc; cases hcc
    · have := calm_call (hUf c' ((eraseAll_mem (sorted_nodup hU)).1 h).2).2.2.2.1
      rw [hcc] at this; cases this
    · exact h
    · exfalso
      rcases (hlb c' h).2 with h | h | ⟨g, hg, h⟩
      · rw [befOf_eq hz] at h; exact hr c h hremc
      · rw [(hG c' h).2] at hcc; cases hcc
      · rw [befOf_eq hz] at h; exact hr g h (hG g hg).1

theorem stage_call (Z : Tidy z n) {rem : Nat → Prop} {s : Env × Heap} {b : FSt} (S : Stage cx call z n K rem s b) {c : Nat} {p : O × List Nat} (hz : z[c]? = some p) (hc : rem c) (hr : ∀ x ∈ p.2, ¬ rem x) (hcc : callAt z c = true) :
    (wanted s.1 p.1.guard = false ∧ ∃ b' : FSt, b'.nid = b.nid ∧ b'.dfr = b.dfr ∧ Stage cx call z n K (fun j => rem j ∧ j ≠ c) (putDst s.1 p.1.dst V.undef, s.2) b') ∨
    (wanted s.1 p.1.guard = true ∧ ∃ f args f' args' Kc, p.1.i = .call f args ∧ resolve (f.val s.1) (args.map (X.val s.1)) = some (f', args') ∧ call f' args' s.2 (b.nid + n) Kc ∧
      (∀ v h nid, Kc (.returned v) h nid → ∃ b' : FSt, b'.nid = nid ∧ b'.dfr = b.dfr ∧ Stage cx call z n K (fun j => rem j ∧ j ≠ c) (putDst s.1 p.1.dst v, h) b') ∧
      (∀ ch h nid, Kc (.panicked ch) h nid → K (.panic ch) { b with env := s.1, h, nid })) := by
  cases S with
  | @last l fin h1 h2 h3 h4 h5 h6 =>
    have := h4 c ((h2 c).1 hc)
    rw [hcc] at this
    cases this
  | @plain c' q hzc hcc' hremc S =>
    have := sub_same S (fun g hg => by cases hg) hremc hz hc hr hcc
    subst this
    rw [hz] at hzc
    cases hzc
    exact sub_call Z hz S hr (fun x hx => by cases hx)
  | @two c' u q hzc hcc' hremc hcu hdown S T =>
    by_cases hu : rem u
    · have := sub_same (S hu) (fun g hg => by rcases List.mem_singleton.1 hg with rfl; exact ⟨hu, hcu⟩) hremc hz hc hr hcc
      subst this
      rw [hz] at hzc
      cases hzc
      exact sub_call Z hz (S hu) hr (fun x hx => by cases hx)
    · have := sub_same T (fun g hg => by cases hg) hremc hz hc hr hcc
      subst this
      rw [hz] at hzc
      cases hzc
      exact sub_call Z hz T hr (fun x hx => by
        rcases List.mem_cons.1 hx with rfl | hx
        · exact hu
        · exact hdown hu x hx)
end
end Go.Abs
