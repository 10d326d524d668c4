/-
  SecIter, SecSort, SecSortF, put together in one file.
-/
import Derived.Shelf.SlIter.Nil
import Derived.Shelf.SortM.Plain
import Derived.Shelf.SortM.SortNone
import Derived.Test.YtfmdgjnjfmgbmaaGreatDoorProg
import Derived.Test.YtfmdgjnjfmgbmaaGreatDoorAbsGi
import Derived.Test.YtfmdgjnjfmgbmaaGreatDoorSeatC
/-
  DERIVED: THE SHELF's CONTRACTS AT THIS DUMP, IN PLAIN WORDS (tools/lay-plain.mjs out of 'SecIterM.lean', which tools/lay-shelf.mjs wrote): THE SAME DECLARATIONS UNDER THE SAME NAMES: 'import', 'namespace', 'open', 'def', 'theorem' AND NOTHING ELSE: no command of the shelf's: FOR A HAND-IN. Each laying: the table of numbers ('.._ren') and one theorem, a field a fact of the dump's own or the kernel's comparison; each contract: ONE APPLICATION.
-/
namespace Go.Proofs
open Go.Shelf
def Tryz.keys24_ren : Go.Shelf.Ren := ⟨fun | 7 => 24 | 10 => 46 | n => n, fun | 23 => 65 | 26 => 9 | 3 => 4 | 28 => 63 | 0 => 0 | 27 => 62 | 33 => 87 | 4 => 4 | n => n, fun | n => n⟩
theorem Tryz.keys24 : Go.Proofs.SlLaysZ.n7 Tryz.prog Tryz.keys24_ren := {
  mixed := by kernel_rfl
  f7 := ⟨Tryz.f24.name, by decide, Tryz.func24.trans (congrArg some (by kernel_rfl))⟩
  f10 := ⟨Tryz.f46.name, by decide, Tryz.func46.trans (congrArg some (by kernel_rfl))⟩
  t0 := Tryz.underlying0
  a0 := Tryz.isAgg0
  z0 := Tryz.sizeOf0
  v0 := Tryz.zeroValue0
  t4 := Tryz.underlying4
  a4 := Tryz.isAgg4
  z4 := Tryz.sizeOf4
  v4 := Tryz.zeroValue4
  t23 := Tryz.underlying65
  a23 := Tryz.isAgg65
  z23 := Tryz.sizeOf65
  v23 := Tryz.zeroValue65
  t26 := Tryz.underlying9
  a26 := Tryz.isAgg9
  z26 := Tryz.sizeOf9
  v26 := Tryz.zeroValue9
  t27 := Tryz.underlying62
  a27 := Tryz.isAgg62
  z27 := Tryz.sizeOf62
  v27 := Tryz.zeroValue62
  t28 := Tryz.underlying63
  a28 := Tryz.isAgg63
  z28 := Tryz.sizeOf63
  v28 := Tryz.zeroValue63
  t33 := Tryz.underlying87
  a33 := Tryz.isAgg87
  z33 := Tryz.sizeOf87
  v33 := Tryz.zeroValue87 }
def Tryz.sorted23_ren : Go.Shelf.Ren := ⟨fun | 6 => 23 | 8 => 44 | 9 => 45 | 11 => 66 | 13 => 68 | 12 => 67 | 23 => 94 | 24 => 95 | 14 => 85 | 15 => 86 | 16 => 87 | 17 => 88 | 18 => 89 | 19 => 90 | 20 => 91 | 21 => 92 | 22 => 93 | 25 => 105 | 26 => 106 | 27 => 107 | 28 => 108 | 29 => 109 | 30 => 110 | 31 => 122 | n => n, fun | 26 => 9 | 28 => 63 | 24 => 41 | 0 => 0 | 3 => 3 | 37 => 106 | 48 => 131 | 50 => 23 | 4 => 4 | 40 => 124 | 39 => 123 | 45 => 82 | 5 => 5 | 9 => 9 | 51 => 147 | 55 => 151 | 57 => 163 | 58 => 164 | 33 => 87 | n => n, fun | n => n⟩
theorem Tryz.sorted23 : Go.Proofs.SlLaysZ.n6 Tryz.prog Tryz.sorted23_ren := {
  mixed := by kernel_rfl
  f6 := ⟨Tryz.f23.name, by decide, Tryz.func23.trans (congrArg some (by kernel_rfl))⟩
  f8 := ⟨Tryz.f44.name, by decide, Tryz.func44.trans (congrArg some (by kernel_rfl))⟩
  f11 := ⟨Tryz.f66.name, by decide, Tryz.func66.trans (congrArg some (by kernel_rfl))⟩
  t0 := Tryz.underlying0
  a0 := Tryz.isAgg0
  z0 := Tryz.sizeOf0
  v0 := Tryz.zeroValue0
  t24 := Tryz.underlying41
  a24 := Tryz.isAgg41
  z24 := Tryz.sizeOf41
  v24 := Tryz.zeroValue41
  t26 := Tryz.underlying9
  a26 := Tryz.isAgg9
  z26 := Tryz.sizeOf9
  v26 := Tryz.zeroValue9
  t28 := Tryz.underlying63
  a28 := Tryz.isAgg63
  z28 := Tryz.sizeOf63
  v28 := Tryz.zeroValue63
  i26 := by kernel_rfl }
def Tryz.sort45_ren : Go.Shelf.Ren := ⟨fun | 6 => 45 | 8 => 68 | 9 => 67 | 19 => 94 | 20 => 95 | 21 => 85 | 22 => 86 | 23 => 87 | 24 => 88 | 25 => 89 | 26 => 90 | 27 => 91 | 28 => 92 | 29 => 93 | 36 => 105 | 31 => 106 | 32 => 107 | 37 => 108 | 38 => 109 | 39 => 110 | 41 => 122 | n => n, fun | 27 => 41 | 29 => 9 | 3 => 3 | 32 => 106 | 26 => 41 | 0 => 0 | 44 => 131 | 46 => 23 | 4 => 4 | 36 => 124 | 35 => 123 | 41 => 82 | 5 => 5 | 9 => 9 | 53 => 147 | 57 => 151 | 63 => 163 | 64 => 164 | n => n, fun | n => n⟩
theorem Tryz.sort45 : Go.Proofs.SlLaysM.n6 Tryz.prog Tryz.sort45_ren := {
  mixed := by kernel_rfl
  f6 := ⟨Tryz.f45.name, by decide, Tryz.func45.trans (congrArg some (by kernel_rfl))⟩
  f8 := Tryz.func68.trans (congrArg some (by kernel_rfl))
  f9 := ⟨Tryz.f67.name, by decide, Tryz.func67.trans (congrArg some (by kernel_rfl))⟩
  f19 := Tryz.func94.trans (congrArg some (by kernel_rfl))
  f20 := Tryz.func95.trans (congrArg some (by kernel_rfl))
  f21 := ⟨Tryz.f85.name, by decide, Tryz.func85.trans (congrArg some (by kernel_rfl))⟩
  f22 := ⟨Tryz.f86.name, by decide, Tryz.func86.trans (congrArg some (by kernel_rfl))⟩
  f23 := ⟨Tryz.f87.name, by decide, Tryz.func87.trans (congrArg some (by kernel_rfl))⟩
  f24 := ⟨Tryz.f88.name, by decide, Tryz.func88.trans (congrArg some (by kernel_rfl))⟩
  f25 := ⟨Tryz.f89.name, by decide, Tryz.func89.trans (congrArg some (by kernel_rfl))⟩
  f26 := ⟨Tryz.f90.name, by decide, Tryz.func90.trans (congrArg some (by kernel_rfl))⟩
  f27 := ⟨Tryz.f91.name, by decide, Tryz.func91.trans (congrArg some (by kernel_rfl))⟩
  f28 := ⟨Tryz.f92.name, by decide, Tryz.func92.trans (congrArg some (by kernel_rfl))⟩
  f29 := ⟨Tryz.f93.name, by decide, Tryz.func93.trans (congrArg some (by kernel_rfl))⟩
  f31 := Tryz.func106.trans (congrArg some (by kernel_rfl))
  f32 := Tryz.func107.trans (congrArg some (by kernel_rfl))
  f36 := ⟨Tryz.f105.name, by decide, Tryz.func105.trans (congrArg some (by kernel_rfl))⟩
  f37 := ⟨Tryz.f108.name, by decide, Tryz.func108.trans (congrArg some (by kernel_rfl))⟩
  f38 := ⟨Tryz.f109.name, by decide, Tryz.func109.trans (congrArg some (by kernel_rfl))⟩
  f39 := ⟨Tryz.f110.name, by decide, Tryz.func110.trans (congrArg some (by kernel_rfl))⟩
  f41 := ⟨Tryz.f122.name, by decide, Tryz.func122.trans (congrArg some (by kernel_rfl))⟩
  t0 := Tryz.underlying0
  a0 := Tryz.isAgg0
  z0 := Tryz.sizeOf0
  v0 := Tryz.zeroValue0
  t3 := Tryz.underlying3
  a3 := Tryz.isAgg3
  z3 := Tryz.sizeOf3
  v3 := Tryz.zeroValue3
  t4 := Tryz.underlying4
  a4 := Tryz.isAgg4
  z4 := Tryz.sizeOf4
  v4 := Tryz.zeroValue4
  t5 := Tryz.underlying5
  a5 := Tryz.isAgg5
  z5 := Tryz.sizeOf5
  v5 := Tryz.zeroValue5
  t9 := Tryz.underlying9
  a9 := Tryz.isAgg9
  z9 := Tryz.sizeOf9
  v9 := Tryz.zeroValue9
  t26 := Tryz.underlying41
  a26 := Tryz.isAgg41
  z26 := Tryz.sizeOf41
  v26 := Tryz.zeroValue41
  t27 := Tryz.underlying41
  a27 := Tryz.isAgg41
  z27 := Tryz.sizeOf41
  v27 := Tryz.zeroValue41
  t29 := Tryz.underlying9
  a29 := Tryz.isAgg9
  z29 := Tryz.sizeOf9
  v29 := Tryz.zeroValue9
  t32 := Tryz.underlying106
  a32 := Tryz.isAgg106
  z32 := Tryz.sizeOf106
  v32 := Tryz.zeroValue106
  t35 := Tryz.underlying123
  a35 := Tryz.isAgg123
  z35 := Tryz.sizeOf123
  v35 := Tryz.zeroValue123
  t36 := Tryz.underlying124
  a36 := Tryz.isAgg124
  z36 := Tryz.sizeOf124
  v36 := Tryz.zeroValue124
  t41 := Tryz.underlying82
  a41 := Tryz.isAgg82
  z41 := Tryz.sizeOf82
  v41 := Tryz.zeroValue82
  t44 := Tryz.underlying131
  a44 := Tryz.isAgg131
  z44 := Tryz.sizeOf131
  v44 := Tryz.zeroValue131
  t46 := Tryz.underlying23
  a46 := Tryz.isAgg23
  z46 := Tryz.sizeOf23
  v46 := Tryz.zeroValue23
  t53 := Tryz.underlying147
  a53 := Tryz.isAgg147
  z53 := Tryz.sizeOf147
  v53 := Tryz.zeroValue147
  t57 := Tryz.underlying151
  a57 := Tryz.isAgg151
  z57 := Tryz.sizeOf151
  v57 := Tryz.zeroValue151
  t63 := Tryz.underlying163
  a63 := Tryz.isAgg163
  z63 := Tryz.sizeOf163
  v63 := Tryz.zeroValue163
  t64 := Tryz.underlying164
  a64 := Tryz.isAgg164
  z64 := Tryz.sizeOf164
  v64 := Tryz.zeroValue164 }
end Go.Proofs

/-
  Sec: slices.Sorted over a map's keys, told by their number: whatever map of texts, in whatever cell its iterator finds it. (The walk of the iterator after the worked proof GgCollectAtTheDump; the rest is the shelf's.)
-/
namespace Go.Abs.SeatC
open Go Go.Abs Go.Proofs Go.RowKit Go.Maps Go.Sort Go.Shelf

set_option maxRecDepth 100000 in
set_option maxHeartbeats 1000000 in
/-- The keys' iterator over a map that lies in any cell: the keys come, each once. -/
theorem iter46 {H : Type} (l B O b nn : Nat) (D : DataW H) {R : Value → Option (DataW H × List MemPlace)} (J : List (List UInt8) → World → Prop)
    (hY : ∀ pre x W, J pre W → pre.length < Maps.size D → YieldAt Fence.wide 1 Tryz.prog l #[encStr x] W fun e W' => e = .returned (.bool true) ∧ J (pre ++ [x]) W' ∧ KeepsWalks W W')
    (W : World) (hJ : AbidesFrom W.heap.size J) (hm : W.cell? ⟨B, O, none⟩ = some (.map (some b))) (hown : W.ownsMap Tryz.prog 9 R b nn D) (h0 : J [] W) :
    CallsIn Fence.wide 2 Tryz.prog 46 #[.func (.yield l) #[] #[], .pointer (some ⟨B, O, none⟩)] W fun e W' => (∃ v, e = .returned v) ∧ ∃ ss : List (List UInt8), ss.Perm (strKeys D) ∧ J ss W' := by
  have mixed := Tryz.sorted23.mixed
  have t65 := Tryz.underlying65
  have t9 := Tryz.underlying9
  refine callsIn_of_wp Tryz.func46 rfl trivial ?_ rfl
  simp only [Tryz.ntmps46, List.size_toArray, List.length_cons, List.length_nil, Nat.reduceAdd, Nat.reduceSub, Array.replicate_succ, Array.replicate_zero, List.push_toArray, List.append_toArray, List.nil_append, List.cons_append]
  gi_wp2_with (first
    | (gi_at_range; refine wpListIn_range_own _ rfl _ 65 rfl 9 4 (string_keyed t9) t65 _ b nn _ rfl hown ?_; intro w0 hrg0 hg0 hs0)
    | gi_in)
  go_frame
  gi_loopw [3] (fun _ wr => ∃ (left : Lit → Bool) (cnt : Nat) (ss : List (List UInt8)), wr.ranges Tryz.prog 9 R b W.heap.size nn D left cnt ∧ ss.length + cnt ≤ Maps.size D ∧ Collected D left ss ∧ J ss wr)
    (fun _ wr => wr.rangeLeft b W.heap.size)
  case atStart =>
    exact ⟨_, _, [], hrg0, by simp, Collected.start D, hJ [] W w0 none h0 hg0 (fun r e => by cases e)⟩
  case round =>
    obtain ⟨left, cnt, ss, hrg, hcs, hC, hJs⟩ := hrel
    gi_wp2_with (first
      | (gi_at_next; refine wpListIn_next_ranges _ rfl _ rfl 9 (string_keyed t9) R encStr id (fun key kl hk => by obtain ⟨x, hx, _⟩ := Maps.keyOf_str t9 hk; exact ⟨x, hx⟩) (fun v _ _ => ⟨v, rfl⟩) b W.heap.size nn _ _ _ rfl hrg ?_ ?_)
      | gi_in)
    · intro hc0 hl0
      gi_wp2
      go_end0
      exact ⟨⟨_, rfl⟩, ss, hC.perm hown (string_keyed t9) t9 hl0, hJs⟩
    · intro x c kl yd yp w2 cnt2 hkey hlk hv hat hrg2 hlt hg2 hs2 hen
      obtain ⟨x', ex, rfl, _⟩ := Maps.keyOf_str t9 hkey
      obtain rfl : x = x' := encStr_inj ex
      have hJ2 : J ss w2 := hJ ss wr w2 (some W.heap.size) hJs hg2 (fun r e => by cases e; exact ⟨Nat.le_refl _, hrg.iter_walk⟩)
      obtain ⟨fn, tmps, assign, body, hy, hR⟩ := hY ss x w2 hJ2 (by omega)
      clear hs2
      gi_wp2
      refine hR.mono ?_
      rintro e W3 ⟨rfl, hJ3, hk3⟩
      gi_wp2
      have hrg3 := hrg2.of_walks hk3
      go_roundw
      case rel => exact ⟨_, cnt2, ss ++ [x], hrg3, by simp; omega, hC.step hlk hat, hJ3⟩
      case measure => rw [hrg3.left_eq, hrg.left_eq]; exact hlt

theorem gives46 {H : Type} (B O b nn : Nat) (D : DataW H) {R : Value → Option (DataW H × List MemPlace)} (w : World) (hB : B < w.heap.size)
    (hm : w.cell? ⟨B, O, none⟩ = some (.map (some b))) (hown : w.ownsMap Tryz.prog 9 R b nn D) :
    SeqGives Fence.wide 2 Tryz.prog 46 #[.pointer (some ⟨B, O, none⟩)] encStr (fun ss => ss.Perm (strKeys D)) (Maps.size D) w := fun l J W hW hJ hY h0 => by
  have hown' : W.ownsMap Tryz.prog 9 R b nn D := by
    have hbl := hown.lt
    obtain ⟨es, clock, hb, Ft, hs, hD⟩ := hown
    exact ⟨es, clock, (hW.block b hbl).trans hb, Ft, hs, hD⟩
  exact iter46 l B O b nn D J hY W hJ ((hW.cell (p := ⟨B, O, none⟩) hB).trans hm) hown' h0

/-- slices.Sort's two contracts. -/
theorem sorts23 (m : Nat) : AnyZ.SortsIn Tryz.prog Tryz.sorted23_ren Fence.wide m :=
  ⟨fun blk off cap ss W hH hblk hsz => callsIn_wide.2 (AnyM.slices_Sort_string Tryz.sort45 blk off cap ss W hH hblk hsz),
   fun p cap W => callsIn_wide.2 (AnyM.slices_Sort_string_none Tryz.sort45 p cap W)⟩

set_option maxHeartbeats 1000000 in
theorem sorted23 {H : Type} (B O b nn : Nat) (D : DataW H) (R : Value → Option (DataW H × List MemPlace)) (w : World) (hB : B < w.heap.size)
    (hm : w.cell? ⟨B, O, none⟩ = some (.map (some b))) (hown : w.ownsMap Tryz.prog 9 R b nn D) (hmax : Maps.size D ≤ 1000) :
    Calls Tryz.prog 23 #[.func (.func 46) #[] #[.pointer (some ⟨B, O, none⟩)]] w fun e w' => ∃ (v : Value) (ss : List (List UInt8)), e = .returned v ∧ ss.Perm (strKeys D) ∧
      w'.ownsRow w.heap.size 9 1 v ss.length ((ss.mergeSort (fun x y => decide (x ≤ y))).map encStr) ∧ (v = .slice none 0 0 ↔ ss = []) ∧ Below w.heap.size w w' := by
  refine (callsIn_wide (n := 5)).1 ?_
  have hml : (1000 : Nat) ≤ maxLen := by decide
  exact AnyZ.sorted_in Tryz.sorted23 Fence.wide 5 trivial trivial trivial trivial rfl (by omega) (sorts23 _) (enters_of Tryz.func45 (by kernel_rfl) rfl) 46 #[.pointer (some ⟨B, O, none⟩)] trivial (enters_of Tryz.func46 (by kernel_rfl) rfl) _ _ (by omega) (by omega) _ (gives46 B O b nn D w hB hm hown)
end Go.Abs.SeatC

/-
  Sec: slices.Sorted over a map's keys, as a summary on values.
-/
namespace Go.Abs.SeatC
open Go Go.Abs Go.Proofs Go.RowKit Go.Maps Go.Sort
set_option linter.unusedSectionVars false
variable [Syms]

def differs (s : List Nat) : V → Bool
  | .str t => !(s == t)
  | _ => false

/-- Texts, not long, each once. -/
def plainKeys : List V → Bool
  | [] => true
  | .str s :: l => Nat.ble s.length 1000 && (l.all (differs s) && plainKeys l)
  | _ => false

theorem plainKeys_ok {M : Mem} {β : Places} : ∀ (ks : List V) (ms : List MapEntry), plainKeys ks = true → RelKs M β ks ms →
    (∀ x ∈ ms, ∃ s, x.key = .string s ∧ s.size ≤ 1000 ∧ .str (bytesOf s) ∈ ks) ∧ (ms.map (·.key)).Nodup ∧ ms.length = ks.length
  | [], ms, _, h => by simp only [RelKs] at h; subst h; simp
  | v :: ks, ms, hp, h => by
    cases v with
    | str s =>
      simp only [plainKeys, Bool.and_eq_true] at hp
      simp only [RelKs] at h
      obtain ⟨c, cs, rfl, _, hr, ht⟩ := h
      obtain ⟨h1, h2, h3⟩ := plainKeys_ok ks cs hp.2.2 ht
      simp only [Rel] at hr
      obtain ⟨b, hb, rfl⟩ := hr
      refine ⟨fun x hx => ?_, ?_, by simp [h3]⟩
      · rcases List.mem_cons.1 hx with rfl | hx
        · exact ⟨b, hb, by rw [← bytesOf_length]; exact Nat.le_of_ble_eq_true hp.1, List.mem_cons_self⟩
        · obtain ⟨s, e1, e2, e3⟩ := h1 x hx
          exact ⟨s, e1, e2, List.mem_cons_of_mem _ e3⟩
      · rw [List.map_cons, List.nodup_cons]
        refine ⟨fun hm => ?_, h2⟩
        obtain ⟨x, hx, he⟩ := List.mem_map.1 hm
        obtain ⟨s, e1, _, e3⟩ := h1 x hx
        rw [e1, hb] at he
        cases he
        have := List.all_eq_true.1 hp.2.1 _ e3
        simp [differs] at this
    | _ => simp [plainKeys] at hp

def sortF : List V → Option V
  | [.func (.func 46) [] [.rptr (.rmap ks _ :: _) 0]] => if plainKeys ks && Nat.ble ks.length 1000 then some (if Nat.beq ks.length 0 then .nilSlice else .rslice [] 0 ks.length none) else none
  | _ => none

theorem insert_length {H : Type} (x : Lit × DataW H) : ∀ l : List (Lit × DataW H), (DataW.insert x l).length = l.length + 1
  | [] => rfl
  | y :: r => by
    unfold DataW.insert
    split
    · simp
    · simp [insert_length x r]

theorem fold_length {H : Type} : ∀ l : List (Lit × DataW H), (l.foldr DataW.insert []).length = l.length
  | [] => rfl
  | x :: l => by rw [List.foldr_cons, insert_length, fold_length l]; rfl

theorem sort23 : PureSpec Tryz.prog gl 23 sortF := by
  intro M args cargs r w G hok himm R hr
  unfold sortF at hr
  split at hr
  · rename_i ks vs row
    split at hr
    · rename_i hc
      cases hr
      simp only [Bool.and_eq_true] at hc
      have hn := Nat.le_of_ble_eq_true hc.2
      simp only [RelL, Rel] at R
      obtain ⟨c1, cs1, rfl, ⟨fn', a, b, hfn, rfl, ha, c2, cs2, hb, ⟨B, O, hrow, rfl⟩, rfl⟩, rfl⟩ := R
      have hfn' : fn' = .func 46 := hfn
      subst hfn'
      obtain rfl : a = #[] := by cases a; simp_all
      obtain rfl : b = #[.pointer (some ⟨B, O + 0, none⟩)] := by cases b; simp_all
      simp only [RelRow, Rel] at hrow
      obtain ⟨⟨c3, hc3, _, _, rr, es, clock, rfl, ho, hks, hvs, hborn, hnod⟩, _⟩ := hrow
      obtain ⟨k1, k2, k3⟩ := plainKeys_ok ks es.toList hc.1 hks
      have hsz : es.size = ks.length := by rw [← k3]; simp
      have hml : (1000 : Nat) ≤ maxLen := by decide
      have hcell := hok.mem _ _ hc3
      have hB : B < w.heap.size := lt_of_cell? hcell
      have hobj := hok.memo _ _ ho
      have hown : w.ownsMap Tryz.prog 9 (fun _ => some ((.nil : DataW Unit), [])) rr ks.length (.map ((es.toList.map (WideElems.rg Tryz.prog 9 (fun _ => some ((.nil : DataW Unit), [])))).foldr DataW.insert [])) := by
        refine ⟨es, clock, hobj, ⟨by omega, ⟨hborn, hnod, k2⟩, fun x hx => ?_⟩, by omega, rfl⟩
        obtain ⟨s, e1, e2, _⟩ := k1 x hx
        unfold WideElems.rd
        rw [e1, Go.WideMaps.keyOf_string_mk Tryz.underlying9 (by omega)]
        exact ⟨_, rfl⟩
      have hsize : Maps.size (.map ((es.toList.map (WideElems.rg Tryz.prog 9 (fun _ => some ((.nil : DataW Unit), [])))).foldr DataW.insert [])) = ks.length := by
        rw [Maps.size_eq, fold_length, List.length_map, k3]
      refine .inl ⟨⟨_, Tryz.func23, by kernel_rfl, by kernel_rfl⟩, (sorted23 B O rr ks.length _ _ w hB hcell hown (by omega)).mono ?_⟩
      rintro e w' ⟨v, ss, rfl, hperm, hrow', hnil, hbel⟩
      have hlen : ss.length = ks.length := by
        rw [hperm.length_eq, ← hsize]
        simp [strKeys, Maps.size]
      refine ⟨M, v, rfl, .refl M, .refl _ M, hok.below hbel, hbel, by split <;> rfl, ?_⟩
      rcases hrow'.2 with ⟨rfl, hz⟩ | ⟨g, cap, cur, rfl, _, _, hcap, _⟩
      · have h0 : ks.length = 0 := by omega
        rw [h0]
        simp only [Nat.beq, if_true, Rel]
      · have hne : ks.length ≠ 0 := by
          intro h0
          have : ss = [] := List.eq_nil_of_length_eq_zero (by omega)
          have := hnil.2 this
          cases this
        rw [if_neg (by intro h; exact hne (Nat.eq_of_beq_eq_true h))]
        simp only [Rel, RelRow]
        exact ⟨g, 0, cap, trivial, by omega, (fun k h => by cases h), ⟨g, 0, none⟩, by rw [hlen], fun _ => rfl⟩
    · cases hr
  · cases hr
end Go.Abs.SeatC
