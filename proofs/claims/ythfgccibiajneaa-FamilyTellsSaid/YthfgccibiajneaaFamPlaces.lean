/-
  A family's Places of a flow: an iterator.
-/
import Derived.Test.YthfgccibiajneaaFamRows
import Derived.Test.YthfgccibiajneaaRegTail
import Derived.Test.YthfgccibiajneaaAggIn
import Derived.WalkSpells
import Derived.WalkLawsBesides
import Derived.Lib.Hide
import Derived.Laws.MakeOwn
import Derived.OwnWalk
import Derived.RangeFuncNested
import Derived.RangeFuncBound
import Derived.RangeFuncCalls
import Derived.RangeFuncLeaves
import Derived.RangeFuncBox
import Derived.Shelf.Abstract
import Derived.Shelf.RegionOpen
import Derived.WalkKit
import Derived.OwnWalkIn
import Derived.TacticsInMore
import Derived.LoopNIn
import Derived.LoopIn
import Derived.Laws.StructEq
namespace Go.Proofs.Ythfgccibiajneaa
open Go.RowKit Go.Shelf
attribute [local go_sem] Oper.semAt_some
def plEnc (c : Cf) (k : Ky) (s : Nat) : Array Value := #[.agg #[.int .i64 s, .int .i64 (idx c k s)]]
/-- How many places a flow has. -/
def plN (c : Cf) (k : Ky) : Nat := if kvld k = true then c.stages.toNat else 0
theorem range_snoc (n : Nat) : List.range (n + 1) = List.range n ++ [n] := List.range_succ
/-- What a round keeps: whatever lay below n₀, and the closure's own boxes. -/
def KpF (n₀ B1 B2 : Nat) (A B : World) : Prop := Below n₀ A B ∧ B.heap[B1]? = A.heap[B1]? ∧ B.heap[B2]? = A.heap[B2]?
theorem KpF.t {n₀ B1 B2 : Nat} {A B C : World} (h : KpF n₀ B1 B2 A B) (k : KpF n₀ B1 B2 B C) : KpF n₀ B1 B2 A C := ⟨h.1.trans k.1, k.2.1.trans h.2.1, k.2.2.trans h.2.2⟩
theorem KpF.b {n₀ B1 B2 : Nat} {w : World} (hn : n₀ ≤ w.heap.size) (h1 : B1 < w.heap.size) (h2 : B2 < w.heap.size) (W : World) (l : Nat) (o o' : Obj) (hl : w.heap.size ≤ l) (h : W.heap[l]? = some o) (q1 : o.isCells = false) (q2 : o.isWalk = false) : KpF n₀ B1 B2 W (W.putObj l o') :=
  ⟨belowK_b hn W l o o' hl h q1 q2, World.putObj_heap_other (by omega), World.putObj_heap_other (by omega)⟩
theorem KpF.refl (n₀ B1 B2 : Nat) (A : World) : KpF n₀ B1 B2 A A := ⟨Below.refl _ _, rfl, rfl⟩
theorem KpF.below {n₀ B1 B2 : Nat} {A B : World} (hb : Below A.heap.size A B) (hn : n₀ ≤ A.heap.size) (h1 : B1 < A.heap.size) (h2 : B2 < A.heap.size) : KpF n₀ B1 B2 A B := ⟨hb.mono hn, hb.block _ h1, hb.block _ h2⟩
theorem KpF.lt1 {n₀ B1 B2 : Nat} {A B : World} (h : KpF n₀ B1 B2 A B) (h1 : B1 < A.heap.size) : B1 < B.heap.size := by
  have := h.2.1
  rw [Array.getElem?_eq_getElem h1] at this
  exact (Array.getElem?_eq_some_iff.1 this).1
theorem KpF.lt2 {n₀ B1 B2 : Nat} {A B : World} (h : KpF n₀ B1 B2 A B) (h1 : B2 < A.heap.size) : B2 < B.heap.size := by
  have := h.2.2
  rw [Array.getElem?_eq_getElem h1] at this
  exact (Array.getElem?_eq_some_iff.1 this).1
theorem grown_of_below {a b : World} (h : Below a.heap.size a b) : a.grownBy b none := ⟨h.os, h.tape, h.output, h.size, fun k hk _ => h.block k hk⟩
set_option maxRecDepth 100000 in
set_option maxHeartbeats 4000000 in
theorem places1_any (n l' B1 B2 n₀ gf : Nat) (c : Cf) (k : Ky) (hst : c.stages ≤ 4) (hsz : 1 ≤ c.size) (hf : gf < n₀) (J Jx : List Nat → World → Prop) (W : World) (hn0 : n₀ ≤ W.heap.size) (hB1 : B1 < W.heap.size) (hB2 : B2 < W.heap.size)
    (hJ : AbidesFrom W.heap.size J)
    (hY : ∀ pre x W1, J pre W1 → pre.length < 4 → YieldAt Fence.wide (n - 1) Try.prog l' (plEnc c k x) W1 fun e W' =>
      (e = .returned (.bool true) ∧ J (pre ++ [x]) W' ∧ KpF n₀ B1 B2 W1 W') ∨ (e = .returned (.bool false) ∧ Jx (pre ++ [x]) W'))
    (hBs : At W B1 37 #[.pointer (some ⟨gf, 0, none⟩)]) (hBk : At W B2 31 (kc k)) (hF : At W gf 139 (fc c)) (h0 : J [] W) :
    CallsIn Fence.wide n Try.prog 115 #[.func (.yield l') #[] #[], .pointer (some ⟨B1, 0, none⟩), .pointer (some ⟨B2, 0, none⟩)] W fun e W' => (∃ v, e = .returned v) ∧
      ((∃ ys, ys = List.range (plN c k) ∧ J ys W') ∨ (∃ pre, (∃ q, q ≤ plN c k ∧ pre = List.range q) ∧ Jx pre W')) := by
  have HF := Lib.hid hF
  have HS := Lib.hid hBs
  have HK := Lib.hid hBk
  have HJ := Lib.hid hJ
  have HY := Lib.hid hY
  have HPN := Lib.hid (show plN c k = (if kvld k = true then c.stages.toNat else 0) from rfl)
  have hN4 : plN c k ≤ 4 := by unfold plN; split <;> omega
  have HY4 : Hid (∀ s : Nat, s < plN c k → placeOf c k s = .tuple #[.agg #[.int .i64 s, .int .i64 (idx c k s)], .bool true]) := Lib.hid fun s hs => by
    unfold plN at hs
    split at hs
    · rename_i hv; exact placeOf_yes c k s hv (by omega)
    · omega
  have HN4 : Hid (∀ s : Nat, ¬ s < plN c k → placeOf c k s = .tuple #[.agg #[.int .i64 0, .int .i64 0], .bool false]) := Lib.hid fun s hs => by
    unfold plN at hs
    split at hs
    · exact placeOf_no c k s (.inr (.inr (by omega)))
    · rename_i hv; exact placeOf_no c k s (.inl (by simpa using hv))
  clear hF hBs hBk hJ hY
  generalize plN c k = N at *
  refine callsIn_of_wp Try.func115 rfl trivial ?_ rfl
  simp only [Try.ntmps115, List.size_toArray, List.length_cons, List.length_nil, Nat.reduceAdd, Nat.reduceSub, Array.replicate_succ, Array.replicate_zero, List.push_toArray, List.append_toArray, List.nil_append, List.cons_append]
  gi_wp2
  gi_loopw [4, 5, 6] (fun i _ _ wr => ∃ s : Nat, s ≤ N ∧ i = .int .i64 s ∧ J (List.range s) wr ∧ KpF n₀ B1 B2 W wr) (fun i _ _ wr => N + 1 - (intOf i).toNat)
  case atStart => exact ⟨0, Nat.zero_le _, rfl, h0, KpF.refl _ _ _ _⟩
  case round =>
    obtain ⟨s, hs, rfl, hj, hk⟩ := hrel
    have HJJ := Lib.hid hj
    have HKP := Lib.hid hk
    clear hj hk
    have hAs : At wr B1 37 #[.pointer (some ⟨gf, 0, none⟩)] := HKP.out.2.1.trans HS.out
    have hAk : At wr B2 31 (kc k) := HKP.out.2.2.trans HK.out
    have hAf : At wr gf 139 (fc c) := HF.out.below HKP.out.1 hf
    have HAF := Lib.hid hAf
    have l1 := hAk.lt
    have c1 := hAs.cell 0
    have l2 := hAs.lt
    simp only [List.getElem?_toArray, List.getElem?_cons_zero] at c1
    have HAK := Lib.hid hAk
    clear hAs hAk hAf
    by_cases hlt : s < N
    · have P1 := Lib.hid (HY4.out s hlt)
      gi_wp2_with (refine wpListIn_load_part rfl 31 _ rfl _ 37 Try.underlying31 rfl sizeK B2 0 31 (kc k) rfl HAK.out (by rw [kc_size]; decide) ?_)
      refine ⟨trivial, fun h => (by simp [Fence.wide] at h), (callsIn_wide.2 (place_any gf c k s _ HAF.out hst hsz)).mono ?_⟩
      rintro e w1 ⟨rfl, hb⟩
      rw [P1.out]
      have HKP1 := Lib.hid (HKP.out.t (KpF.below hb (Nat.le_trans hn0 HKP.out.1.size) l2 l1))
      have HJ1 := Lib.hid (HJ.out _ _ ((w1.alloc (.cells #[.int .i64 (s : Int), .int .i64 (idx c k s)] 41))) none (HJ.out _ _ _ none HJJ.out (grown_of_below hb) (fun r e => by cases e)) (World.grownBy_alloc w1 _ none) (fun r e => by cases e))
      have hll : (List.range s).length < 4 := by rw [List.length_range]; omega
      obtain ⟨fn, tmps, assign, body, hy, hR⟩ := HY.out _ s _ HJ1.out hll
      simp only [plEnc] at hy
      have HR := Lib.hid hR
      clear hR hll l1 l2 c1
      gi_wp2
      refine ⟨fun h => (by simp [Fence.wide] at h), HR.out.mono ?_⟩
      rintro e W3 (⟨rfl, hJ3, hk3⟩ | ⟨rfl, hJx3⟩)
      · have HJ3 := Lib.hid hJ3
        have HK3 := Lib.hid hk3
        clear hJ3 hk3
        gi_wp2
        go_roundw
        case rel => exact ⟨s + 1, by omega, by go_num, by rw [range_snoc]; exact HJ3.out, (HKP1.out.t (KpF.below ((Below.refl _ _).alloc (Nat.le_refl _) _) (Nat.le_trans hn0 HKP1.out.1.size) (KpF.lt1 HKP1.out hB1) (KpF.lt2 HKP1.out hB2))).t HK3.out⟩
        case measure => simp [intOf]; omega
      · have HJ3 := Lib.hid hJx3
        clear hJx3
        gi_wp2
        refine bodyPost_ret (results_none rfl _ _ _) rfl ?_
        exact ⟨⟨_, rfl⟩, .inr ⟨_, ⟨s + 1, by omega, (range_snoc s).symm⟩, HJ3.out⟩⟩
    · obtain rfl : s = N := by omega
      have P0 := Lib.hid (HN4.out s hlt)
      gi_wp2_with (refine wpListIn_load_part rfl 31 _ rfl _ 37 Try.underlying31 rfl sizeK B2 0 31 (kc k) rfl HAK.out (by rw [kc_size]; decide) ?_)
      refine ⟨trivial, fun h => (by simp [Fence.wide] at h), (callsIn_wide.2 (place_any gf c k s _ HAF.out hst hsz)).mono ?_⟩
      rintro e w1 ⟨rfl, hb⟩
      rw [P0.out]
      have HJ1 := Lib.hid (HJ.out _ _ ((w1.alloc (.cells #[.int .i64 0, .int .i64 0] 41))) none (HJ.out _ _ _ none HJJ.out (grown_of_below hb) (fun r e => by cases e)) (World.grownBy_alloc w1 _ none) (fun r e => by cases e))
      clear l1 l2 c1 hb
      gi_wp2
      refine ⟨fun _ h => (by cases h), ?_⟩
      gi_wp2
      refine bodyPost_ret (results_none rfl _ _ _) rfl ?_
      exact ⟨⟨_, rfl⟩, .inl ⟨_, rfl, HJ1.out⟩⟩
theorem placesv_any (p : Option Addr) (k : Ky) (w : World) :
    Calls Try.prog 88 #[.pointer p, .agg (kc k)] w fun e w' => e = .returned (.func (.func 115) #[] #[.pointer (some ⟨w.heap.size, 0, none⟩), .pointer (some ⟨w.heap.size + 1, 0, none⟩)]) ∧ w' = (w.alloc (.cells #[.pointer p] 37)).alloc (.cells (kc k) 31) := by
  go_enter Try.func88, Try.ntmps88
  go_wp2_with fail
  go_ret
  exact ⟨rfl, rfl⟩
theorem places_stops (n B1 B2 n₀ gf : Nat) (c : Cf) (k : Ky) (hst : c.stages ≤ 4) (hsz : 1 ≤ c.size) (hf : gf < n₀) (w : World) (hn0 : n₀ ≤ w.heap.size) (hB1 : B1 < w.heap.size) (hB2 : B2 < w.heap.size)
    (hBs : At w B1 37 #[.pointer (some ⟨gf, 0, none⟩)]) (hBk : At w B2 31 (kc k)) (hF : At w gf 139 (fc c)) :
    SeqStopsK Fence.wide n Try.prog 115 #[.pointer (some ⟨B1, 0, none⟩), .pointer (some ⟨B2, 0, none⟩)] (plEnc c k) (KpF n₀ B1 B2) (fun ys => ys = List.range (plN c k)) (fun pre => ∃ q, q ≤ plN c k ∧ pre = List.range q) 4 w := fun l' J Jx W hW hJ _ hY h0 =>
  places1_any n l' B1 B2 n₀ gf c k hst hsz hf J Jx W (Nat.le_trans hn0 hW.size) (Nat.lt_of_lt_of_le hB1 hW.size) (Nat.lt_of_lt_of_le hB2 hW.size) hJ hY (hBs.below hW hB1) (hBk.below hW hB2) (hF.below hW (by omega)) h0
end Go.Proofs.Ythfgccibiajneaa
