/-
  The grid's methods, one contract each, for each type that a grid is made of.
-/
import Derived.Test.YtjlgkljifpjehaaGridNew
import Derived.Test.YtjlgkljifpjehaaRegTail
import Derived.WalkSpells
import Derived.WalkLawsBesides
import Derived.Lib.Hide
import Derived.Laws.MakeOwn
import Derived.OwnWalk
import Derived.RangeFuncNested
import Derived.RangeFuncBound
import Derived.RangeFuncCalls
import Derived.RangeFuncLeaves
import Derived.RangeFuncBox
import Derived.Shelf.Abstract
import Derived.Shelf.RegionOpen
import Derived.WalkKit
import Derived.OwnWalkIn
import Derived.TacticsInMore
import Derived.LoopNIn
import Derived.LoopIn
import Derived.Laws.StructEq
namespace Go.Proofs.Ytjlgkljifpjehaa
open Go.RowKit Go.Shelf
attribute [local go_sem] Oper.semAt_some

namespace Gi
/-- What has come when k cells are through: place by place. -/
def got (l : List (Option V)) (k : Nat) : List (Nat × V) := (List.range k).filterMap fun j => (l[j]?).join.map fun x => (j, x)
theorem got_none {l : List (Option V)} {k : Nat} (h : l[k]? = some none) : got l (k + 1) = got l k := by
  unfold got; rw [List.range_succ, List.filterMap_append]; simp [h]
theorem got_some {l : List (Option V)} {k : Nat} {x : V} (h : l[k]? = some (some x)) : got l (k + 1) = got l k ++ [(k, x)] := by
  unfold got; rw [List.range_succ, List.filterMap_append]; simp [h]
theorem got_length (l : List (Option V)) (k : Nat) : (got l k).length ≤ k := by
  unfold got; exact Nat.le_trans (List.length_filterMap_le _ _) (by simp)
/-- What a round keeps: whatever lay below n₀, and the closure's own box. -/
def Kp (n₀ Bg : Nat) (A B : World) : Prop := Below n₀ A B ∧ B.heap[Bg]? = A.heap[Bg]?
theorem Kp.t {n₀ Bg : Nat} {A B C : World} (h : Kp n₀ Bg A B) (k : Kp n₀ Bg B C) : Kp n₀ Bg A C := ⟨h.1.trans k.1, k.2.trans h.2⟩
theorem Kp.b {n₀ Bg : Nat} {w : World} (hn : n₀ ≤ w.heap.size) (hB : Bg < w.heap.size) (W : World) (l : Nat) (o o' : Obj) (hl : w.heap.size ≤ l) (h : W.heap[l]? = some o) (h1 : o.isCells = false) (h2 : o.isWalk = false) : Kp n₀ Bg W (W.putObj l o') :=
  ⟨belowK_b hn W l o o' hl h h1 h2, World.putObj_heap_other (by omega)⟩
theorem Kp.refl (n₀ Bg : Nat) (A : World) : Kp n₀ Bg A A := ⟨Below.refl _ _, rfl⟩
def encs (sz : Nat) (x : Nat × V) : Array Value := #[.agg #[.int .i64 ((x.1 / sz : Nat) : Int), .int .i64 ((x.1 % sz : Nat) : Int)], .int .i64 x.2]
set_option maxRecDepth 100000 in
set_option maxHeartbeats 4000000 in
theorem all1_any (n l' Bg n₀ gh gl st sz : Nat) (l : List (Option V)) (h1 : 1 ≤ sz) (hh : gh < n₀) (hgl : gl < n₀) (J Jx : List (Nat × V) → World → Prop) (W : World) (hn0 : n₀ ≤ W.heap.size) (hB : Bg < W.heap.size)
    (hJ : AbidesFrom W.heap.size J)
    (hY : ∀ pre x W1, J pre W1 → pre.length < l.length → YieldAt Fence.wide (n - 1) Try.prog l' (encs sz x) W1 fun e W' =>
      (e = .returned (.bool true) ∧ J (pre ++ [x]) W' ∧ Kp n₀ Bg W1 W') ∨ (e = .returned (.bool false) ∧ Jx (pre ++ [x]) W'))
    (hBs : W.cell? ⟨Bg, 0, none⟩ = some (.pointer (some ⟨gh, 0, none⟩))) (hG : Gr W gh gl st sz l) (h0 : J [] W) :
    CallsIn Fence.wide n Try.prog 59 #[.func (.yield l') #[] #[], .pointer (some ⟨Bg, 0, none⟩)] W fun e W' => (∃ v, e = .returned v) ∧
      ((∃ ys, ys = got l (st * sz) ∧ J ys W') ∨ (∃ pre, (∃ k, k ≤ st * sz ∧ pre = got l k) ∧ Jx pre W')) := by
  have HG := Lib.hid hG
  have c2 := hG.1.cell 2
  simp only [List.getElem?_toArray, List.getElem?_cons_zero, List.getElem?_cons_succ] at c2
  have hll : l.length = st * sz := hG.2.2.1
  have hN : st * sz ≤ 4096 := place_le hG.2.2.2.2.1 hG.2.2.2.2.2
  have HSZ := Lib.hid (show 1 ≤ sz ∧ sz ≤ 1024 from ⟨h1, hG.2.2.2.2.2⟩)
  clear hG h1
  refine callsIn_of_wp Try.func59 rfl trivial ?_ rfl
  simp only [Try.ntmps59, List.size_toArray, List.length_cons, List.length_nil, Nat.reduceAdd, Nat.reduceSub, Array.replicate_succ, Array.replicate_zero, List.push_toArray, List.append_toArray, List.nil_append, List.cons_append]
  have HY := Lib.hid hY
  have HJ := Lib.hid hJ
  clear hY hJ
  generalize hNN : st * sz = N at *
  have HNN := Lib.hid hNN
  clear hNN
  gi_wp2
  gi_loopw [12] (fun i wr => ∃ k : Nat, k ≤ N ∧ i = .int .i64 k ∧ J (got l k) wr ∧ Kp n₀ Bg W wr) (fun i _ => N - (intOf i).toNat)
  case atStart => exact ⟨0, Nat.zero_le _, rfl, h0, Below.refl _ _, rfl⟩
  case round =>
    obtain ⟨k, hk, rfl, hj, hnx⟩ := hrel
    have HJJ := Lib.hid hj
    have HBL := Lib.hid hnx
    clear hj hnx
    have H1 := Lib.hid (HG.out.below HBL.out.1 hh hgl)
    have hBs' : wr.cell? ⟨Bg, 0, none⟩ = some (.pointer (some ⟨gh, 0, none⟩)) := (World.cell?_of_block HBL.out.2).trans hBs
    have c0 := H1.out.1.cell 1
    simp only [List.getElem?_toArray, List.getElem?_cons_zero, List.getElem?_cons_succ] at c0
    have e1 := H1.out.1.lt
    have e2 := H1.out.2.1.lt
    have e3 : Bg < wr.heap.size := by have := HBL.out.1.size; omega
    have e1' : gh < wr.heap.size + 1 := by omega
    have e2' : gl < wr.heap.size + 1 := by omega
    have e3' : Bg < wr.heap.size + 1 := by omega
    have e4' : wr.heap.size < wr.heap.size + 1 := by omega
    by_cases hlt : k < N
    · obtain ⟨o, ho⟩ : ∃ o, l[k]? = some o := ⟨_, List.getElem?_eq_getElem (by omega)⟩
      have d0 := H1.out.cell k 0 (by omega)
      have d1 := H1.out.cell k 1 (by omega)
      rw [ho] at d0 d1
      simp only [Option.bind_some, Nat.add_zero] at d0 d1
      cases o with
      | none =>
        simp only [slot, List.getElem?_cons_zero, List.getElem?_cons_succ] at d0 d1
        gi_wp2
        refine region_tailI 19 [0, 1, 2, 3, 4, 5, 6, 7, 8, 9, 10, 11, 12, 13, 14, 15, 16, 17, 18] [19, 20, 21] (by kernel_rfl) (by kernel_rfl) (fun _ _ d _ _ h => by cases d <;> exact h) ?_
        repeat (first
            | (refine hd_yes rfl (by rfl) (by go_simp; with_reducible rfl) ?_; simp only [Act.put, List.setIfInBounds_toArray, List.set_cons_zero, List.set_cons_succ])
            | (refine hd_no rfl (by rfl) ?_; simp only [Act.put, List.setIfInBounds_toArray, List.set_cons_zero, List.set_cons_succ]))
        refine hd_end ?_
        refine tl_no rfl (by rfl) ?_
        simp only [Act.put, List.setIfInBounds_toArray, List.set_cons_zero, List.set_cons_succ]
        refine tl_no rfl (by rfl) ?_
        simp only [Act.put, List.setIfInBounds_toArray, List.set_cons_zero, List.set_cons_succ]
        refine tl_yes rfl (by rfl) (fun K hK => ?_)
        gi_wp2
        refine tl_end ?_
        gi_wp2
        go_roundw
        case rel => exact ⟨k + 1, by omega, by go_num, by rw [got_none ho]; exact HJ.out _ _ _ none (HJ.out _ _ _ none HJJ.out (World.grownBy_alloc wr _ none) (fun r e => by cases e)) ⟨rfl, rfl, rfl, Nat.le_refl _, fun _ _ _ => rfl⟩ (fun r e => by cases e), (HBL.out.1.alloc (by have := HBL.out.1.size; omega) _).drew, (Below.heap_alloc wr _ Bg e3).trans HBL.out.2⟩
        case measure => simp [intOf]; omega
      | some x =>
        simp only [slot, List.getElem?_cons_zero, List.getElem?_cons_succ] at d0 d1
        obtain ⟨q, hq⟩ : ∃ q : Nat, q = k / sz := ⟨_, rfl⟩
        obtain ⟨r, hr⟩ : ∃ r : Nat, r = k % sz := ⟨_, rfl⟩
        have hqk : q ≤ k := by rw [hq]; exact Nat.div_le_self _ _
        have hrk : r ≤ k := by rw [hr]; exact Nat.mod_le _ _
        have hx1 : ¬ sz = 0 := by have := HSZ.out; omega
        have hx2 : IntKind.i64.wrap ((k : Int) / (sz : Int)) = (q : Int) := by rw [← Int.natCast_ediv, ← hq, IntKind.wrap_i64]; omega
        have hx3 : (k : Int).tmod (sz : Int) = (r : Int) := by rw [Int.tmod_eq_emod_of_nonneg (Int.natCast_nonneg k), ← Int.natCast_emod, ← hr]
        have HJ1 := Lib.hid (HJ.out _ _ ((wr.alloc (.cells #[.bool true, .int .i64 x] 96)).drew) none (HJ.out _ _ _ none HJJ.out (World.grownBy_alloc wr _ none) (fun r e => by cases e)) ⟨rfl, rfl, rfl, Nat.le_refl _, fun _ _ _ => rfl⟩ (fun r e => by cases e))
        obtain ⟨fn, tmps, assign, body, hy, hR⟩ := HY.out _ (k, x) _ HJ1.out (Nat.lt_of_le_of_lt (got_length l k) (by omega))
        simp only [encs] at hy
        rw [← hq, ← hr] at hy
        have HR := Lib.hid hR
        clear hR hq hr hqk hrk
        gi_wp2
        refine region_tailI 19 [0, 1, 2, 3, 4, 5, 6, 7, 8, 9, 10, 11, 12, 13, 14, 15, 16, 17, 18] [19, 20, 21] (by kernel_rfl) (by kernel_rfl) (fun _ _ d _ _ h => by cases d <;> exact h) ?_
        repeat (first
            | (refine hd_yes rfl (by rfl) (by go_simp; with_reducible rfl) ?_; simp only [Act.put, List.setIfInBounds_toArray, List.set_cons_zero, List.set_cons_succ])
            | (refine hd_no rfl (by rfl) ?_; simp only [Act.put, List.setIfInBounds_toArray, List.set_cons_zero, List.set_cons_succ]))
        refine hd_end ?_
        refine tl_yes rfl (by rfl) (fun K hK => ?_)
        gi_wp2
        refine ⟨fun h => (by simp [Fence.wide] at h), HR.out.mono ?_⟩
        rintro e W3 (⟨rfl, hJ3, hk3⟩ | ⟨rfl, hJx3⟩)
        · have HJ3 := Lib.hid hJ3
          have HK3 := Lib.hid hk3
          clear hJ3 hk3
          gi_wp2
          refine tl_yes rfl (by rfl) (fun K2 hK2 => ?_)
          gi_wp2
          refine tl_yes rfl (by rfl) (fun K3 hK3 => ?_)
          gi_wp2
          refine tl_end ?_
          gi_wp2
          go_roundw
          case rel => exact ⟨k + 1, by omega, by go_num, by rw [got_some ho]; exact HJ3.out, (HBL.out.1.alloc (by have := HBL.out.1.size; omega) _).drew.trans HK3.out.1, (HK3.out.2.trans (Below.heap_alloc wr _ Bg e3)).trans HBL.out.2⟩
          case measure => simp [intOf]; omega
        · have HJ3 := Lib.hid hJx3
          clear hJx3
          gi_wp2
          refine tl_yes rfl (by rfl) (fun K2 hK2 => ?_)
          gi_wp2
          refine tl_yes rfl (by rfl) (fun K3 hK3 => ?_)
          gi_wp2
          refine tl_end ?_
          gi_wp2
          refine bodyPost_ret (results_none rfl _ _ _) rfl ?_
          exact ⟨⟨_, rfl⟩, .inr ⟨_, ⟨k + 1, by omega, (got_some ho).symm⟩, HJ3.out⟩⟩
    · obtain rfl : k = N := by omega
      gi_wp2
      go_end0
      exact ⟨⟨_, rfl⟩, .inl ⟨_, rfl, HJJ.out⟩⟩
theorem allv_any (p : Option Addr) (w : World) :
    Calls Try.prog 50 #[.pointer p] w fun e w' => e = .returned (.func (.func 59) #[] #[.pointer (some ⟨w.heap.size, 0, none⟩)]) ∧ w' = w.alloc (.cells #[.pointer p] 25) := by
  go_enter Try.func50, Try.ntmps50
  go_wp2_with fail
  go_ret
  exact ⟨rfl, rfl⟩
theorem all_stops (n Bg n₀ gh gl st sz : Nat) (l : List (Option V)) (h1 : 1 ≤ sz) (hh : gh < n₀) (hgl : gl < n₀) (w : World) (hn0 : n₀ ≤ w.heap.size) (hB : Bg < w.heap.size)
    (hBs : w.cell? ⟨Bg, 0, none⟩ = some (.pointer (some ⟨gh, 0, none⟩))) (hG : Gr w gh gl st sz l) :
    SeqStopsK Fence.wide n Try.prog 59 #[.pointer (some ⟨Bg, 0, none⟩)] (encs sz) (Kp n₀ Bg) (fun ys => ys = got l (st * sz)) (fun pre => ∃ k, k ≤ st * sz ∧ pre = got l k) l.length w := fun l' J Jx W hW hJ _ hY h0 =>
  all1_any n l' Bg n₀ gh gl st sz l h1 hh hgl J Jx W (Nat.le_trans hn0 hW.size) (Nat.lt_of_lt_of_le hB hW.size) hJ hY ((hW.cell (p := ⟨Bg, 0, none⟩) hB).trans hBs) (hG.below hW (by omega) (by omega)) h0
end Gi
end Go.Proofs.Ytjlgkljifpjehaa
