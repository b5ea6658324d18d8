/-
  The grid's methods, one contract each, for each type that a grid is made of.
-/
import Derived.Test.YtjlgkljifpjehaaGridFills
import Derived.WalkSpells
import Derived.WalkLawsBesides
import Derived.Lib.Hide
import Derived.Laws.MakeOwn
import Derived.OwnWalk
import Derived.RangeFuncNested
import Derived.RangeFuncBound
import Derived.RangeFuncCalls
import Derived.RangeFuncLeaves
import Derived.RangeFuncBox
import Derived.Shelf.Abstract
import Derived.Shelf.RegionOpen
import Derived.WalkKit
import Derived.OwnWalkIn
import Derived.TacticsInMore
import Derived.LoopNIn
import Derived.LoopIn
import Derived.Laws.StructEq
namespace Go.Proofs.Ytjlgkljifpjehaa
open Go.RowKit Go.Shelf
attribute [local go_sem] Oper.semAt_some
namespace G2
set_option maxRecDepth 100000 in
set_option maxHeartbeats 4000000 in
theorem fills_any' (st sz : Int) (odd : Int) (w : World) (_ : (Lit.int .i64 st).wf = true) (_ : (Lit.int .i64 sz).wf = true) (_ : (Lit.int .i64 odd).wf = true) :
    Calls Try.prog 5 #[.int .i64 st, .int .i64 sz, .int .i64 odd] w fun e w' => e = .returned (.bool true) ∧ Below w.heap.size w w' := by
  by_cases hb : 1 ≤ st ∧ st ≤ 4 ∧ 1 ≤ sz ∧ sz ≤ 64
  · obtain ⟨b1, b2, b3, b4⟩ := hb
    obtain ⟨a, rfl⟩ : ∃ a : Nat, st = a := ⟨st.toNat, by omega⟩
    obtain ⟨b, rfl⟩ : ∃ b : Nat, sz = b := ⟨sz.toNat, by omega⟩
    exact fills_in a b (by omega) (by omega) (by omega) (by omega) odd w
  · have hcase : st < 1 ∨ (decide (st < 1) = false ∧ 4 < st) ∨ (decide (st < 1) = false ∧ decide (4 < st) = false ∧ sz < 1) ∨ (decide (st < 1) = false ∧ decide (4 < st) = false ∧ decide (sz < 1) = false ∧ 64 < sz) := by
      simp only [decide_eq_false_iff_not]; omega
    clear hb
    rcases hcase with c1 | ⟨c1, c2⟩ | ⟨c1, c2, c3⟩ | ⟨c1, c2, c3, c4⟩ <;>
    · go_enter Try.func5, Try.ntmps5
      go_wp2_with fail
      refine (awake_any _).mono ?_
      rintro e w1 ⟨rfl, hb⟩
      have s0 := hb.size
      simp only [World.size_alloc] at s0
      have hA := (show At ((w.alloc (.cells #[.int .i64 sz] 3)).alloc (.cells #[.bool false] 4)) (w.heap.size + 1) 4 #[.bool false] from at_new _ _ _ _ (by simp)).below hb (by simp)
      have z0 := hA.cell 0
      have z1 := hA.frozen 0
      simp only [List.getElem?_toArray, List.getElem?_cons_zero] at z0
      have HB1 := Lib.hid (step_below (a := w) (by repeat first | exact Below.refl _ _ | refine Below.drew ?_ | refine Below.alloc ?_ (by simp <;> omega) _) hb)
      clear hb
      go_wp2_with fail
      have hc5 := World.cell?_setCell_same' w1 ⟨w.heap.size + 1, 0, none⟩ (.bool true) (by rw [z0]; rfl)
      exact bodyPost_ret (v := .bool true) (by simp [results, Try.results5, go_sem, hc5]) rfl ⟨rfl, HB1.out.setCell (p := ⟨w.heap.size + 1, 0, none⟩) (show w.heap.size ≤ w.heap.size + 1 by omega) _⟩
end G2
end Go.Proofs.Ytjlgkljifpjehaa
