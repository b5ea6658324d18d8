/-
  The grid's methods, one contract each, for each type that a grid is made of.
-/
import Derived.Test.YtjlgkljifpjehaaGridWalks
import Derived.WalkSpells
import Derived.WalkLawsBesides
import Derived.Lib.Hide
import Derived.Laws.MakeOwn
import Derived.OwnWalk
import Derived.RangeFuncNested
import Derived.RangeFuncBound
import Derived.RangeFuncCalls
import Derived.RangeFuncLeaves
import Derived.RangeFuncBox
import Derived.Shelf.Abstract
import Derived.Shelf.RegionOpen
import Derived.WalkKit
import Derived.OwnWalkIn
import Derived.TacticsInMore
import Derived.LoopNIn
import Derived.LoopIn
import Derived.Laws.StructEq
namespace Go.Proofs.Ytjlgkljifpjehaa
open Go.RowKit Go.Shelf
attribute [local go_sem] Oper.semAt_some
namespace Gi
set_option maxRecDepth 100000 in
set_option maxHeartbeats 4000000 in
theorem walks_any' (st sz : Int) (a2 : Option Addr) (len cap : Nat) (zs : List Int) (most : Int) (w : World) (_ : (Lit.int .i64 st).wf = true) (_ : (Lit.int .i64 sz).wf = true) (hI : IsRow .i64 w a2 len cap zs) (_ : (Lit.int .i64 most).wf = true) :
    Calls Try.prog 6 #[.int .i64 st, .int .i64 sz, .slice a2 len cap, .int .i64 most] w fun e w' => e = .returned (.bool true) ∧ Below w.heap.size w w' := by
  by_cases hb : 1 ≤ st ∧ st ≤ 4 ∧ 1 ≤ sz ∧ sz ≤ 100 ∧ len ≤ 60
  · obtain ⟨b1, b2, b3, b4, b5⟩ := hb
    obtain ⟨a, rfl⟩ : ∃ a : Nat, st = a := ⟨st.toNat, by omega⟩
    obtain ⟨b, rfl⟩ : ∃ b : Nat, sz = b := ⟨sz.toNat, by omega⟩
    exact walks_in a b (by omega) (by omega) (by omega) (by omega) a2 len cap b5 zs most w hI
  · have hcase : st < 1 ∨ (decide (st < 1) = false ∧ 4 < st) ∨ (decide (st < 1) = false ∧ decide (4 < st) = false ∧ sz < 1) ∨ (decide (st < 1) = false ∧ decide (4 < st) = false ∧ decide (sz < 1) = false ∧ 100 < sz) ∨ (decide (st < 1) = false ∧ decide (4 < st) = false ∧ decide (sz < 1) = false ∧ decide (100 < sz) = false ∧ 60 < len) := by
      simp only [decide_eq_false_iff_not]; omega
    clear hb hI
    rcases hcase with c1 | ⟨c1, c2⟩ | ⟨c1, c2, c3⟩ | ⟨c1, c2, c3, c4⟩ | ⟨c1, c2, c3, c4, c5⟩ <;>
    · go_enter Try.func6, Try.ntmps6
      go_wp2_with fail
      refine (awake_any _).mono ?_
      rintro e w1 ⟨rfl, hb⟩
      have HB1 := Lib.hid (step_below (a := w) (by repeat first | exact Below.refl _ _ | refine Below.drew ?_ | refine Below.alloc ?_ (by simp <;> omega) _) hb)
      clear hb
      go_wp2_with fail
      go_ret
      exact ⟨rfl, HB1.out⟩
end Gi
end Go.Proofs.Ytjlgkljifpjehaa
