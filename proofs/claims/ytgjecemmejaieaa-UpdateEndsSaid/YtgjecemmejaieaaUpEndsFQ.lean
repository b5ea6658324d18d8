/-
  UpdateEnds: its arguments.
-/
import Derived.Test.YtgjecemmejaieaaBav
import Derived.Test.YtgjecemmejaieaaUpEndsQ
namespace Go.Proofs.Ytgjecemmejaieaa
open Go.RowKit
theorem uends_out (ao : Option Addr) (no co : Nat) (W : Int) (w : World) (hn : 10 < no ∨ W < 0 ∨ 20 < W) :
    Calls Try.prog 4 #[.slice ao no co, .int .i64 W] w fun e w' => e = .returned (.bool true) ∧ Below w.heap.size w w' := by
  have hc : (decide ((10 : Int) < (no : Int)) = true ∧ decide (10 < no) = true) ∨ (decide ((10 : Int) < (no : Int)) = false ∧ decide (10 < no) = false ∧ decide (W < 0) = true) ∨ (decide ((10 : Int) < (no : Int)) = false ∧ decide (10 < no) = false ∧ decide (W < 0) = false ∧ decide (20 < W) = true) := by
    simp only [decide_eq_true_eq, decide_eq_false_iff_not]
    omega
  rcases hc with ⟨h1, h2⟩ | ⟨h1, h2, h3⟩ | ⟨h1, h2, h3, h4⟩ <;>
  · clear hn
    go_enter Try.func4, Try.ntmps4
    go_wp2_with fail
    refine (uawake_any _).mono ?_
    rintro e w1 ⟨rfl, hb⟩
    have HB := Lib.hid hb
    clear hb
    go_wp2_with fail
    go_ret
    exact ⟨rfl, HB.out⟩
theorem uends_law (ao : Option Addr) (no co : Nat) (z : List Int) (a : Int) (w : World) (h1 : IsRow .i64 w ao no co z) (_h0 : (Lit.int .i64 a).wf = true) :
    Calls Try.prog 4 #[.slice ao no co, .int .i64 a] w fun e w' => e = .returned (.bool true) ∧ Below w.heap.size w w' := by
  obtain ⟨i1, _, _⟩ := h1.ints
  by_cases h : 10 < no ∨ a < 0 ∨ 20 < a
  · exact uends_out ao no co a w h
  · obtain ⟨n, rfl⟩ : ∃ n : Nat, a = n := ⟨a.toNat, by omega⟩
    exact uends_any ao no co _ n w i1 (by omega) (by omega)
end Go.Proofs.Ytgjecemmejaieaa
