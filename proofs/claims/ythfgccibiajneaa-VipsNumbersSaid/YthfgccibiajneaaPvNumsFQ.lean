/-
  VipsNumbers: its arguments.
-/
import Derived.Test.YthfgccibiajneaaPvNumsLQ
namespace Go.Proofs.Ythfgccibiajneaa
open Go.RowKit
theorem vnums_law (a : Int) (ao : Option Addr) (no co : Nat) (z : List Int) (w : World) (_h0 : (Lit.int .i64 a).wf = true) (h1 : IsRow .i64 w ao no co z) :
    Calls Try.prog 7 #[.int .i64 a, .slice ao no co] w fun e w' => e = .returned (.bool true) ∧ Below w.heap.size w w' := by
  obtain ⟨i1, _, _⟩ := h1.ints
  by_cases h : a < 0 ∨ 20 < a ∨ 30 < no
  · exact vnums_out a ao no co w h
  · obtain ⟨n, rfl⟩ : ∃ n : Nat, a = n := ⟨a.toNat, by omega⟩
    exact vnums_any n ao no co _ w i1 (by omega) (by omega)
end Go.Proofs.Ythfgccibiajneaa
