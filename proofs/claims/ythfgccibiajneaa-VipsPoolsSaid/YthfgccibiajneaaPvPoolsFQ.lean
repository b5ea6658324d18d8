/-
  VipsPools: its arguments.
-/
import Derived.Test.YthfgccibiajneaaPvPoolsLQ
namespace Go.Proofs.Ythfgccibiajneaa
open Go.RowKit
theorem ints_rd1 {w : World} {a : Option Addr} {n : Nat} {l : List Int} (h : Ints w a n l) : Rd 1 ei w a n l := by
  refine ⟨h.1, fun hn => ?_⟩
  obtain ⟨b, o, rfl, hlt, hc⟩ := h.2 hn
  refine ⟨b, o, rfl, hlt, fun i x hx j hj => ?_⟩
  obtain rfl : j = 0 := by omega
  have hi : i < n := by have := (List.getElem?_eq_some_iff.1 hx).1; rw [h.1] at this; exact this
  have := hc i hi
  rw [List.getD_eq_getElem?_getD, hx] at this
  rw [Nat.mul_one, Nat.add_zero]
  exact this
theorem vpl_law (a x : Int) (ao : Option Addr) (no co : Nat) (z : List Int) (w : World) (_h0 : (Lit.int .i64 a).wf = true) (_h1 : (Lit.int .i64 x).wf = true) (h2 : IsRow .i64 w ao no co z) :
    Calls Try.prog 12 #[.int .i64 a, .int .i64 x, .slice ao no co] w fun e w' => e = .returned (.bool true) ∧ Below w.heap.size w w' := by
  obtain ⟨i1, _, _⟩ := h2.ints
  by_cases h : a < 2 ∨ 10 < a ∨ 10 < no
  · exact vpl_out a x ao no co w h
  · obtain ⟨n, rfl⟩ : ∃ n : Nat, a = n := ⟨a.toNat, by omega⟩
    exact vpl_any n x ao no co _ w (ints_rd1 i1) (by omega) (by omega) (by omega)
end Go.Proofs.Ythfgccibiajneaa
