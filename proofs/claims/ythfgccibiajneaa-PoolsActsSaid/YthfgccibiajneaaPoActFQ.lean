/-
  PoolsActs: its arguments.
-/
import Derived.Test.YthfgccibiajneaaPoActLQ
namespace Go.Proofs.Ythfgccibiajneaa
open Go.RowKit
theorem pacts_law (al : Option Addr) (nl cl : Nat) (z0 : List Int) (af : Option Addr) (nf cf : Nat) (aa : Option Addr) (na ca : Nat) (w : World) (h0 : IsRow .i64 w al nl cl z0) (h1 : IsFlat mbKs w af nf cf) (h2 : IsFlat a3Ks w aa na ca) :
    Calls Try.prog 9 #[.slice al nl cl, .slice af nf cf, .slice aa na ca] w fun e w' => e = .returned (.bool true) ∧ Below w.heap.size w w' := by
  obtain ⟨i0, _, _⟩ := h0.ints
  obtain ⟨F, hF, _⟩ := flat_mb h1
  obtain ⟨A, hA, hA3⟩ := flat_a3 h2
  exact pacts_any al af aa nl cl nf cf na ca _ F A w i0 hF hA hA3
end Go.Proofs.Ythfgccibiajneaa
