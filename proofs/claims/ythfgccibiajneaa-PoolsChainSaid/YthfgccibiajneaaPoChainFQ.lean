/-
  PoolsChain: its arguments.
-/
import Derived.Test.YthfgccibiajneaaPoChainLQ
namespace Go.Proofs.Ythfgccibiajneaa
open Go.RowKit
theorem pchain_law (sl : Int) (aw : Option Addr) (nw cw : Nat) (z : List Int) (w : World) (_ : (Lit.int .i64 sl).wf = true) (h2 : IsRow .i64 w aw nw cw z) :
    Calls Try.prog 5 #[.int .i64 sl, .slice aw nw cw] w fun e w' => e = .returned (.bool true) ∧ Below w.heap.size w w' := by
  obtain ⟨i2, _, hwf⟩ := h2.ints
  refine pchain_any sl aw nw cw _ w i2 (fun x hx => ?_)
  have := hwf x hx
  simp [Lit.wf, IntKind.min, IntKind.max, IntKind.signed, IntKind.bits] at this
  omega
end Go.Proofs.Ythfgccibiajneaa
