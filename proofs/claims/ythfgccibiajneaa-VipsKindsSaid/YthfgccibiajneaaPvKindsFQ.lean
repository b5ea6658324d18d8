/-
  VipsKinds: its arguments.
-/
import Derived.Test.YthfgccibiajneaaPvKindsQ
import Derived.Test.YthfgccibiajneaaFlatQ
namespace Go.Proofs.Ythfgccibiajneaa
open Go.RowKit
def decBK (g : Nat → Value) : Bool := match g 0 with | .bool b => b | _ => false
theorem vkinds_law (en v6 : Bool) (ah : Option Addr) (nh ch : Nat) (w : World) (h1 : IsFlat [Pl.bool] w ah nh ch) :
    Calls Try.prog 8 #[.bool en, .bool v6, .slice ah nh ch] w fun e w' => e = .returned (.bool true) ∧ Below w.heap.size w w' := by
  obtain ⟨bs, hb, _⟩ := h1.rd (enc := ebK) (k := 1) decBK rfl (fun g hg j hj => by
    have hj0 : j = 0 := by simp at hj; exact hj
    subst hj0
    obtain ⟨b, hb⟩ := hg 0 .bool rfl
    simp [ebK, decBK, hb])
  exact vkinds_any en v6 ah nh ch bs w hb
end Go.Proofs.Ythfgccibiajneaa
