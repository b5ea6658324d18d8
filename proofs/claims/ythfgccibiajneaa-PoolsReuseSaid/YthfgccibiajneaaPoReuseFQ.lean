/-
  PoolsReuse: its arguments.
-/
import Derived.Test.YthfgccibiajneaaPoReuseLQ
import Derived.Test.YthfgccibiajneaaFlatQ
namespace Go.Proofs.Ythfgccibiajneaa
open Go.RowKit
def decB (g : Nat → Value) : Bool := match g 0 with | .bool b => b | _ => false
theorem preuse_law (al : Option Addr) (nl cl : Nat) (z0 : List Int) (ah : Option Addr) (nh ch : Nat) (aw : Option Addr) (nw cw : Nat) (z2 : List Int) (w : World) (h0 : IsRow .i64 w al nl cl z0) (h1 : IsFlat [Pl.bool] w ah nh ch) (h2 : IsRow .i64 w aw nw cw z2) :
    Calls Try.prog 4 #[.slice al nl cl, .slice ah nh ch, .slice aw nw cw] w fun e w' => e = .returned (.bool true) ∧ Below w.heap.size w w' := by
  obtain ⟨i0, _, _⟩ := h0.ints
  obtain ⟨i2, _, hwf⟩ := h2.ints
  obtain ⟨bs, hb, _⟩ := h1.rd (enc := eb) (k := 1) decB rfl (fun g hg j hj => by
    have hj0 : j = 0 := by simp at hj; exact hj
    subst hj0
    obtain ⟨b, hb⟩ := hg 0 .bool rfl
    simp [eb, decB, hb])
  refine preuse_any al ah aw nl cl nh ch nw cw _ _ bs w i0 hb i2 (fun x hx => ?_)
  have := hwf x hx
  simp [Lit.wf, IntKind.min, IntKind.max, IntKind.signed, IntKind.bits] at this
  omega
end Go.Proofs.Ythfgccibiajneaa
