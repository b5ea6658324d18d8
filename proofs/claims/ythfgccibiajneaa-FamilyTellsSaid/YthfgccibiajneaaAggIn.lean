/-
  A load of a whole array or struct, one step, inside a fence.
-/
import Derived.Test.YthfgccibiajneaaAgg
import Derived.OwnWalkIn
namespace Go.Proofs.Ythfgccibiajneaa
open Go.RowKit
theorem wpListIn_load_part {F : Fence} {n : Nat} {P : Program} {w : World} {ops : Array Oper} {rest : List Oper} {o : Oper} {a : Act} {Q : Exit → Act → World → Prop}
    (hg : o.guard = none) (ty : TypeId) (x : Operand) (hop : o.op = .load ty x) (d : TypeDesc) (k : Nat) (hu : P.underlying ty = some d) (hd : (match d with | .struct _ | .array _ _ => true | _ => false) = true)
    (hi : (P.info? ty).map (·.size) = some k) (b off : Nat) (t : TypeId) (cs : Array Value) (hx : a.eval x = .pointer (some ⟨b, off, none⟩)) (h : At w b t cs) (hs : off + k ≤ cs.size)
    (hK : wpListIn F n P ops Q rest (a.put o.dst (.agg (cs.extract off (off + k)))) w) : wpListIn F n P ops Q (o :: rest) a w := by
  refine wpListIn_plain hg fun K hK' => ?_
  have hr := loadAt_part (P := P) ty d k hu hd hi w b off h.open (by rw [h.row]; exact hs)
  rw [h.row] at hr
  unfold Oper.wpIn
  refine ⟨?_, ?_⟩
  · simp [Oper.about, hop]
  · rw [Oper.semAt_plain F _ _ (by rw [hop]; intro c hc'; cases hc')]
    simp [execOp, hop, hx, hr]
    exact hK' _ _ hK
end Go.Proofs.Ythfgccibiajneaa
