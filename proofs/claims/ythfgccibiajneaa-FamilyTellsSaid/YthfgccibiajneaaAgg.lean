/-
  A load of a whole array or struct out of the midst of a block: one step; two arrays of bytes held against each other.
-/
import Derived.Test.YthfgccibiajneaaHeap
import Derived.ChangeKeysEq
import Derived.Laws.StructEq
namespace Go.Proofs.Ythfgccibiajneaa
open Go.RowKit
section
variable {P : Program}
/-- The place in its block that a pointer leads to. -/
def offOf : Value → Nat
  | .pointer (some a) => a.off
  | _ => 0
def plainPtr : Value → Bool
  | .pointer (some ⟨_, _, none⟩) => true
  | _ => false
@[go_sem] theorem offOf_mk (b o : Nat) (s : Option Nat) : offOf (.pointer (some ⟨b, o, s⟩)) = o := rfl
@[go_sem] theorem plainPtr_mk (b o : Nat) : plainPtr (.pointer (some ⟨b, o, none⟩)) = true := rfl
theorem of_plainPtr {v : Value} (h : plainPtr v = true) : v = .pointer (some ⟨blk v, offOf v, none⟩) := by
  unfold plainPtr at h
  split at h
  · rfl
  · cases h
theorem loadAt_part (ty : TypeId) (d : TypeDesc) (n : Nat) (hu : P.underlying ty = some d) (hd : (match d with | .struct _ | .array _ _ => true | _ => false) = true)
    (hi : (P.info? ty).map (·.size) = some n) (w : World) (b o : Nat) (ho : open_ w b = true) (hs : o + n ≤ (row w b).size) :
    (Instr.loadAt ty (.pointer (some ⟨b, o, none⟩))).run P w = .ok (.agg ((row w b).extract o (o + n))) w := by
  obtain ⟨t, h⟩ := heap_of_open ho
  have hagg : (isAgg ty).run P w = .ok true w := by
    unfold isAgg
    rw [Sem.run_bind, run_underlying hu]
    simp only [Result.andThen_ok]
    cases d <;> simp_all
  have hsz : (sizeOf ty).run P w = .ok n w := by
    cases hq : P.info? ty with
    | none => simp [hq] at hi
    | some i => simp [hq] at hi; simp [sizeOf, typeInfo, hq, hi]
  have hl : ((row w b).extract o (o + n)).toList.length = n := by simp; omega
  have hc := run_loadCells_list (P := P) w ⟨b, o, none⟩ ((row w b).extract o (o + n)).toList (fun j v hv => by
    have hadd : (⟨b, o, none⟩ : Addr).add j = ⟨b, o + j, none⟩ := by unfold Addr.add; split <;> simp_all
    rw [hadd, cell_of_row w b (o + j) (row w b) t (0, 0) h]
    have hj : j < n := by have := (List.getElem?_eq_some_iff.1 hv).1; omega
    rw [Array.getElem?_toList, Array.getElem?_extract, if_pos (by omega)] at hv
    exact hv)
  rw [hl] at hc
  simp only [Instr.loadAt, Instr.sureAddr, Sem.run_bind, Sem.run_pure, Result.andThen_ok, loadVar, hagg, hsz, hc, if_true]
/-- A load of a whole array or struct, wherever it lies: one step. -/
theorem exec_load_part (ty : TypeId) (d : TypeDesc) (n : Nat) (hu : P.underlying ty = some d) (hd : (match d with | .struct _ | .array _ _ => true | _ => false) = true)
    (hi : (P.info? ty).map (·.size) = some n) (x : Operand) (dst : Option Tmp) (t : TypeId) (pos : String) (after : Array Edge) (g : Option (Nat × Bool)) (f : Operand → Value) (w : World)
    (hx : plainPtr (f x) = true) (ho : open_ w (blk (f x)) = true) (hs : offOf (f x) + n ≤ (row w (blk (f x))).size) :
    (execOp f ⟨dst, .load ty x, t, pos, after, g⟩).run P w = .ok (.value (.agg ((row w (blk (f x))).extract (offOf (f x)) (offOf (f x) + n)))) w := by
  have e := of_plainPtr hx
  have h := loadAt_part (P := P) ty d n hu hd hi w _ _ ho hs
  rw [← e] at h
  unfold execOp
  simp only [Sem.run_bind, h, Result.andThen_ok, Sem.run_pure]
end
end Go.Proofs.Ythfgccibiajneaa
