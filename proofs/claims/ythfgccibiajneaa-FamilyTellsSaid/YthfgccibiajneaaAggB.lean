/-
  A store of a whole array or struct into the midst of a block; cells written over cells.
-/
import Derived.Test.YthfgccibiajneaaAgg
import Derived.Test.YthfgccibiajneaaMore
import Derived.Laws.IdiomCopy
namespace Go.Proofs.Ythfgccibiajneaa
open Go.RowKit
/-- Cells, written over from a place on. -/
def splice (cs : Array Value) : Nat → List Value → Array Value
  | _, [] => cs
  | o, v :: r => splice (cs.setIfInBounds o v) (o + 1) r
theorem splice_size : ∀ (vs : List Value) (cs : Array Value) (o : Nat), (splice cs o vs).size = cs.size
  | [], _, _ => rfl
  | v :: r, cs, o => by rw [splice, splice_size r, Array.size_setIfInBounds]
theorem splice_get : ∀ (vs : List Value) (cs : Array Value) (o j : Nat), o + vs.length ≤ cs.size → (splice cs o vs)[j]? = if o ≤ j ∧ j < o + vs.length then vs[j - o]? else cs[j]?
  | [], cs, o, j, _ => by rw [if_neg (fun h => by have := h.2; simp only [List.length_nil] at this; omega)]; rfl
  | v :: r, cs, o, j, h => by
    simp only [List.length_cons] at h
    rw [splice, splice_get r _ _ _ (by rw [Array.size_setIfInBounds]; omega), Array.getElem?_setIfInBounds]
    by_cases h1 : o + 1 ≤ j ∧ j < o + 1 + r.length
    · rw [if_pos h1, if_pos (by simp; omega), show j - o = (j - (o + 1)) + 1 by omega, List.getElem?_cons_succ]
    · rw [if_neg h1]
      by_cases h2 : o = j
      · subst h2
        rw [if_pos rfl, if_pos (by omega), if_pos (by simp), Nat.sub_self]; rfl
      · rw [if_neg h2, if_neg (by simp; omega)]
theorem At.setCells {g : Nat} {t : TypeId} : ∀ (vs : List Value) (o : Nat) (w : World) (cs : Array Value), At w g t cs → At (w.setCells g o vs) g t (splice cs o vs)
  | [], _, _, _, h => h
  | v :: r, o, _, _, h => At.setCells r (o + 1) _ _ (h.set o v)
theorem Mod.setCells {M : Nat → Prop} {g : Nat} (hg : M g) : ∀ (vs : List Value) (o : Nat) (w : World), Mod M w (w.setCells g o vs)
  | [], _, w => Mod.refl M w
  | v :: r, o, w => ((Mod.refl M w).setCell ⟨g, o, none⟩ v (fun _ => hg)).trans (Mod.setCells hg r (o + 1) _)
theorem wp_store_agg {P : Program} {o : Oper} {a : Go.Act} {K : Go.Act → World → Prop} {Q : Exit → Go.Act → World → Prop} {w : World} {x y : Operand} {ty : TypeId} (b off : Nat) (t : TypeId) (cs : Array Value) (vs : Array Value) (h : At w b t cs) (hs : off + vs.size ≤ cs.size)
    (hi : (P.info? ty).map (·.size) = some vs.size) (h1 : vs.all (·.oneCell') = true)
    (ho : o.op = .store ty x y) (hx : a.eval x = .pointer (some ⟨b, off, none⟩)) (hy : a.eval y = .agg vs)
    (hK : K (a.put o.dst undef) (w.setCells b off vs.toList)) : o.wp P a w K Q := by
  have hsz : (sizeOf ty).run P w = .ok vs.size w := by
    cases hq : P.info? ty with
    | none => simp [hq] at hi
    | some i => simp [hq] at hi; simp [sizeOf, typeInfo, hq, hi]
  have hst := run_storeCells_cells (P := P) b off vs.toList 0 w (fun j hj => by
      rw [cell_of_row w b _ cs t (0, 0) h, Array.getElem?_eq_getElem (by simp at hj; omega)]; rfl) (fun j hj => frozen_of_row w b _ cs t h) (fun v hv => by
      rw [Array.all_eq_true'] at h1
      exact h1 v (by simpa using hv))
  simp only [Nat.add_zero] at hst
  unfold Oper.wp execOp
  simp [ho, hx, hy, Instr.storeAt, Instr.sureAddr, storeVar, hsz, Value.cells, hst, Oper.upon]
  exact hK
theorem mod_below {M : Nat → Prop} {a b : World} {B : Nat} (h : Mod M a b) (hB : B ≤ a.heap.size) (hm : ∀ i, M i → B ≤ i) : Below B a b :=
  ⟨h.os, h.tape, h.output, h.size, fun i hi => h.block i (by omega) (fun x => by have := hm i x; omega)⟩
end Go.Proofs.Ythfgccibiajneaa
