/-
  A struct or array made of parts, as one step whose cells keep their name; stores of whole structs into blocks made last.
-/
import Derived.Test.YthfgccibiajneaaAggB
import Derived.Laws.Tables
import Derived.Laws.NewBlocks
import Derived.Deep.WholeRow
namespace Go.Proofs.Ythfgccibiajneaa
open Go.RowKit
/-- What a build comes to, kept from the walk's own words. -/
def bldX (P : Program) (t : TypeId) (X : Array (Nat × Value)) (w : World) : Result Next := (do let x ← Instr.build t X; pure (Next.value x) : Sem Next).run P w
theorem exec_bld (P : Program) (t : TypeId) (parts : Array (Nat × Operand)) (dst : Option Tmp) (ty : TypeId) (pos : String) (after : Array Edge) (g : Option (Nat × Bool)) (f : Operand → Value) (w : World) :
    (execOp f ⟨dst, .build t parts, ty, pos, after, g⟩).run P w = bldX P t (parts.map fun (i, x) => (i, f x)) w := rfl
theorem bldX_of {P : Program} {t : TypeId} {X : Array (Nat × Value)} {C : Array Value} (w : World) (h : P.built t X.toList = some C) : bldX P t X w = .ok (.value (.agg C)) w := by
  unfold bldX
  simp only [Sem.run_bind, run_build w t X C h, Result.andThen_ok, Sem.run_pure]
/-- A store of a whole array or struct in a plain row of operations. -/
theorem wpList_store_agg {P : Program} {ops : Array Oper} {rest : List Oper} {o : Oper} {a : Go.Act} {Q : Exit → Go.Act → World → Prop} {w : World} (hgd : o.guard = none) (ty : TypeId) (x y : Operand) (ho : o.op = .store ty x y) (b off : Nat) (t : TypeId) (cs : Array Value) (vs : Array Value)
    (hx : a.eval x = .pointer (some ⟨b, off, none⟩)) (hy : a.eval y = .agg vs) (h : At w b t cs) (hs : off + vs.size ≤ cs.size)
    (hi : (P.info? ty).map (·.size) = some vs.size) (h1 : vs.all (·.oneCell') = true)
    (hK : wpList P ops Q rest (a.put o.dst undef) (w.setCells b off vs.toList)) : wpList P ops Q (o :: rest) a w :=
  wpList_plain hgd fun _ hK' => wp_store_agg b off t cs vs h hs hi h1 ho hx hy (hK' _ _ hK)
theorem store_new {P : Program} {t : TypeId} {k : Nat} (hk : (P.info? t).map (·.size) = some k) (w : World) (n : Nat) (Z C : Array Value) (hn : n = w.heap.size) (hZ : Z.size = k) (hC : C.size = k) (h1 : C.all (·.oneCell') = true) : (storeCells ⟨n, 0, none⟩ C.toList 0).run P (w.alloc (.cells Z t)) = .ok () (w.alloc (.cells C t)) := by
  subst hn
  exact run_storeCells_new (P := P) w t _ C (by rw [hC]; exact hk) (by rw [hC, hZ]) h1
theorem setCells_new (w : World) (t : TypeId) : ∀ (L : List Value) (o : Nat) (Z : Array Value), (w.alloc (.cells Z t)).setCells w.heap.size o L = w.alloc (.cells (splice Z o L) t)
  | [], _, _ => rfl
  | v :: r, o, Z => by rw [World.setCells, World.setCell_alloc_at _ _ _ _ _ rfl, setCells_new w t r (o + 1) _]; rfl
theorem setCells_past (ob : Obj) (n : Nat) : ∀ (L : List Value) (o : Nat) (w : World), n < w.heap.size → (w.alloc ob).setCells n o L = (w.setCells n o L).alloc ob
  | [], _, _, _ => rfl
  | v :: r, o, w, h => by rw [World.setCells, World.setCell_alloc_past _ _ _ _ h, setCells_past ob n r (o + 1) _ (by simpa [World.setCell] using h)]; rfl
theorem store_at {P : Program} (w : World) (b off : Nat) (t : TypeId) (cs C : Array Value) (h : At w b t cs) (hs : off + C.size ≤ cs.size) (h1 : C.all (·.oneCell') = true) : (storeCells ⟨b, off, none⟩ C.toList 0).run P w = .ok () (w.setCells b off C.toList) := by
  have hst := run_storeCells_cells (P := P) b off C.toList 0 w (fun j hj => by
      rw [cell_of_row w b _ cs t (0, 0) h, Array.getElem?_eq_getElem (by simp at hj; omega)]; rfl) (fun j hj => frozen_of_row w b _ cs t h) (fun v hv => by
      rw [Array.all_eq_true'] at h1
      exact h1 v (by simpa using hv))
  simpa only [Nat.add_zero] using hst
/-- Into the midst of the block that was made last. -/
theorem store_mid {P : Program} (w : World) (n off : Nat) (t : TypeId) (Z C : Array Value) (hn : n = w.heap.size) (hs : off + C.size ≤ Z.size) (h1 : C.all (·.oneCell') = true) : (storeCells ⟨n, off, none⟩ C.toList 0).run P (w.alloc (.cells Z t)) = .ok () (w.alloc (.cells (splice Z off C.toList) t)) := by
  rw [store_at (P := P) _ n off t Z C (at_new _ _ _ _ hn) hs h1]
  subst hn
  rw [setCells_new]
theorem splice_all (Z C : Array Value) (h : C.size = Z.size) : splice Z 0 C.toList = C := by
  apply Array.ext_getElem?
  intro j
  rw [splice_get _ _ _ _ (by simp; omega)]
  by_cases hj : j < C.size
  · rw [if_pos (by simp; omega)]; simp
  · rw [if_neg (by simp; omega), Array.getElem?_eq_none (by omega), Array.getElem?_eq_none (by omega)]
/-- Into the block made last but one, whole. -/
theorem store_second {P : Program} (w : World) (n : Nat) (t : TypeId) (Z C : Array Value) (ob : Obj) (hn : n = w.heap.size) (hs : C.size = Z.size) (h1 : C.all (·.oneCell') = true) : (storeCells ⟨n, 0, none⟩ C.toList 0).run P ((w.alloc (.cells Z t)).alloc ob) = .ok () ((w.alloc (.cells C t)).alloc ob) := by
  rw [store_at (P := P) _ n 0 t Z C ((at_new _ _ _ _ hn).alloc ob) (by omega) h1, setCells_past ob n _ _ _ (by simp; omega)]
  subst hn
  rw [setCells_new, splice_all _ _ hs]
end Go.Proofs.Ythfgccibiajneaa
