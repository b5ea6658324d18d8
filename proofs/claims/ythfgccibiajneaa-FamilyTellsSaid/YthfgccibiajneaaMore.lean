/-
  Small laws besides: worlds behind one another, blocks made anew.
-/
import Derived.Test.YthfgccibiajneaaHeap
import Derived.WalkKit
import Derived.Below
namespace Go.Proofs.Ythfgccibiajneaa
open Go.RowKit
theorem step_below {a b c : World} (h : Below a.heap.size a b) (k : Below b.heap.size b c) : Below a.heap.size a c := h.trans (k.mono h.size)
theorem lt_of_heap {w : World} {g : Nat} {o : Obj} (h : w.heap[g]? = some o) : g < w.heap.size := by
  rcases Nat.lt_or_ge g w.heap.size with h1 | h1
  · exact h1
  · rw [Array.getElem?_eq_none h1] at h; cases h
theorem at_new (w : World) (t : TypeId) (cs : Array Value) (n : Nat) (hn : n = w.heap.size) : At (w.alloc (.cells cs t)) n t cs := by subst hn; exact At.new w t cs
theorem Mod.alloc_drew {M : Nat → Prop} (w : World) (o : Obj) : Mod M w.drew (w.alloc o).drew := ⟨rfl, rfl, rfl, by show w.heap.size ≤ (w.alloc o).heap.size; simp, fun i hi _ => Below.heap_alloc w o i hi⟩
theorem Mod.realloc (w : World) (o o' : Obj) : Mod (fun i => i = w.heap.size) (w.alloc o).drew (w.alloc o').drew := ⟨rfl, rfl, rfl, by show (w.alloc o).heap.size ≤ (w.alloc o').heap.size; simp, fun i hi hm => by
  have h1 : i < (w.alloc o).heap.size := hi
  rw [World.size_alloc] at h1
  exact (Below.heap_alloc w o' i (by omega)).trans (Below.heap_alloc w o i (by omega)).symm⟩
/-- A piece that may not panic. -/
def noPanic (Q : Exit → Go.Act → World → Prop) : Exit → Go.Act → World → Prop
  | .panic _, _, _ => False
  | e, a, w => Q e a w
theorem wp_noPanic {P : Program} {c : Code} {Q : Exit → Go.Act → World → Prop} {a : Go.Act} {w : World} (h : c.wp P (noPanic Q) a w) : c.wp P Q a w :=
  wp_mono h (fun e a w hq => by cases e <;> first | exact hq | exact hq.elim)
theorem noPanic_normal {Q : Exit → Go.Act → World → Prop} {a : Go.Act} {w : World} (h : Q .normal a w) : noPanic Q .normal a w := h
end Go.Proofs.Ythfgccibiajneaa
