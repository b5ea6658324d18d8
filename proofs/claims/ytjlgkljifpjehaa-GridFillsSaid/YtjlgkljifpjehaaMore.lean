/-
  Small laws besides: worlds behind one another, blocks made anew.
-/
import Derived.Test.YtjlgkljifpjehaaHeap
import Derived.WalkKit
import Derived.Below
namespace Go.Proofs.Ytjlgkljifpjehaa
open Go.RowKit
theorem step_below {a b c : World} (h : Below a.heap.size a b) (k : Below b.heap.size b c) : Below a.heap.size a c := h.trans (k.mono h.size)
theorem lt_of_heap {w : World} {g : Nat} {o : Obj} (h : w.heap[g]? = some o) : g < w.heap.size := by
  rcases Nat.lt_or_ge g w.heap.size with h1 | h1
  · exact h1
  · rw [Array.getElem?_eq_none h1] at h; cases h
theorem at_new (w : World) (t : TypeId) (cs : Array Value) (n : Nat) (hn : n = w.heap.size) : At (w.alloc (.cells cs t)) n t cs := by subst hn; exact At.new w t cs
end Go.Proofs.Ytjlgkljifpjehaa
