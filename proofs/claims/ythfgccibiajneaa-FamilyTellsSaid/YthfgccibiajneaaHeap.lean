/-
  Blocks as wholes, over any program: 'row' (a block's cells), a load of a whole array or struct as one step, what stays behind 'Mod'.
-/
import Derived.Test.YthfgccibiajneaaReg
import Derived.Deep.WholeRow
namespace Go.Proofs.Ythfgccibiajneaa
open Go.RowKit
/-- The cells of a block, whole. -/
def row (w : World) (n : Nat) : Array Value := match w.heap[n]? with | some (.cells c _ _) => c | _ => #[]
/-- Is a block one of cells, none of them shut? -/
def open_ (w : World) (n : Nat) : Bool := match w.heap[n]? with | some (.cells _ _ (0, 0)) => true | _ => false
theorem row_of {w : World} {n : Nat} {c : Array Value} {t : TypeId} {f : Nat × Nat} (h : w.heap[n]? = some (.cells c t f)) : row w n = c := by unfold row; rw [h]
theorem open_of {w : World} {n : Nat} {c : Array Value} {t : TypeId} (h : w.heap[n]? = some (.cells c t (0, 0))) : open_ w n = true := by unfold open_; rw [h]; rfl
@[go_sem] theorem row_alloc_at (w : World) (c : Array Value) (t : TypeId) (f : Nat × Nat) (n : Nat) (hn : n = w.heap.size) : row (w.alloc (.cells c t f)) n = c := by
  subst hn; exact row_of (heap_alloc_new w _)
@[go_sem] theorem row_alloc_past (w : World) (o : Obj) (n : Nat) (hn : n < w.heap.size) : row (w.alloc o) n = row w n := by
  unfold row; rw [Below.heap_alloc w o n hn]
@[go_sem] theorem row_drew (w : World) (n : Nat) : row w.drew n = row w n := rfl
@[go_sem] theorem open_alloc_at (w : World) (c : Array Value) (t : TypeId) (n : Nat) (hn : n = w.heap.size) : open_ (w.alloc (.cells c t (0, 0))) n = true := by
  subst hn; exact open_of (heap_alloc_new w _)
@[go_sem] theorem open_alloc_past (w : World) (o : Obj) (n : Nat) (hn : n < w.heap.size) : open_ (w.alloc o) n = open_ w n := by
  unfold open_; rw [Below.heap_alloc w o n hn]
@[go_sem] theorem open_drew (w : World) (n : Nat) : open_ w.drew n = open_ w n := rfl
theorem heap_of_open {w : World} {n : Nat} (h : open_ w n = true) : ∃ t, w.heap[n]? = some (.cells (row w n) t (0, 0)) := by
  unfold open_ at h
  split at h
  · rename_i c t he; exact ⟨t, by rw [row_of he]; exact he⟩
  · cases h
theorem lt_of_open {w : World} {n : Nat} (h : open_ w n = true) : n < w.heap.size := by
  obtain ⟨t, h⟩ := heap_of_open h
  rcases Nat.lt_or_ge n w.heap.size with h1 | h1
  · exact h1
  · rw [Array.getElem?_eq_none h1] at h; cases h
/-- A whole array or struct out of a variable of its own. -/
theorem loadAt_row {P : Program} (ty : TypeId) (d : TypeDesc) (size : Nat) (hu : P.underlying ty = some d) (hd : (match d with | .struct _ | .array _ _ => true | _ => false) = true)
    (hi : (P.info? ty).map (·.size) = some size) (w : World) (n : Nat) (ho : open_ w n = true) (hs : (row w n).size = size) :
    (Instr.loadAt ty (.pointer (some ⟨n, 0, none⟩))).run P w = .ok (.agg (row w n)) w := by
  obtain ⟨t, h⟩ := heap_of_open ho
  simp only [Instr.loadAt, Instr.sureAddr, Sem.run_bind, Sem.run_pure, Result.andThen_ok]
  exact run_loadVar_row w n t ty (row w n) (0, 0) d h hu hd (by rw [hs]; exact hi)
/-- The block that a pointer leads to, to its first cell. -/
def blk : Value → Nat
  | .pointer (some a) => a.block
  | _ => 0
def head : Value → Bool
  | .pointer (some ⟨_, 0, none⟩) => true
  | _ => false
@[go_sem] theorem blk_mk (b o : Nat) (s : Option Nat) : blk (.pointer (some ⟨b, o, s⟩)) = b := rfl
@[go_sem] theorem head_mk (b : Nat) : head (.pointer (some ⟨b, 0, none⟩)) = true := rfl
theorem of_head {v : Value} (h : head v = true) : v = .pointer (some ⟨blk v, 0, none⟩) := by
  unfold head at h
  split at h
  · rfl
  · cases h
/-- A load of a whole array or struct: one step. -/
theorem exec_load_row {P : Program} (ty : TypeId) (d : TypeDesc) (size : Nat) (hu : P.underlying ty = some d) (hd : (match d with | .struct _ | .array _ _ => true | _ => false) = true)
    (hi : (P.info? ty).map (·.size) = some size) (x : Operand) (dst : Option Tmp) (t : TypeId) (pos : String) (after : Array Edge) (g : Option (Nat × Bool)) (f : Operand → Value) (w : World)
    (hx : head (f x) = true) (ho : open_ w (blk (f x)) = true) (hs : (row w (blk (f x))).size = size) :
    (execOp f ⟨dst, .load ty x, t, pos, after, g⟩).run P w = .ok (.value (.agg (row w (blk (f x))))) w := by
  have e := of_head hx
  have h := loadAt_row (P := P) ty d size hu hd hi w _ ho hs
  rw [← e] at h
  unfold execOp
  simp only [Sem.run_bind, h, Result.andThen_ok, Sem.run_pure]
theorem Mod.of_drew {M : Nat → Prop} {a b : World} (h : Mod M a.drew b) : Mod M a b := ⟨h.os, h.tape, h.output, h.size, h.block⟩
/-- What stays, as rules of the walk. -/
theorem Mod.rules {M : Nat → Prop} {a b : World} (h : Mod M a b) :
    (∀ k o, k < a.heap.size → ¬ M k → b.cell? ⟨k, o, none⟩ = a.cell? ⟨k, o, none⟩) ∧ (∀ k, k < a.heap.size → ¬ M k → row b k = row a k) ∧ (∀ k, k < a.heap.size → ¬ M k → open_ b k = open_ a k) :=
  ⟨fun k o h1 h2 => h.cell (p := ⟨k, o, none⟩) h1 h2, fun k h1 h2 => by unfold row; rw [h.block k h1 h2], fun k h1 h2 => by unfold open_; rw [h.block k h1 h2]⟩
/-- Block g is of cells, cs, none of them shut. -/
def At (w : World) (g : Nat) (t : TypeId) (cs : Array Value) : Prop := w.heap[g]? = some (.cells cs t (0, 0))
section
variable {w w' : World} {g : Nat} {t : TypeId} {cs : Array Value}
theorem At.lt (h : At w g t cs) : g < w.heap.size := by
  unfold At at h
  rcases Nat.lt_or_ge g w.heap.size with h1 | h1
  · exact h1
  · rw [Array.getElem?_eq_none h1] at h; cases h
theorem At.cell (h : At w g t cs) (i : Nat) : w.cell? ⟨g, i, none⟩ = cs[i]? := cell_of_row w g i cs t (0, 0) h
theorem At.frozen (h : At w g t cs) (i : Nat) : w.frozen? ⟨g, i, none⟩ = false := frozen_of_row w g i cs t h
theorem At.row (h : At w g t cs) : row w g = cs := row_of h
theorem At.open (h : At w g t cs) : open_ w g = true := open_of h
theorem At.new (w : World) (t : TypeId) (cs : Array Value) : At (w.alloc (.cells cs t)) w.heap.size t cs := heap_alloc_new w _
theorem At.drew (h : At w g t cs) : At w.drew g t cs := h
theorem At.alloc (h : At w g t cs) (o : Obj) : At (w.alloc o) g t cs := (Below.heap_alloc w o g h.lt).trans h
theorem At.set (h : At w g t cs) (i : Nat) (u : Value) : At (w.setCell ⟨g, i, none⟩ u) g t (cs.setIfInBounds i u) := heap_setCell_same w g i cs t u h
theorem At.far (h : At w g t cs) {p : Addr} (hp : g ≠ p.block) (u : Value) : At (w.setCell p u) g t cs := (Below.heap_setCell w p u g hp).trans h
theorem At.mod {M : Nat → Prop} (h : At w g t cs) (hm : Mod M w w') (hg : ¬ M g) : At w' g t cs := (hm.block g h.lt hg).trans h
theorem At.below {B : Nat} (h : At w g t cs) (hb : Below B w w') (hg : g < B) : At w' g t cs := (hb.block g hg).trans h
end
end Go.Proofs.Ythfgccibiajneaa
