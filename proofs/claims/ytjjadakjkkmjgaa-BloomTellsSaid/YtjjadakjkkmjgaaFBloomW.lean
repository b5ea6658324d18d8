/-
  The document's filter, made of a configuration and a number.
-/
import Derived.Test.YtjjadakjkkmjgaaFBloomU
import Derived.Test.YtjjadakjkkmjgaaFBloomQ
namespace Go.Proofs.Ytjjadakjkkmjgaa
open Go.RowKit
theorem foldl_splice (off : Nat) : ∀ (L : List Value) (k : Nat) (cs : Array Value), (L.zipIdx k).foldl (fun cs (x : Value × Nat) => cs.setIfInBounds (off + x.2) x.1) cs = splice cs (off + k) L
  | [], _, _ => rfl
  | v :: r, k, cs => by rw [List.zipIdx_cons, List.foldl_cons, foldl_splice off r (k + 1)]; rfl
theorem exec_bldF (parts : Array (Nat × Operand)) (dst : Option Tmp) (ty : TypeId) (pos : String) (after : Array Edge) (g : Option (Nat × Bool)) (f : Operand → Value) (w : World) :
    (execOp f ⟨dst, .build 66 parts, ty, pos, after, g⟩).run Try.prog w = bldX Try.prog 66 (parts.map fun (i, x) => (i, f x)) w := rfl
/-- The zero value's cells. -/
noncomputable def zF : Array Value := match (Try.prog.info? 66).bind (·.zero) with | some z => z.cells | none => #[]
theorem zF_ok : (zF.size == 50 && (match (zF[49]? : Option Value) with | some (.slice none 0 0) => true | _ => false)) = true := by kernel_rfl
theorem built_fill (X : List (Nat × Value)) : Try.prog.built 66 X = Instr.fill (#[(0, 48), (48, 1), (49, 1)][·]?) zF X := by kernel_rfl
set_option maxRecDepth 100000 in
theorem built_rcs (c : Cf) (N : Nat) : Try.prog.built 66 [(0, .agg (cc c)), (1, .int .i64 (N : Int))] = some (rcs c N (.slice none 0 0)) := by
  have hz := zF_ok
  simp only [Bool.and_eq_true, beq_iff_eq] at hz
  rw [built_fill]
  have hc : (Value.agg (cc c)).cells = cc c := rfl
  have h1 : Instr.fill (#[(0, 48), (48, 1), (49, 1)][·]?) zF [(0, .agg (cc c)), (1, .int .i64 (N : Int))] = some ((splice zF 0 (cc c).toList).setIfInBounds 48 (.int .i64 (N : Int))) := by
    have hf : (cc c).zipIdx.foldl (fun cs (x : Value × Nat) => cs.setIfInBounds (0 + x.2) x.1) zF = splice zF 0 (cc c).toList := by
      rw [← foldl_splice 0 (cc c).toList 0 zF, ← Array.foldl_toList, Array.toList_zipIdx]
    simp only [Instr.fill, List.getElem?_toArray, List.getElem?_cons_zero, List.getElem?_cons_succ, hc, cc_size]
    rw [if_neg (by simp [hz.1])]
    rw [hf]
    rw [if_neg (by simp [Value.cells, splice_size, hz.1])]
    simp [Value.cells]
  rw [h1]
  congr 1
  apply Array.ext_getElem?
  intro j
  rw [Array.getElem?_setIfInBounds, splice_size, hz.1, splice_get _ _ _ _ (by simp [cc_size, hz.1])]
  rcases Nat.lt_or_ge j 48 with h | h
  · rw [if_neg (by omega), if_pos (by simp [cc_size]; omega)]
    unfold rcs
    rw [Array.getElem?_append_left (by rw [cc_size]; omega)]
    simp
  · by_cases h48 : j = 48
    · subst h48
      rw [if_pos rfl, if_pos (by omega), rcs_48]
    · rw [if_neg (by omega), if_neg (by simp [cc_size]; omega)]
      by_cases h49 : j = 49
      · subst h49
        rw [rcs_49]
        have := hz.2
        split at this
        · assumption
        · cases this
      · rw [Array.getElem?_eq_none (by rw [hz.1]; omega), Array.getElem?_eq_none (by rw [rcs_size]; omega)]
theorem build_rcs (c : Cf) (N : Nat) (w : World) : bldX Try.prog 66 #[(0, .agg (cc c)), (1, .int .i64 (N : Int))] w = .ok (.value (.agg (rcs c N (.slice none 0 0)))) w := bldX_of w (built_rcs c N)
theorem OI.modlt {w w' : World} {B : Nat} {v : Value} {l : List Int} {M : Nat → Prop} (h : OI w B v l) (hm : Mod M w w') (hM : ∀ i, M i → i < B) : OI w' B v l := by
  refine ⟨h.1, ?_⟩
  rcases h.2 with h1 | ⟨b, cap, cur, h1, h2, h3, h4⟩
  · exact .inl h1
  · exact .inr ⟨b, cap, cur, h1, h2, (hm.block b (Array.getElem?_eq_some_iff.1 h3).1 (fun hb => by have := hM b hb; omega)).trans h3, h4⟩
theorem Mod.realloc2 {M : Nat → Prop} {w : World} {o o' : Obj} (h : M w.heap.size) : Mod M (w.alloc o) (w.alloc o') := ⟨rfl, rfl, rfl, by simp, fun i hi hm => by
  rw [World.size_alloc] at hi
  have hne : i ≠ w.heap.size := fun e => hm (e ▸ h)
  exact (Below.heap_alloc w o' i (by omega)).trans (Below.heap_alloc w o i (by omega)).symm⟩
end Go.Proofs.Ytjjadakjkkmjgaa
