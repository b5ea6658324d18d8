/-
  The grid's methods, one contract each, for each type that a grid is made of.
-/
import Derived.Test.YtjlgkljifpjehaaGrid2All
import Derived.Test.YtjlgkljifpjehaaGridAwake
import Derived.WalkSpells
import Derived.WalkLawsBesides
import Derived.Lib.Hide
import Derived.Laws.MakeOwn
import Derived.OwnWalk
import Derived.RangeFuncNested
import Derived.RangeFuncBound
import Derived.RangeFuncCalls
import Derived.RangeFuncLeaves
import Derived.RangeFuncBox
import Derived.Shelf.Abstract
import Derived.Shelf.RegionOpen
import Derived.WalkKit
import Derived.OwnWalkIn
import Derived.TacticsInMore
import Derived.LoopNIn
import Derived.LoopIn
import Derived.Laws.StructEq
namespace Go.Proofs.Ytjlgkljifpjehaa
open Go.RowKit Go.Shelf
attribute [local go_sem] Oper.semAt_some
namespace G2
/-- The grid when the fill stands at index i, stage s: all of the higher indices, and of i's those of the lower stages. -/
def fl (N b : Nat) (i : Int) (s : Nat) : List (Option V) := (List.range N).map fun k => if i < ((k % b : Nat) : Int) ∨ (((k % b : Nat) : Int) = i ∧ k / b < s) then some (((k / b : Nat) : Int), ((k % b : Nat) : Int)) else none
theorem fl_get (N b : Nat) (i : Int) (s k : Nat) : (fl N b i s)[k]? = if k < N then some (if i < ((k % b : Nat) : Int) ∨ (((k % b : Nat) : Int) = i ∧ k / b < s) then some (((k / b : Nat) : Int), ((k % b : Nat) : Int)) else none) else none := by
  unfold fl
  rw [List.getElem?_map]
  by_cases h : k < N <;> simp [h]
theorem fl_length (N b : Nat) (i : Int) (s : Nat) : (fl N b i s).length = N := by simp [fl]
theorem fl_start (N b : Nat) (hb : 0 < b) : fl N b ((b : Int) - 1) 0 = List.replicate N none := by
  apply List.ext_getElem?
  intro k
  rw [fl_get, List.getElem?_replicate]
  have := Nat.mod_lt k hb
  generalize k % b = r at *
  generalize k / b = q at *
  by_cases h : k < N
  · rw [if_pos h, if_pos h, if_neg (by omega)]
  · rw [if_neg h, if_neg h]
theorem fl_next (a b : Nat) (i : Int) (hb : 0 < b) : fl (a * b) b i a = fl (a * b) b (i - 1) 0 := by
  apply List.ext_getElem?
  intro k
  rw [fl_get, fl_get]
  by_cases h : k < a * b
  · have h1 : k / b < a := (Nat.div_lt_iff_lt_mul hb).2 h
    rw [if_pos h, if_pos h]
    generalize k % b = r at *
    generalize k / b = q at *
    congr 1
    by_cases h2 : i < (r : Int) ∨ ((r : Int) = i ∧ q < a)
    · rw [if_pos h2, if_pos (by omega)]
    · rw [if_neg h2, if_neg (by omega)]
  · rw [if_neg h, if_neg h]
theorem fl_set (a b s i : Nat) (hs : s < a) (hi : i < b) : put a b s i (fl (a * b) b i s) (some ((s : Int), (i : Int))) = fl (a * b) b i (s + 1) := by
  have hp : pin a b (s : Int) (i : Int) = true := by simp only [pin, decide_eq_true_eq]; omega
  have hk : s * b + i < a * b := place_lt hs hi
  unfold put
  rw [hp, if_pos rfl, Int.toNat_natCast, Int.toNat_natCast]
  apply List.ext_getElem?
  intro k
  rw [List.getElem?_set, fl_length, fl_get, fl_get]
  by_cases h : s * b + i = k
  · subst h
    have h1 : (s * b + i) / b = s := by rw [Nat.mul_comm, Nat.mul_add_div (by omega), Nat.div_eq_of_lt hi, Nat.add_zero]
    have h2 : (s * b + i) % b = i := by rw [Nat.mul_comm, Nat.mul_add_mod, Nat.mod_eq_of_lt hi]
    rw [if_pos rfl, if_pos hk, if_pos hk, h1, h2, if_pos (by omega)]
  · rw [if_neg h]
    by_cases h3 : k < a * b
    · rw [if_pos h3, if_pos h3]
      congr 1
      have hne : ¬ (k % b = i ∧ k / b = s) := fun x => h (by rw [← x.1, ← x.2, Nat.mul_comm]; exact Nat.div_add_mod k b)
      by_cases h4 : (i : Int) < ((k % b : Nat) : Int) ∨ (((k % b : Nat) : Int) = i ∧ k / b < s)
      · rw [if_pos h4, if_pos (by omega)]
      · rw [if_neg h4, if_neg (by omega)]
    · rw [if_neg h3, if_neg h3]
/-- All is filled. -/
theorem fl_all (N b k : Nat) : (fl N b (-1) 0)[k]? = if k < N then some (some (((k / b : Nat) : Int), ((k % b : Nat) : Int))) else none := by
  rw [fl_get]
  by_cases h : k < N
  · rw [if_pos h, if_pos h, if_pos (by omega)]
  · rw [if_neg h, if_neg h]
theorem got_all (N b k : Nat) (hk : k ≤ N) : got (fl N b (-1) 0) k = (List.range k).map fun j => (j, (((j / b : Nat) : Int), ((j % b : Nat) : Int))) := by
  induction k with
  | zero => rfl
  | succ k ih =>
    have h : (fl N b (-1) 0)[k]? = some (some (((k / b : Nat) : Int), ((k % b : Nat) : Int))) := by rw [fl_all, if_pos (by omega)]
    rw [got_some h, ih (by omega), List.range_succ, List.map_append]; rfl
theorem cnt_all (N b : Nat) : cnt (fl N b (-1) 0) = N := by
  unfold cnt
  rw [List.filter_eq_self.2]
  · exact fl_length _ _ _ _
  · intro o ho
    obtain ⟨k, hk⟩ := List.mem_iff_getElem?.1 ho
    rw [fl_all] at hk
    split at hk
    · simp only [Option.some.injEq] at hk; rw [← hk]; rfl
    · cases hk
end G2
end Go.Proofs.Ytjlgkljifpjehaa
