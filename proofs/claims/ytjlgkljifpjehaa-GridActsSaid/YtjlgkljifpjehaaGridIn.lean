/-
  The grid's methods, one contract each, for each type that a grid is made of.
-/
import Derived.Test.YtjlgkljifpjehaaGridPlain
import Derived.Test.YtjlgkljifpjehaaHeap
import Derived.Test.YtjlgkljifpjehaaMore
import Derived.Test.YtjlgkljifpjehaaRows
import Derived.WalkSpells
import Derived.WalkLawsBesides
import Derived.Lib.Hide
import Derived.Laws.MakeOwn
import Derived.OwnWalk
namespace Go.Proofs.Ytjlgkljifpjehaa
open Go.RowKit

namespace Gi
set_option maxHeartbeats 1000000 in
theorem in_any (gh : Nat) (st sz n : Nat) (sl : Value) (s i : Int) (w : World) (h : At w gh 92 #[.int .i64 st, .int .i64 sz, sl, .int .i64 n]) :
    Calls Try.prog 17 #[.pointer (some ⟨gh, 0, none⟩), .agg #[.int .i64 s, .int .i64 i]] w fun e w' => e = .returned (.bool (pin st sz s i)) ∧ Below w.heap.size w w' := by
  have hl := h.lt
  have hl' : gh < w.heap.size + 1 := by omega
  have h0 := h.cell 0
  have h1 := h.cell 1
  simp only [List.getElem?_toArray, List.getElem?_cons_zero, List.getElem?_cons_succ] at h0 h1
  clear h
  have hcase : (∃ β, β = pin st sz s i ∧ ((decide ((0 : Int) ≤ s) = false ∧ β = false) ∨ (0 ≤ s ∧ decide (s < (st : Int)) = false ∧ β = false) ∨ (0 ≤ s ∧ s < st ∧ decide (0 ≤ i) = false ∧ β = false) ∨ (0 ≤ s ∧ s < st ∧ 0 ≤ i ∧ decide (i < (sz : Int)) = false ∧ β = false) ∨ (0 ≤ s ∧ s < st ∧ 0 ≤ i ∧ i < sz ∧ β = true))) := by
    refine ⟨_, rfl, ?_⟩
    simp only [decide_eq_false_iff_not, pin, decide_eq_true_eq]
    omega
  obtain ⟨β, hβ, hcase⟩ := hcase
  have HP := Lib.hid hβ
  clear hβ
  rcases hcase with ⟨c1, rfl⟩ | ⟨c1, c2, rfl⟩ | ⟨c1, c2, c3, rfl⟩ | ⟨c1, c2, c3, c4, rfl⟩ | ⟨c1, c2, c3, c4, rfl⟩ <;>
  · go_enter Try.func17, Try.ntmps17
    go_wp2_with fail
    refine region_sq (fun _ => False) [(0, true), (1, true), (2, true), (3, true), (4, true), (5, true), (6, true), (7, true), (8, true), (9, true), (10, true), (11, true), (12, true), (13, true), (14, true), (15, true), (16, true), (17, true), (18, true), (19, true), (20, true), (21, true), (22, true), (23, true), (24, true), (25, true), (26, true), (27, true), (28, true), (29, true), (30, true)] (by kernel_rfl) (by kernel_rfl) (fun _ _ d _ _ h => by cases d <;> exact h) ?_
    repeat (first
        | (refine sq_yes rfl (by rfl) (fun w' hM => by ((try replace hM := hM.of_drew); obtain ⟨hR1, hR2, hR3⟩ := hM.rules; clear hM; go_simp; with_reducible rfl)) ?_; simp only [Act.put, List.setIfInBounds_toArray, List.set_cons_zero, List.set_cons_succ])
        | (refine sq_no rfl (by rfl) ?_; simp only [Act.put, List.setIfInBounds_toArray, List.set_cons_zero, List.set_cons_succ]))
    refine sq_end ?_
    go_wp2_with fail
    go_ret
    exact ⟨by rw [← HP.out]; rfl, ((Below.refl _ _).alloc (Nat.le_refl _) _).drew⟩
end Gi

namespace Gs
set_option maxHeartbeats 1000000 in
theorem in_any (gh : Nat) (st sz n : Nat) (sl : Value) (s i : Int) (w : World) (h : At w gh 132 #[.int .i64 st, .int .i64 sz, sl, .int .i64 n]) :
    Calls Try.prog 48 #[.pointer (some ⟨gh, 0, none⟩), .agg #[.int .i64 s, .int .i64 i]] w fun e w' => e = .returned (.bool (pin st sz s i)) ∧ Below w.heap.size w w' := by
  have hl := h.lt
  have hl' : gh < w.heap.size + 1 := by omega
  have h0 := h.cell 0
  have h1 := h.cell 1
  simp only [List.getElem?_toArray, List.getElem?_cons_zero, List.getElem?_cons_succ] at h0 h1
  clear h
  have hcase : (∃ β, β = pin st sz s i ∧ ((decide ((0 : Int) ≤ s) = false ∧ β = false) ∨ (0 ≤ s ∧ decide (s < (st : Int)) = false ∧ β = false) ∨ (0 ≤ s ∧ s < st ∧ decide (0 ≤ i) = false ∧ β = false) ∨ (0 ≤ s ∧ s < st ∧ 0 ≤ i ∧ decide (i < (sz : Int)) = false ∧ β = false) ∨ (0 ≤ s ∧ s < st ∧ 0 ≤ i ∧ i < sz ∧ β = true))) := by
    refine ⟨_, rfl, ?_⟩
    simp only [decide_eq_false_iff_not, pin, decide_eq_true_eq]
    omega
  obtain ⟨β, hβ, hcase⟩ := hcase
  have HP := Lib.hid hβ
  clear hβ
  rcases hcase with ⟨c1, rfl⟩ | ⟨c1, c2, rfl⟩ | ⟨c1, c2, c3, rfl⟩ | ⟨c1, c2, c3, c4, rfl⟩ | ⟨c1, c2, c3, c4, rfl⟩ <;>
  · go_enter Try.func48, Try.ntmps48
    go_wp2_with fail
    refine region_sq (fun _ => False) [(0, true), (1, true), (2, true), (3, true), (4, true), (5, true), (6, true), (7, true), (8, true), (9, true), (10, true), (11, true), (12, true), (13, true), (14, true), (15, true), (16, true), (17, true), (18, true), (19, true), (20, true), (21, true), (22, true), (23, true), (24, true), (25, true), (26, true), (27, true), (28, true), (29, true), (30, true)] (by kernel_rfl) (by kernel_rfl) (fun _ _ d _ _ h => by cases d <;> exact h) ?_
    repeat (first
        | (refine sq_yes rfl (by rfl) (fun w' hM => by ((try replace hM := hM.of_drew); obtain ⟨hR1, hR2, hR3⟩ := hM.rules; clear hM; go_simp; with_reducible rfl)) ?_; simp only [Act.put, List.setIfInBounds_toArray, List.set_cons_zero, List.set_cons_succ])
        | (refine sq_no rfl (by rfl) ?_; simp only [Act.put, List.setIfInBounds_toArray, List.set_cons_zero, List.set_cons_succ]))
    refine sq_end ?_
    go_wp2_with fail
    go_ret
    exact ⟨by rw [← HP.out]; rfl, ((Below.refl _ _).alloc (Nat.le_refl _) _).drew⟩
end Gs
end Go.Proofs.Ytjlgkljifpjehaa
