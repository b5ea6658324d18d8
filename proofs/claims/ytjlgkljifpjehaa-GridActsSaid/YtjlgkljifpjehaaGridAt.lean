/-
  The grid's methods, one contract each, for each type that a grid is made of.
-/
import Derived.Test.YtjlgkljifpjehaaGridIn
import Derived.WalkSpells
import Derived.WalkLawsBesides
import Derived.Lib.Hide
import Derived.Laws.MakeOwn
import Derived.OwnWalk
namespace Go.Proofs.Ytjlgkljifpjehaa
open Go.RowKit

namespace Gi
set_option maxHeartbeats 2000000 in
theorem at_any (gh gl : Nat) (st sz n : Nat) (hst : st ≤ 4) (hsz : sz ≤ 1024) (s i : Int) (w : World) (h : At w gh 92 #[.int .i64 st, .int .i64 sz, .slice (some ⟨gl, 0, none⟩) (st * sz) (st * sz), .int .i64 n]) (hgl : gl < w.heap.size) :
    Calls Try.prog 49 #[.pointer (some ⟨gh, 0, none⟩), .agg #[.int .i64 s, .int .i64 i]] w fun e w' => e = .returned (if pin st sz s i then .pointer (some ⟨gl, (s.toNat * sz + i.toNat) * 2, none⟩) else .pointer none) ∧ Below w.heap.size w w' := by
  have hl := h.lt
  have H := Lib.hid h
  have h0 := h.cell 1
  have h1 := h.cell 2
  simp only [List.getElem?_toArray, List.getElem?_cons_zero, List.getElem?_cons_succ] at h0 h1
  clear h
  cases hp : pin st sz s i
  · go_enter Try.func49, Try.ntmps49
    go_wp2_with fail
    refine (in_any gh st sz n _ s i _ (H.out.alloc _)).mono ?_
    rintro e w1 ⟨rfl, hw1⟩
    rw [hp]
    go_wp2_with fail
    go_ret
    exact ⟨by simp, step_below (by repeat first | exact Below.refl _ _ | refine Below.drew ?_ | refine Below.alloc ?_ (by simp <;> omega) _) hw1⟩
  · simp only [pin, decide_eq_true_eq] at hp
    obtain ⟨p1, p2, p3, p4⟩ := hp
    obtain ⟨a, rfl⟩ : ∃ a : Nat, s = a := ⟨s.toNat, by omega⟩
    obtain ⟨b, rfl⟩ : ∃ b : Nat, i = b := ⟨i.toNat, by omega⟩
    have hp : pin st sz a b = true := by simp only [pin, decide_eq_true_eq]; omega
    rw [if_pos rfl, Int.toNat_natCast, Int.toNat_natCast]
    have hk : a * sz + b < st * sz := place_lt (by omega) (by omega)
    have hm : st * sz ≤ 4096 := place_le hst hsz
    have hx1 : IntKind.i64.wrap ((a : Int) * (sz : Int)) = ((a * sz : Nat) : Int) := by
      rw [← Int.natCast_mul, IntKind.wrap_i64]; omega
    have hx2 : IntKind.i64.wrap (((a * sz : Nat) : Int) + (b : Int)) = ((a * sz + b : Nat) : Int) := by
      rw [IntKind.wrap_i64]; omega
    go_enter Try.func49, Try.ntmps49
    go_wp2_with fail
    refine (in_any gh st sz n _ _ _ _ (H.out.alloc _)).mono ?_
    rintro e w1 ⟨rfl, hw1⟩
    rw [hp]
    go_wp2_with fail
    have hA0 := (At.new w 23 #[.int .i64 a, .int .i64 b]).below hw1 (by simp)
    have hA1 := (H.out.alloc (.cells #[.int .i64 a, .int .i64 b] 23)).below hw1 (by simp; omega)
    have c0 := hA0.cell 0
    have c1 := hA0.cell 1
    have c2 := hA1.cell 1
    have c3 := hA1.cell 2
    simp only [List.getElem?_toArray, List.getElem?_cons_zero, List.getElem?_cons_succ] at c0 c1 c2 c3
    have e1 : gh < w1.heap.size := hA1.lt
    have e2 : gl < w1.heap.size := by have := hw1.size; simp at this; omega
    have e3 := hA0.lt
    have HW := Lib.hid (step_below (a := w) (by repeat first | exact Below.refl _ _ | refine Below.drew ?_ | refine Below.alloc ?_ (by simp <;> omega) _) hw1)
    clear hA0 hA1 hw1 h0 h1
    generalize hg0 : w.heap.size = g0 at *
    generalize hkk : a * sz + b = k at *
    generalize hpp : a * sz = p at *
    generalize hN : st * sz = N at *
    have hkN : (k : Int) < (N : Int) := Int.ofNat_lt.2 hk
    have hk0 : (0 : Int) ≤ (k : Int) := Int.natCast_nonneg k
    refine region_sq (fun _ => False) [(0, true), (1, true), (2, true), (3, true), (4, true), (5, true), (6, true), (7, true), (8, true), (9, true), (10, true), (11, true), (12, true), (13, true), (14, true), (15, true)] (by kernel_rfl) (by kernel_rfl) (fun _ _ d _ _ h => by cases d <;> exact h) ?_
    repeat (first
        | (refine sq_yes rfl (by rfl) (fun w' hM => by ((try replace hM := hM.of_drew); obtain ⟨hR1, hR2, hR3⟩ := hM.rules; clear hM; go_simp; with_reducible rfl)) ?_; simp only [Act.put, List.setIfInBounds_toArray, List.set_cons_zero, List.set_cons_succ])
        | (refine sq_no rfl (by rfl) ?_; simp only [Act.put, List.setIfInBounds_toArray, List.set_cons_zero, List.set_cons_succ]))
    refine sq_end ?_
    go_wp2_with fail
    go_ret
    subst hkk hpp hN hg0
    exact ⟨rfl, HW.out.drew⟩
end Gi

namespace Gs
set_option maxHeartbeats 2000000 in
theorem at_any (gh gl : Nat) (st sz n : Nat) (hst : st ≤ 4) (hsz : sz ≤ 1024) (s i : Int) (w : World) (h : At w gh 132 #[.int .i64 st, .int .i64 sz, .slice (some ⟨gl, 0, none⟩) (st * sz) (st * sz), .int .i64 n]) (hgl : gl < w.heap.size) :
    Calls Try.prog 58 #[.pointer (some ⟨gh, 0, none⟩), .agg #[.int .i64 s, .int .i64 i]] w fun e w' => e = .returned (if pin st sz s i then .pointer (some ⟨gl, (s.toNat * sz + i.toNat) * 2, none⟩) else .pointer none) ∧ Below w.heap.size w w' := by
  have hl := h.lt
  have H := Lib.hid h
  have h0 := h.cell 1
  have h1 := h.cell 2
  simp only [List.getElem?_toArray, List.getElem?_cons_zero, List.getElem?_cons_succ] at h0 h1
  clear h
  cases hp : pin st sz s i
  · go_enter Try.func58, Try.ntmps58
    go_wp2_with fail
    refine (in_any gh st sz n _ s i _ (H.out.alloc _)).mono ?_
    rintro e w1 ⟨rfl, hw1⟩
    rw [hp]
    go_wp2_with fail
    go_ret
    exact ⟨by simp, step_below (by repeat first | exact Below.refl _ _ | refine Below.drew ?_ | refine Below.alloc ?_ (by simp <;> omega) _) hw1⟩
  · simp only [pin, decide_eq_true_eq] at hp
    obtain ⟨p1, p2, p3, p4⟩ := hp
    obtain ⟨a, rfl⟩ : ∃ a : Nat, s = a := ⟨s.toNat, by omega⟩
    obtain ⟨b, rfl⟩ : ∃ b : Nat, i = b := ⟨i.toNat, by omega⟩
    have hp : pin st sz a b = true := by simp only [pin, decide_eq_true_eq]; omega
    rw [if_pos rfl, Int.toNat_natCast, Int.toNat_natCast]
    have hk : a * sz + b < st * sz := place_lt (by omega) (by omega)
    have hm : st * sz ≤ 4096 := place_le hst hsz
    have hx1 : IntKind.i64.wrap ((a : Int) * (sz : Int)) = ((a * sz : Nat) : Int) := by
      rw [← Int.natCast_mul, IntKind.wrap_i64]; omega
    have hx2 : IntKind.i64.wrap (((a * sz : Nat) : Int) + (b : Int)) = ((a * sz + b : Nat) : Int) := by
      rw [IntKind.wrap_i64]; omega
    go_enter Try.func58, Try.ntmps58
    go_wp2_with fail
    refine (in_any gh st sz n _ _ _ _ (H.out.alloc _)).mono ?_
    rintro e w1 ⟨rfl, hw1⟩
    rw [hp]
    go_wp2_with fail
    have hA0 := (At.new w 23 #[.int .i64 a, .int .i64 b]).below hw1 (by simp)
    have hA1 := (H.out.alloc (.cells #[.int .i64 a, .int .i64 b] 23)).below hw1 (by simp; omega)
    have c0 := hA0.cell 0
    have c1 := hA0.cell 1
    have c2 := hA1.cell 1
    have c3 := hA1.cell 2
    simp only [List.getElem?_toArray, List.getElem?_cons_zero, List.getElem?_cons_succ] at c0 c1 c2 c3
    have e1 : gh < w1.heap.size := hA1.lt
    have e2 : gl < w1.heap.size := by have := hw1.size; simp at this; omega
    have e3 := hA0.lt
    have HW := Lib.hid (step_below (a := w) (by repeat first | exact Below.refl _ _ | refine Below.drew ?_ | refine Below.alloc ?_ (by simp <;> omega) _) hw1)
    clear hA0 hA1 hw1 h0 h1
    generalize hg0 : w.heap.size = g0 at *
    generalize hkk : a * sz + b = k at *
    generalize hpp : a * sz = p at *
    generalize hN : st * sz = N at *
    have hkN : (k : Int) < (N : Int) := Int.ofNat_lt.2 hk
    have hk0 : (0 : Int) ≤ (k : Int) := Int.natCast_nonneg k
    refine region_sq (fun _ => False) [(0, true), (1, true), (2, true), (3, true), (4, true), (5, true), (6, true), (7, true), (8, true), (9, true), (10, true), (11, true), (12, true), (13, true), (14, true), (15, true)] (by kernel_rfl) (by kernel_rfl) (fun _ _ d _ _ h => by cases d <;> exact h) ?_
    repeat (first
        | (refine sq_yes rfl (by rfl) (fun w' hM => by ((try replace hM := hM.of_drew); obtain ⟨hR1, hR2, hR3⟩ := hM.rules; clear hM; go_simp; with_reducible rfl)) ?_; simp only [Act.put, List.setIfInBounds_toArray, List.set_cons_zero, List.set_cons_succ])
        | (refine sq_no rfl (by rfl) ?_; simp only [Act.put, List.setIfInBounds_toArray, List.set_cons_zero, List.set_cons_succ]))
    refine sq_end ?_
    go_wp2_with fail
    go_ret
    subst hkk hpp hN hg0
    exact ⟨rfl, HW.out.drew⟩
end Gs
end Go.Proofs.Ytjlgkljifpjehaa
