/-
  The grid's methods, one contract each, for each type that a grid is made of.
-/
import Derived.Test.YtjlgkljifpjehaaGridSet
import Derived.WalkSpells
import Derived.WalkLawsBesides
import Derived.Lib.Hide
import Derived.Laws.MakeOwn
import Derived.OwnWalk
namespace Go.Proofs.Ytjlgkljifpjehaa
open Go.RowKit
theorem madeCells_cells {V : Type} {enc : V → List Value} {zs : List Value} {m : Nat} (hz : zs.length = m) (he : ∀ x, (enc x).length = m) (n : Nat) :
    madeCells (Value.bool false :: zs).toArray (n * (m + 1)) = cells enc zs (List.replicate n none) := by
  apply Array.ext_getElem?
  intro t
  obtain ⟨q, r, hr, rfl⟩ : ∃ q r, r < m + 1 ∧ t = q * (m + 1) + r := ⟨t / (m + 1), t % (m + 1), Nat.mod_lt _ (by omega), by rw [Nat.mul_comm]; exact (Nat.div_add_mod t (m + 1)).symm⟩
  rw [cells_get hz he _ _ _ hr, List.getElem?_replicate]
  unfold madeCells
  rw [Array.getElem?_map]
  by_cases hq : q < n
  · have hlt : q * (m + 1) + r < n * (m + 1) := place_lt hq hr
    rw [if_pos hq, Array.getElem?_range, if_pos hlt]
    have e : (q * (m + 1) + r) % (m + 1) = r := by rw [Nat.mul_comm, Nat.mul_add_mod, Nat.mod_eq_of_lt hr]
    simp only [Option.map_some, List.size_toArray, List.length_cons, hz, e, Option.bind_some, slot]
    have hr' : r < (Value.bool false :: zs).length := by rw [List.length_cons, hz]; exact hr
    rw [List.getElem?_eq_getElem hr', getElem!_pos _ r (by simpa using hr')]
    rfl
  · have hge : n * (m + 1) ≤ q * (m + 1) + r := Nat.le_trans (Nat.mul_le_mul_right _ (Nat.le_of_not_lt hq)) (Nat.le_add_right _ _)
    rw [if_neg hq, Array.getElem?_range, if_neg (by omega)]
    rfl

namespace Gi
theorem infoC : (Try.prog.info? 96).map (fun i => (i.zero, i.size, i.bytes)) = some (some (.agg #[.bool false, .int .i64 0]), 2, 16) := by kernel_rfl
theorem makeC (n : Nat) (hn : n ≤ 4096) (w : World) : (Instr.makeSlice 90 (.int .i64 (n : Int)) (.int .i64 (n : Int))).run Try.prog w = .ok (.slice (some ⟨w.heap.size, 0, none⟩) n n) (w.alloc (.cells (cells enc zs (List.replicate n none)) 96)) := by
  obtain ⟨i0, hi, hz0, hz1, hz2⟩ := info_parts infoC
  have := run_make (P := Try.prog) w 90 96 i0 _ Try.underlying90 hi hz0 .i64 .i64 n n (by omega) (by omega) (by rw [hz2]; omega) (by omega)
  rw [hz1, Int.toNat_natCast] at this
  rw [this]
  exact congrArg (fun c => Result.ok (Value.slice (some ⟨w.heap.size, 0, none⟩) n n) (w.alloc (.cells c 96))) (madeCells_cells (enc := enc) (zs := zs) (m := 1) rfl (fun _ => rfl) n)
set_option maxHeartbeats 1000000 in
theorem new_ok (a b : Nat) (h1 : 1 ≤ a) (h2 : a ≤ 4) (h3 : 1 ≤ b) (h4 : b ≤ 1024) (w : World) :
    Calls Try.prog 12 #[.int .i64 a, .int .i64 b] w fun e w' => e = .returned (.tuple #[.pointer (some ⟨w.heap.size + 1, 0, none⟩), .int .i64 0]) ∧ Gr w' (w.heap.size + 1) w.heap.size a b (List.replicate (a * b) none) ∧ Below w.heap.size w w' := by
  have hm : a * b ≤ 4096 := place_le (by omega) (by omega)
  have hx1 : IntKind.i64.wrap ((a : Int) * (b : Int)) = ((a * b : Nat) : Int) := by
    rw [← Int.natCast_mul, IntKind.wrap_i64]; omega
  have hmk := makeC (a * b) hm
  have d1 : decide ((a : Int) < 1) = false := by simp; omega
  have d2 : decide (4 < (a : Int)) = false := by simp; omega
  have d3 : decide ((b : Int) < 1) = false := by simp; omega
  have d4 : decide (1024 < (b : Int)) = false := by simp; omega
  have HG := Lib.hid hm
  clear hm
  generalize hN : a * b = N at *
  go_enter Try.func12, Try.ntmps12
  go_wp2_with fail
  go_ret2
  subst hN
  refine ⟨rfl, ⟨?_, (at_new w _ _ _ rfl).alloc _, by simp, by omega, h2, h4⟩, (by repeat first | exact Below.refl _ _ | refine Below.drew ?_ | refine Below.alloc ?_ (by simp <;> omega) _)⟩
  rw [cnt_replicate]
  exact at_new _ _ _ _ (by simp)
theorem new_no (st sz : Int) (hg : ¬ (1 ≤ st ∧ st ≤ 4 ∧ 1 ≤ sz ∧ sz ≤ 1024)) (w : World) :
    Calls Try.prog 12 #[.int .i64 st, .int .i64 sz] w fun e w' => e = .returned (.tuple #[.pointer none, .int .i64 1]) ∧ Below w.heap.size w w' := by
  have hcase : st < 1 ∨ (decide (st < 1) = false ∧ 4 < st) ∨ (decide (st < 1) = false ∧ decide (4 < st) = false ∧ sz < 1) ∨ (decide (st < 1) = false ∧ decide (4 < st) = false ∧ decide (sz < 1) = false ∧ 1024 < sz) := by
    simp only [decide_eq_false_iff_not]; omega
  clear hg
  rcases hcase with c1 | ⟨c1, c2⟩ | ⟨c1, c2, c3⟩ | ⟨c1, c2, c3, c4⟩ <;>
  · go_enter Try.func12, Try.ntmps12
    go_wp2_with fail
    go_ret2
    exact ⟨rfl, Below.refl _ _⟩
end Gi

namespace Gs
theorem infoC : (Try.prog.info? 136).map (fun i => (i.zero, i.size, i.bytes)) = some (some (.agg #[.bool false, .string ⟨#[]⟩]), 2, 24) := by kernel_rfl
theorem makeC (n : Nat) (hn : n ≤ 4096) (w : World) : (Instr.makeSlice 130 (.int .i64 (n : Int)) (.int .i64 (n : Int))).run Try.prog w = .ok (.slice (some ⟨w.heap.size, 0, none⟩) n n) (w.alloc (.cells (cells enc zs (List.replicate n none)) 136)) := by
  obtain ⟨i0, hi, hz0, hz1, hz2⟩ := info_parts infoC
  have := run_make (P := Try.prog) w 130 136 i0 _ Try.underlying130 hi hz0 .i64 .i64 n n (by omega) (by omega) (by rw [hz2]; omega) (by omega)
  rw [hz1, Int.toNat_natCast] at this
  rw [this]
  exact congrArg (fun c => Result.ok (Value.slice (some ⟨w.heap.size, 0, none⟩) n n) (w.alloc (.cells c 136))) (madeCells_cells (enc := enc) (zs := zs) (m := 1) rfl (fun _ => rfl) n)
set_option maxHeartbeats 1000000 in
theorem new_ok (a b : Nat) (h1 : 1 ≤ a) (h2 : a ≤ 4) (h3 : 1 ≤ b) (h4 : b ≤ 1024) (w : World) :
    Calls Try.prog 43 #[.int .i64 a, .int .i64 b] w fun e w' => e = .returned (.tuple #[.pointer (some ⟨w.heap.size + 1, 0, none⟩), .int .i64 0]) ∧ Gr w' (w.heap.size + 1) w.heap.size a b (List.replicate (a * b) none) ∧ Below w.heap.size w w' := by
  have hm : a * b ≤ 4096 := place_le (by omega) (by omega)
  have hx1 : IntKind.i64.wrap ((a : Int) * (b : Int)) = ((a * b : Nat) : Int) := by
    rw [← Int.natCast_mul, IntKind.wrap_i64]; omega
  have hmk := makeC (a * b) hm
  have d1 : decide ((a : Int) < 1) = false := by simp; omega
  have d2 : decide (4 < (a : Int)) = false := by simp; omega
  have d3 : decide ((b : Int) < 1) = false := by simp; omega
  have d4 : decide (1024 < (b : Int)) = false := by simp; omega
  have HG := Lib.hid hm
  clear hm
  generalize hN : a * b = N at *
  go_enter Try.func43, Try.ntmps43
  go_wp2_with fail
  go_ret2
  subst hN
  refine ⟨rfl, ⟨?_, (at_new w _ _ _ rfl).alloc _, by simp, by omega, h2, h4⟩, (by repeat first | exact Below.refl _ _ | refine Below.drew ?_ | refine Below.alloc ?_ (by simp <;> omega) _)⟩
  rw [cnt_replicate]
  exact at_new _ _ _ _ (by simp)
theorem new_no (st sz : Int) (hg : ¬ (1 ≤ st ∧ st ≤ 4 ∧ 1 ≤ sz ∧ sz ≤ 1024)) (w : World) :
    Calls Try.prog 43 #[.int .i64 st, .int .i64 sz] w fun e w' => e = .returned (.tuple #[.pointer none, .int .i64 1]) ∧ Below w.heap.size w w' := by
  have hcase : st < 1 ∨ (decide (st < 1) = false ∧ 4 < st) ∨ (decide (st < 1) = false ∧ decide (4 < st) = false ∧ sz < 1) ∨ (decide (st < 1) = false ∧ decide (4 < st) = false ∧ decide (sz < 1) = false ∧ 1024 < sz) := by
    simp only [decide_eq_false_iff_not]; omega
  clear hg
  rcases hcase with c1 | ⟨c1, c2⟩ | ⟨c1, c2, c3⟩ | ⟨c1, c2, c3, c4⟩ <;>
  · go_enter Try.func43, Try.ntmps43
    go_wp2_with fail
    go_ret2
    exact ⟨rfl, Below.refl _ _⟩
end Gs

namespace Gs
set_option maxHeartbeats 1000000 in
theorem nil_in (s i : Int) (w : World) :
    Calls Try.prog 48 #[.pointer none, .agg #[.int .i64 s, .int .i64 i]] w fun e w' => e = .returned (.bool false) ∧ Below w.heap.size w w' := by
  go_enter Try.func48, Try.ntmps48
  go_wp2_with fail
  refine region_sq (fun _ => False) [(0, true), (1, true), (2, true), (3, true), (4, true), (5, true), (6, true), (7, true), (8, true), (9, true), (10, true), (11, true), (12, true), (13, true), (14, true), (15, true), (16, true), (17, true), (18, true), (19, true), (20, true), (21, true), (22, true), (23, true), (24, true), (25, true), (26, true), (27, true), (28, true), (29, true), (30, true)] (by kernel_rfl) (by kernel_rfl) (fun _ _ d _ _ h => by cases d <;> exact h) ?_
  repeat (first
      | (refine sq_yes rfl (by rfl) (fun w' hM => by ((try replace hM := hM.of_drew); obtain ⟨hR1, hR2, hR3⟩ := hM.rules; clear hM; go_simp; with_reducible rfl)) ?_; simp only [Act.put, List.setIfInBounds_toArray, List.set_cons_zero, List.set_cons_succ])
      | (refine sq_no rfl (by rfl) ?_; simp only [Act.put, List.setIfInBounds_toArray, List.set_cons_zero, List.set_cons_succ]))
  refine sq_end ?_
  go_wp2_with fail
  go_ret
  exact ⟨rfl, (by repeat first | exact Below.refl _ _ | refine Below.drew ?_ | refine Below.alloc ?_ (by simp <;> omega) _)⟩
theorem nil_len (w : World) :
    Calls Try.prog 47 #[.pointer none] w fun e w' => e = .returned (.int .i64 0) ∧ w' = w := by
  go_enter Try.func47, Try.ntmps47
  go_wp2_with fail
  go_ret
  exact ⟨rfl, rfl⟩
theorem nil_at (s i : Int) (w : World) :
    Calls Try.prog 58 #[.pointer none, .agg #[.int .i64 s, .int .i64 i]] w fun e w' => e = .returned (.pointer none) ∧ Below w.heap.size w w' := by
  go_enter Try.func58, Try.ntmps58
  go_wp2_with fail
  refine (nil_in s i _).mono ?_
  rintro e w1 ⟨rfl, hw1⟩
  go_wp2_with fail
  go_ret
  exact ⟨rfl, step_below (by repeat first | exact Below.refl _ _ | refine Below.drew ?_ | refine Below.alloc ?_ (by simp <;> omega) _) hw1⟩
theorem nil_set (s i : Int) (x : V) (w : World) :
    Calls Try.prog 44 #[.pointer none, .agg #[.int .i64 s, .int .i64 i], .string x] w fun e w' => e = .returned (.bool false) ∧ Below w.heap.size w w' := by
  go_enter Try.func44, Try.ntmps44
  go_wp2_with fail
  refine (nil_at s i _).mono ?_
  rintro e w1 ⟨rfl, hw1⟩
  go_wp2_with fail
  go_ret
  exact ⟨rfl, step_below (by repeat first | exact Below.refl _ _ | refine Below.drew ?_ | refine Below.alloc ?_ (by simp <;> omega) _) hw1⟩
end Gs
end Go.Proofs.Ytjlgkljifpjehaa
