/-
  The grid's methods, one contract each, for each type that a grid is made of.
-/
import Derived.Test.YtjlgkljifpjehaaGrid2Set
import Derived.WalkSpells
import Derived.WalkLawsBesides
import Derived.Lib.Hide
import Derived.Laws.MakeOwn
import Derived.OwnWalk
namespace Go.Proofs.Ytjlgkljifpjehaa
open Go.RowKit

namespace G2
theorem infoC : (Try.prog.info? 106).map (fun i => (i.zero, i.size, i.bytes)) = some (some (.agg #[.bool false, .int .i64 0, .int .i64 0]), 3, 24) := by kernel_rfl
theorem makeC (n : Nat) (hn : n ≤ 4096) (w : World) : (Instr.makeSlice 100 (.int .i64 (n : Int)) (.int .i64 (n : Int))).run Try.prog w = .ok (.slice (some ⟨w.heap.size, 0, none⟩) n n) (w.alloc (.cells (cells enc zs (List.replicate n none)) 106)) := by
  obtain ⟨i0, hi, hz0, hz1, hz2⟩ := info_parts infoC
  have := run_make (P := Try.prog) w 100 106 i0 _ Try.underlying100 hi hz0 .i64 .i64 n n (by omega) (by omega) (by rw [hz2]; omega) (by omega)
  rw [hz1, Int.toNat_natCast] at this
  rw [this]
  exact congrArg (fun c => Result.ok (Value.slice (some ⟨w.heap.size, 0, none⟩) n n) (w.alloc (.cells c 106))) (madeCells_cells (enc := enc) (zs := zs) (m := 2) rfl (fun _ => rfl) n)
set_option maxHeartbeats 1000000 in
theorem new_ok (a b : Nat) (h1 : 1 ≤ a) (h2 : a ≤ 4) (h3 : 1 ≤ b) (h4 : b ≤ 1024) (w : World) :
    Calls Try.prog 20 #[.int .i64 a, .int .i64 b] w fun e w' => e = .returned (.tuple #[.pointer (some ⟨w.heap.size + 1, 0, none⟩), .int .i64 0]) ∧ Gr w' (w.heap.size + 1) w.heap.size a b (List.replicate (a * b) none) ∧ Below w.heap.size w w' := by
  have hm : a * b ≤ 4096 := place_le (by omega) (by omega)
  have hx1 : IntKind.i64.wrap ((a : Int) * (b : Int)) = ((a * b : Nat) : Int) := by
    rw [← Int.natCast_mul, IntKind.wrap_i64]; omega
  have hmk := makeC (a * b) hm
  have d1 : decide ((a : Int) < 1) = false := by simp; omega
  have d2 : decide (4 < (a : Int)) = false := by simp; omega
  have d3 : decide ((b : Int) < 1) = false := by simp; omega
  have d4 : decide (1024 < (b : Int)) = false := by simp; omega
  have HG := Lib.hid hm
  clear hm
  generalize hN : a * b = N at *
  go_enter Try.func20, Try.ntmps20
  go_wp2_with fail
  go_ret2
  subst hN
  refine ⟨rfl, ⟨?_, (at_new w _ _ _ rfl).alloc _, by simp, by omega, h2, h4⟩, (by repeat first | exact Below.refl _ _ | refine Below.drew ?_ | refine Below.alloc ?_ (by simp <;> omega) _)⟩
  rw [cnt_replicate]
  exact at_new _ _ _ _ (by simp)
theorem new_no (st sz : Int) (hg : ¬ (1 ≤ st ∧ st ≤ 4 ∧ 1 ≤ sz ∧ sz ≤ 1024)) (w : World) :
    Calls Try.prog 20 #[.int .i64 st, .int .i64 sz] w fun e w' => e = .returned (.tuple #[.pointer none, .int .i64 1]) ∧ Below w.heap.size w w' := by
  have hcase : st < 1 ∨ (decide (st < 1) = false ∧ 4 < st) ∨ (decide (st < 1) = false ∧ decide (4 < st) = false ∧ sz < 1) ∨ (decide (st < 1) = false ∧ decide (4 < st) = false ∧ decide (sz < 1) = false ∧ 1024 < sz) := by
    simp only [decide_eq_false_iff_not]; omega
  clear hg
  rcases hcase with c1 | ⟨c1, c2⟩ | ⟨c1, c2, c3⟩ | ⟨c1, c2, c3, c4⟩ <;>
  · go_enter Try.func20, Try.ntmps20
    go_wp2_with fail
    go_ret2
    exact ⟨rfl, Below.refl _ _⟩
end G2
end Go.Proofs.Ytjlgkljifpjehaa
