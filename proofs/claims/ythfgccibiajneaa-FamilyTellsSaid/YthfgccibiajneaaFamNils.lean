/-
  A family that is nil; cells of configurations, families and flows as they are read; places held against each other.
-/
import Derived.Test.YthfgccibiajneaaFamKeys
import Derived.Laws.StructEq
namespace Go.Proofs.Ythfgccibiajneaa
open Go.RowKit
@[go_sem] theorem cc_0q (c : Cf) : (cc c)[0]? = some (.int .i64 c.stages) := cl_head c 0 (by omega)
@[go_sem] theorem fc_0q (c : Cf) : (fc c)[0]? = some (.int .i64 c.stages) := by rw [fc_get c 0 (by omega), cc_0q]
@[go_sem] theorem cc_1q (c : Cf) : (cc c)[1]? = some (.int .i64 c.size) := cl_head c 1 (by omega)
@[go_sem] theorem fc_1q (c : Cf) : (fc c)[1]? = some (.int .i64 c.size) := by rw [fc_get c 1 (by omega), cc_1q]
@[go_sem] theorem cc_2q (c : Cf) : (cc c)[2]? = some (.int .i64 c.digest) := cl_head c 2 (by omega)
@[go_sem] theorem fc_2q (c : Cf) : (fc c)[2]? = some (.int .i64 c.digest) := by rw [fc_get c 2 (by omega), cc_2q]
@[go_sem] theorem cc_3q (c : Cf) : (cc c)[3]? = some (.int .i64 c.bloom) := cl_head c 3 (by omega)
@[go_sem] theorem fc_3q (c : Cf) : (fc c)[3]? = some (.int .i64 c.bloom) := by rw [fc_get c 3 (by omega), cc_3q]
@[go_sem] theorem cc_4q (c : Cf) : (cc c)[4]? = some (.int .i64 c.hashes) := cl_head c 4 (by omega)
@[go_sem] theorem fc_4q (c : Cf) : (fc c)[4]? = some (.int .i64 c.hashes) := by rw [fc_get c 4 (by omega), cc_4q]
@[go_sem] theorem cc_5q (c : Cf) : (cc c)[5]? = some (.int .i64 c.slots) := cl_head c 5 (by omega)
@[go_sem] theorem fc_5q (c : Cf) : (fc c)[5]? = some (.int .i64 c.slots) := by rw [fc_get c 5 (by omega), cc_5q]
@[go_sem] theorem cc_6q (c : Cf) : (cc c)[6]? = some (.int .i64 c.versions) := cl_head c 6 (by omega)
@[go_sem] theorem fc_6q (c : Cf) : (fc c)[6]? = some (.int .i64 c.versions) := by rw [fc_get c 6 (by omega), cc_6q]
@[go_sem] theorem cc_7q (c : Cf) : (cc c)[7]? = some (.int .i64 c.queue) := cl_head c 7 (by omega)
@[go_sem] theorem fc_7q (c : Cf) : (fc c)[7]? = some (.int .i64 c.queue) := by rw [fc_get c 7 (by omega), cc_7q]
@[go_sem] theorem cc_8q (c : Cf) : (cc c)[8]? = some (.int .i64 c.evict) := cl_head c 8 (by omega)
@[go_sem] theorem fc_8q (c : Cf) : (fc c)[8]? = some (.int .i64 c.evict) := by rw [fc_get c 8 (by omega), cc_8q]
@[go_sem] theorem cc_9q (c : Cf) : (cc c)[9]? = some (.int .i64 c.idle) := cl_head c 9 (by omega)
@[go_sem] theorem fc_9q (c : Cf) : (fc c)[9]? = some (.int .i64 c.idle) := by rw [fc_get c 9 (by omega), cc_9q]
@[go_sem] theorem cc_10q (c : Cf) : (cc c)[10]? = some (.int .i64 c.linger) := cl_head c 10 (by omega)
@[go_sem] theorem fc_10q (c : Cf) : (fc c)[10]? = some (.int .i64 c.linger) := by rw [fc_get c 10 (by omega), cc_10q]
@[go_sem] theorem cc_11q (c : Cf) : (cc c)[11]? = some (.int .i64 c.fails) := cl_head c 11 (by omega)
@[go_sem] theorem fc_11q (c : Cf) : (fc c)[11]? = some (.int .i64 c.fails) := by rw [fc_get c 11 (by omega), cc_11q]
set_option maxRecDepth 100000 in
set_option maxHeartbeats 1000000 in
theorem digest_nil (k : Ky) (w : World) :
    Calls Try.prog 21 #[.pointer none, .agg (kc k)] w fun e w' => e = .returned (.int .u16 0) ∧ Below w.heap.size w w' := by
  go_enter Try.func21, Try.ntmps21
  go_wp2_with fail
  refine (may_nil k _).mono ?_
  rintro e w1 ⟨rfl, hb⟩
  go_wp2_with fail
  go_ret
  exact ⟨rfl, step_below ((Below.refl _ w).alloc (Nat.le_refl _) _) hb⟩
set_option maxRecDepth 100000 in
set_option maxHeartbeats 1000000 in
theorem bits_nil (k : Ky) (w : World) :
    Calls Try.prog 24 #[.pointer none, .agg (kc k)] w fun e w' => e = .returned (.slice none 0 0) ∧ Below w.heap.size w w' := by
  go_enter Try.func24, Try.ntmps24
  go_wp2_with fail
  refine (may_nil k _).mono ?_
  rintro e w1 ⟨rfl, hb⟩
  go_wp2_with fail
  go_ret
  exact ⟨rfl, step_below ((Below.refl _ w).alloc (Nat.le_refl _) _) hb⟩
theorem guardP : Try.prog.eqGuardType Try.prog.depth 41 = false := by kernel_rfl
theorem stoodP : Try.prog.stoodInHeld 41 = false := by kernel_rfl
theorem fieldsP : Try.prog.underlying 41 = some (.struct (Try.prog.fieldsOf 41)) := by kernel_rfl
theorem eqInP (n : Nat) (w : World) (a b c d : Int) : (Op.equalIn (n + 1 + 1) 41 (.agg #[.int .i64 a, .int .i64 b]) (.agg #[.int .i64 c, .int .i64 d])).run Try.prog w = .ok (a == c && b == d) w := by
  rw [run_equalIn_agg w (n + 1) _ _ _ fieldsP stoodP]
  have hf : Try.prog.fieldsOf 41 = #[{ name := "Stage", type := 3, offset := 0, embedded := false, tag := "", pkgPath := "", byteOffset := 0 }, { name := "Index", type := 3, offset := 1, embedded := false, tag := "", pkgPath := "", byteOffset := 8 }] := by unfold Program.fieldsOf; rw [Try.underlying41]
  rw [hf]
  have := Try.underlying3
  have h1 := fun a b => run_equalIn_int (P := Try.prog) w n 3 .i64 .i64 a b Try.underlying3
  simp [Op.eqFields, go_sem, *]
  by_cases h1 : a = c <;> by_cases h2 : b = d <;> simp [h1, h2]
theorem neqP (w : World) (a b c d : Int) : (binOp .neq 41 (.agg #[.int .i64 a, .int .i64 b]) (.agg #[.int .i64 c, .int .i64 d])).run Try.prog w = .ok (.bool (!(a == c && b == d))) w := by
  rw [run_neq_struct, show 10000 = 9998 + 1 + 1 from rfl, eqInP]; rfl
theorem eqlP (w : World) (a b c d : Int) : (binOp .eql 41 (.agg #[.int .i64 a, .int .i64 b]) (.agg #[.int .i64 c, .int .i64 d])).run Try.prog w = .ok (.bool (a == c && b == d)) w := by
  rw [run_eql_struct, show 10000 = 9998 + 1 + 1 from rfl, eqInP]; rfl
end Go.Proofs.Ythfgccibiajneaa
