/-
  The grid's methods, one contract each, for each type that a grid is made of.
-/
import Derived.Test.YtjlgkljifpjehaaGridWalk
import Derived.WalkSpells
import Derived.WalkLawsBesides
import Derived.Lib.Hide
import Derived.Laws.MakeOwn
import Derived.OwnWalk
import Derived.RangeFuncNested
import Derived.RangeFuncBound
import Derived.RangeFuncCalls
import Derived.RangeFuncLeaves
import Derived.RangeFuncBox
import Derived.Shelf.Abstract
import Derived.Shelf.RegionOpen
import Derived.WalkKit
import Derived.OwnWalkIn
import Derived.TacticsInMore
import Derived.LoopNIn
import Derived.LoopIn
import Derived.Laws.StructEq
namespace Go.Proofs.Ytjlgkljifpjehaa
open Go.RowKit Go.Shelf
attribute [local go_sem] Oper.semAt_some
namespace Gi
theorem guardP : Try.prog.eqGuardType Try.prog.depth 23 = false := by kernel_rfl
theorem guardI : Try.prog.eqGuardType Try.prog.depth 41 = false := by kernel_rfl
theorem stoodP : Try.prog.stoodInHeld 23 = false := by kernel_rfl
theorem stoodI : Try.prog.stoodInHeld 41 = false := by kernel_rfl
theorem fieldsP : Try.prog.underlying 23 = some (.struct (Try.prog.fieldsOf 23)) := by kernel_rfl
theorem fieldsI : Try.prog.underlying 41 = some (.struct (Try.prog.fieldsOf 41)) := by kernel_rfl
theorem eqInP (n : Nat) (w : World) (a b c d : Int) : (Op.equalIn (n + 1 + 1) 23 (.agg #[.int .i64 a, .int .i64 b]) (.agg #[.int .i64 c, .int .i64 d])).run Try.prog w = .ok (a == c && b == d) w := by
  rw [run_equalIn_agg w (n + 1) _ _ _ fieldsP stoodP]
  have hf : Try.prog.fieldsOf 23 = #[{ name := "Stage", type := 3, offset := 0, embedded := false, tag := "", pkgPath := "", byteOffset := 0 }, { name := "Index", type := 3, offset := 1, embedded := false, tag := "", pkgPath := "", byteOffset := 8 }] := by unfold Program.fieldsOf; rw [Try.underlying23]
  rw [hf]
  have := Try.underlying3
  have h1 := fun a b => run_equalIn_int (P := Try.prog) w n 3 .i64 .i64 a b Try.underlying3
  simp [Op.eqFields, go_sem, *]
  by_cases h1 : a = c <;> by_cases h2 : b = d <;> simp [h1, h2]
theorem eqInI (n : Nat) (w : World) (a b x c d y : Int) : (Op.equalIn (n + 1 + 1 + 1) 41 (.agg #[.int .i64 a, .int .i64 b, .int .i64 x]) (.agg #[.int .i64 c, .int .i64 d, .int .i64 y])).run Try.prog w = .ok ((a == c && b == d) && x == y) w := by
  rw [run_equalIn_agg w (n + 1 + 1) _ _ _ fieldsI stoodI]
  have hf : Try.prog.fieldsOf 41 = #[{ name := "p", type := 23, offset := 0, embedded := false, tag := "", pkgPath := "bazaar/bazaarlaw15", byteOffset := 0 }, { name := "v", type := 3, offset := 2, embedded := false, tag := "", pkgPath := "bazaar/bazaarlaw15", byteOffset := 16 }] := by unfold Program.fieldsOf; rw [Try.underlying41]
  rw [hf]
  have h1 := fun a b => run_equalIn_int (P := Try.prog) w (n + 1) 3 .i64 .i64 a b Try.underlying3
  have h2 := eqInP n w a b c d
  have h3 := Try.underlying3
  have h4 := Try.underlying23
  simp [Op.eqFields, go_sem, *]
  by_cases h1 : a = c <;> by_cases h2 : b = d <;> by_cases h3 : x = y <;> simp [h1, h2, h3]
theorem neqP (w : World) (a b c d : Int) : (binOp .neq 23 (.agg #[.int .i64 a, .int .i64 b]) (.agg #[.int .i64 c, .int .i64 d])).run Try.prog w = .ok (.bool (!(a == c && b == d))) w := by
  rw [run_neq_struct, show 10000 = 9998 + 1 + 1 from rfl, eqInP]; rfl
theorem eqlP (w : World) (a b c d : Int) : (binOp .eql 23 (.agg #[.int .i64 a, .int .i64 b]) (.agg #[.int .i64 c, .int .i64 d])).run Try.prog w = .ok (.bool (a == c && b == d)) w := by
  rw [run_eql_struct, show 10000 = 9998 + 1 + 1 from rfl, eqInP]; rfl
theorem neqI (w : World) (a b x c d y : Int) : (binOp .neq 41 (.agg #[.int .i64 a, .int .i64 b, .int .i64 x]) (.agg #[.int .i64 c, .int .i64 d, .int .i64 y])).run Try.prog w = .ok (.bool (!((a == c && b == d) && x == y))) w := by
  rw [run_neq_struct, show 10000 = 9997 + 1 + 1 + 1 from rfl, eqInI]; rfl
end Gi
end Go.Proofs.Ytjlgkljifpjehaa
