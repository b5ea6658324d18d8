/-
  Roomy: a configuration in which nothing coincides that needs not.
-/
import Derived.Test.YthfgccibiajneaaFamAlike
import Derived.Test.YthfgccibiajneaaBld
namespace Go.Proofs.Ythfgccibiajneaa
open Go.RowKit
def adr0 (v6 : Bool) : Adr := ⟨v6, List.replicate 16 0, by simp, fun x hx => by have := List.eq_of_mem_replicate hx; omega⟩
def roomyOf (m : Nat) (h : m < 4294967296) : Cf := ⟨4, 256, 16, 65536, 4, 32, 16, 256, 64, 1000, 2, 2, false, adr0 false, adr0 true, m, h⟩
def roomy (s : Int) : Cf := roomyOf (s % 1073741824).toNat (by omega)
def zer : List Value := [.int .u8 0, .int .u8 0, .int .u8 0, .int .u8 0, .int .u8 0, .int .u8 0, .int .u8 0, .int .u8 0, .int .u8 0, .int .u8 0, .int .u8 0, .int .u8 0, .int .u8 0, .int .u8 0, .int .u8 0, .int .u8 0]
theorem adr0_l (v6 : Bool) : (adr0 v6).l = .bool v6 :: zer := by cases v6 <;> rfl
theorem roomy_cells (m : Nat) (h : m < 4294967296) : (cc (roomyOf m h)).toList = [.int .i64 4, .int .i64 256, .int .i64 16, .int .i64 65536, .int .i64 4, .int .i64 32, .int .i64 16, .int .i64 256, .int .i64 64, .int .i64 1000, .int .i64 2, .int .i64 2, .bool false, .bool false] ++ zer ++ (.bool true :: zer ++ [.int .u32 m]) := by
  show (Cf.l (roomyOf m h)).toArray.toList = _
  rw [List.toList_toArray, Cf.l]
  show (roomyOf m h).head ++ ((adr0 false).l ++ ((adr0 true).l ++ [.int .u32 m])) = _
  rw [adr0_l, adr0_l]
  simp [Cf.head, roomyOf]
theorem cc_one (c : Cf) : (cc c).all (·.oneCell') = true := by
  rw [Array.all_eq_true']
  intro v hv
  simp only [cc, List.mem_toArray, Cf.l, List.mem_append, Adr.l, List.mem_cons, u8s, List.mem_map, Cf.head, List.not_mem_nil, or_false] at hv
  rcases hv with h | h | h | h
  · rcases h with rfl | rfl | rfl | rfl | rfl | rfl | rfl | rfl | rfl | rfl | rfl | rfl | rfl <;> rfl
  · rcases h with rfl | ⟨a, _, rfl⟩ <;> rfl
  · rcases h with rfl | ⟨a, _, rfl⟩ <;> rfl
  · subst h; rfl
theorem store29 (w : World) (n : Nat) (Z C : Array Value) (hn : n = w.heap.size) (hZ : Z.size = 48) (hC : C.size = 48) (h1 : C.all (·.oneCell') = true) : (storeCells ⟨n, 0, none⟩ C.toList 0).run Try.prog (w.alloc (.cells Z 27)) = .ok () (w.alloc (.cells C 27)) := by
  subst hn
  exact run_storeCells_new (P := Try.prog) w 27 _ C (by rw [hC]; exact sizeC) (by rw [hC, hZ]) h1
def roomyC (m : Nat) : Array Value := if h : m < 4294967296 then cc (roomyOf m h) else #[]
theorem roomyC_eq (m : Nat) (h : m < 4294967296) : roomyC m = cc (roomyOf m h) := by unfold roomyC; rw [dif_pos h]
theorem build29 (m : Nat) (h : m < 4294967296) (w : World) : bldX Try.prog 27 #[(0, Value.int .i64 4), (1, Value.int .i64 256), (2, Value.int .i64 16), (3, Value.int .i64 65536), (4, Value.int .i64 4), (5, Value.int .i64 32), (6, Value.int .i64 16), (7, Value.int .i64 256), (8, Value.int .i64 64), (9, Value.int .i64 1000), (10, Value.int .i64 2), (11, Value.int .i64 2), (14, .agg #[.bool true, .int .u8 0, .int .u8 0, .int .u8 0, .int .u8 0, .int .u8 0, .int .u8 0, .int .u8 0, .int .u8 0, .int .u8 0, .int .u8 0, .int .u8 0, .int .u8 0, .int .u8 0, .int .u8 0, .int .u8 0, .int .u8 0]), (15, .int .u32 m)] w = .ok (.value (.agg (roomyC m))) w :=
  bldX_of w (by rw [roomyC_eq m h]; kernel_rfl)
theorem exec_bldC (parts : Array (Nat × Operand)) (dst : Option Tmp) (ty : TypeId) (pos : String) (after : Array Edge) (g : Option (Nat × Bool)) (f : Operand → Value) (w : World) :
    (execOp f ⟨dst, .build 27 parts, ty, pos, after, g⟩).run Try.prog w = bldX Try.prog 27 (parts.map fun (i, x) => (i, f x)) w := rfl
attribute [local go_sem ↓] exec_bldC
set_option maxRecDepth 100000 in
set_option maxHeartbeats 4000000 in
theorem roomy_any (s : Int) (w : World) : Calls Try.prog 40 #[.int .i64 s] w fun e w' => e = .returned (.agg (cc (roomy s))) ∧ w' = w.alloc (.cells (cc (roomy s)) 27) := by
  obtain ⟨m, hm⟩ : ∃ m : Nat, s % 1073741824 = m := ⟨(s % 1073741824).toNat, by omega⟩
  have hml : m < 1073741824 := by omega
  have hml2 : m < 4294967296 := by omega
  have HE : Hid (cc (roomy s) = roomyC m) := Lib.hid (by rw [roomyC_eq m hml2]; unfold roomy; congr 2; omega)
  have HM := Lib.hid hm
  have hb := build29 m hml2
  have hw : IntKind.u32.wrap (m : Int) = (m : Int) := by rw [IntKind.wrap_u32]; omega
  have hz : (roomyC m).size = 48 := by rw [roomyC_eq m hml2]; exact cc_size _
  have hs := fun (w : World) (n : Nat) (Z : Array Value) (hn : n = w.heap.size) (hZ : Z.size = 48) => store29 w n Z (roomyC m) hn hZ hz (by rw [roomyC_eq m hml2]; exact cc_one _)
  rw [HE.out]
  clear hm hml HE
  go_enter Try.func40, Try.ntmps40
  go_wp2_with fail
  refine (round_big s 1073741824 (by omega) (by omega) _).mono ?_
  rintro e w1 ⟨rfl, rfl⟩
  rw [HM.out]
  go_wp2_with fail
  exact bodyPost_ret (results_cell_row rfl _ _ w.heap.size 27 (roomyC m) (0, 0) _ rfl (heap_alloc_new w _) Try.underlying27 rfl (by rw [hz]; exact sizeC)) rfl ⟨rfl, rfl⟩
end Go.Proofs.Ythfgccibiajneaa
