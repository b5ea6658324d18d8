/-
  bazaaralike.Key: the n-th of some flows.
-/
import Derived.Test.YthfgccibiajneaaFamConfig
namespace Go.Proofs.Ythfgccibiajneaa
open Go.RowKit
theorem exec_bldK (parts : Array (Nat × Operand)) (dst : Option Tmp) (ty : TypeId) (pos : String) (after : Array Edge) (g : Option (Nat × Bool)) (f : Operand → Value) (w : World) :
    (execOp f ⟨dst, .build 31 parts, ty, pos, after, g⟩).run Try.prog w = bldX Try.prog 31 (parts.map fun (i, x) => (i, f x)) w := rfl
theorem exec_bld16 (parts : Array (Nat × Operand)) (dst : Option Tmp) (ty : TypeId) (pos : String) (after : Array Edge) (g : Option (Nat × Bool)) (f : Operand → Value) (w : World) :
    (execOp f ⟨dst, .build 22 parts, ty, pos, after, g⟩).run Try.prog w = bldX Try.prog 22 (parts.map fun (i, x) => (i, f x)) w := rfl
attribute [local go_sem ↓] exec_bldK exec_bld16
def adr4 (v6 : Bool) (a b c d : Nat) (h : a < 256 ∧ b < 256 ∧ c < 256 ∧ d < 256) : Adr := ⟨v6, [a, b, c, d, 0, 0, 0, 0, 0, 0, 0, 0, 0, 0, 0, 0], rfl, fun x hx => by simp at hx; omega⟩
def keyOf (m : Nat) (v6 udp : Bool) : Ky := ⟨if udp then 17 else 6, adr4 v6 10 (m / 65536 % 256) (m / 256 % 256) (m % 256) (by omega), adr4 v6 192 168 0 1 (by omega), 1000 + m % 50000, 80, by split <;> omega, by omega, by omega⟩
def akey (n : Int) (v6 udp : Bool) : Ky := keyOf (n % 1073741824).toNat v6 udp
def ub (l : List Nat) : Array Value := (u8s l).toArray
theorem ub_size (l : List Nat) : (ub l).size = l.length := by simp [ub, u8s]
theorem ub_one (l : List Nat) : (ub l).all (·.oneCell') = true := by
  rw [Array.all_eq_true']
  intro v hv
  simp only [ub, List.mem_toArray] at hv
  exact u8s_one l v hv
theorem kc_one (k : Ky) : (kc k).all (·.oneCell') = true := by
  rw [Array.all_eq_true']
  intro v hv
  simp only [kc, List.mem_toArray, Ky.l, List.mem_append, Adr.l, List.mem_cons, u8s, List.mem_map, List.not_mem_nil, or_false] at hv
  rcases hv with rfl | h | h | h
  · rfl
  · rcases h with rfl | ⟨a, _, rfl⟩ <;> rfl
  · rcases h with rfl | ⟨a, _, rfl⟩ <;> rfl
  · rcases h with rfl | rfl <;> rfl
def ky0 (m : Nat) : Ky := ⟨6, adr0 false, adr0 false, 1000 + m % 50000, 80, by omega, by omega, by omega⟩
theorem build40 (m : Nat) (w : World) : bldX Try.prog 31 #[(0, Value.int .u8 6), (3, .int .u16 (1000 + (m : Int) % 50000)), (4, .int .u16 80)] w = .ok (.value (.agg (kc (ky0 m)))) w :=
  bldX_of w (by kernel_rfl)
def srcB (m : Nat) : List Nat := [10, m / 65536 % 256, m / 256 % 256, m % 256, 0, 0, 0, 0, 0, 0, 0, 0, 0, 0, 0, 0]
def dstB : List Nat := [192, 168, 0, 1, 0, 0, 0, 0, 0, 0, 0, 0, 0, 0, 0, 0]
theorem build24s (m : Nat) (w : World) : bldX Try.prog 22 #[(0, Value.int .u8 10), (1, .int .u8 ((m : Int) / 65536 % 256)), (2, .int .u8 ((m : Int) / 256 % 256)), (3, .int .u8 ((m : Int) % 256))] w = .ok (.value (.agg (ub (srcB m)))) w :=
  bldX_of w (by kernel_rfl)
theorem build24d (w : World) : bldX Try.prog 22 #[(0, Value.int .u8 192), (1, .int .u8 168), (2, .int .u8 0), (3, .int .u8 1)] w = .ok (.value (.agg (ub dstB))) w :=
  bldX_of w (by kernel_rfl)
theorem size16 : (Try.prog.info? 22).map (·.size) = some 16 := by kernel_rfl
theorem key_tcp (m : Nat) (v6 : Bool) : splice (splice (((kc (ky0 m)).setIfInBounds 1 (.bool v6)).setIfInBounds 18 (.bool v6)) 2 (ub (srcB m)).toList) 19 (ub dstB).toList = kc (keyOf m v6 false) := by kernel_rfl
theorem key_udp (m : Nat) (v6 : Bool) : splice (splice ((((kc (ky0 m)).setIfInBounds 0 (.int .u8 17)).setIfInBounds 1 (.bool v6)).setIfInBounds 18 (.bool v6)) 2 (ub (srcB m)).toList) 19 (ub dstB).toList = kc (keyOf m v6 true) := by kernel_rfl
set_option maxRecDepth 100000 in
set_option maxHeartbeats 4000000 in
theorem key_any (n : Int) (v6 udp : Bool) (w : World) : Calls Try.prog 47 #[.int .i64 n, .bool v6, .bool udp] w fun e w' => e = .returned (.agg (kc (akey n v6 udp))) ∧ Below w.heap.size w w' := by
  obtain ⟨m, hm⟩ : ∃ m : Nat, n % 1073741824 = m := ⟨(n % 1073741824).toNat, by omega⟩
  have HE : Hid (akey n v6 udp = keyOf m v6 udp) := Lib.hid (by unfold akey; congr 1; omega)
  have HM := Lib.hid hm
  have hw : IntKind.u32.wrap (m : Int) = (m : Int) := by rw [IntKind.wrap_u32]; omega
  have hml : m < 1073741824 := by omega
  have hst := fun (w : World) (n : Nat) (Z : Array Value) (hn : n = w.heap.size) (hZ : Z.size = 37) => store_new (P := Try.prog) sizeK w n Z (kc (ky0 m)) hn hZ (kc_size _) (kc_one _)
  have hs2 := fun (w : World) (n off : Nat) (Z : Array Value) (hn : n = w.heap.size) (hZ : off + 16 ≤ Z.size) => store_mid (P := Try.prog) w n off 31 Z (ub (srcB m)) hn (by rw [ub_size]; exact hZ) (ub_one _)
  have hs4 := fun (w : World) (n : Nat) (Z : Array Value) (ob : Obj) (hn : n = w.heap.size) (hZ : Z.size = 37) => store_second (P := Try.prog) w n 31 Z (kc (keyOf m v6 udp)) ob hn (by rw [kc_size, hZ]) (kc_one _)
  have hz1 : (ub (srcB m)).size = 16 := ub_size _
  have hz2 : (ub dstB).size = 16 := ub_size _
  have hb1 := build40 m
  have hb2 := build24s m
  have hb3 := build24d
  rw [HE.out]
  clear hm HE
  cases udp
  · have hs3 := fun (w : World) (n : Nat) (hn : n = w.heap.size) => store_mid (P := Try.prog) w n 19 31 (splice (((kc (ky0 m)).setIfInBounds 1 (.bool v6)).setIfInBounds 18 (.bool v6)) 2 (ub (srcB m)).toList) (ub dstB) hn (by rw [splice_size, Array.size_setIfInBounds, Array.size_setIfInBounds, kc_size, ub_size]; decide) (ub_one _)
    rw [key_tcp] at hs3
    go_enter Try.func47, Try.ntmps47
    go_wp2_with fail
    refine (round_big n 1073741824 (by omega) (by omega) _).mono ?_
    rintro e w1 ⟨rfl, rfl⟩
    rw [HM.out]
    go_wp2_with fail
    exact bodyPost_ret (results_cell_row rfl _ _ w.heap.size 31 (kc (keyOf m v6 false)) (0, 0) _ rfl ((at_new w 31 _ _ rfl).alloc _) Try.underlying31 rfl (by rw [kc_size]; exact sizeK)) rfl ⟨rfl, ((Below.refl _ w).alloc (Nat.le_refl _) _).alloc (by simp) _⟩
  · have hs3 := fun (w : World) (n : Nat) (hn : n = w.heap.size) => store_mid (P := Try.prog) w n 19 31 (splice ((((kc (ky0 m)).setIfInBounds 0 (.int .u8 17)).setIfInBounds 1 (.bool v6)).setIfInBounds 18 (.bool v6)) 2 (ub (srcB m)).toList) (ub dstB) hn (by rw [splice_size, Array.size_setIfInBounds, Array.size_setIfInBounds, Array.size_setIfInBounds, kc_size, ub_size]; decide) (ub_one _)
    rw [key_udp] at hs3
    go_enter Try.func47, Try.ntmps47
    go_wp2_with fail
    refine (round_big n 1073741824 (by omega) (by omega) _).mono ?_
    rintro e w1 ⟨rfl, rfl⟩
    rw [HM.out]
    go_wp2_with fail
    exact bodyPost_ret (results_cell_row rfl _ _ w.heap.size 31 (kc (keyOf m v6 true)) (0, 0) _ rfl ((at_new w 31 _ _ rfl).alloc _) Try.underlying31 rfl (by rw [kc_size]; exact sizeK)) rfl ⟨rfl, ((Below.refl _ w).alloc (Nat.le_refl _) _).alloc (by simp) _⟩
end Go.Proofs.Ythfgccibiajneaa
