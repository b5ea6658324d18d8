import Derived.Test.YtadnfpgcfjinoaaW1
import Derived.Test.YtadnfpgcfjinoaaHeap
import Derived.Lib.SlBytesConst
namespace Go.Proofs.Ytadnfpgcfjinoaa
open Go.RowKit

theorem tabv_size (p : Nat) : (tabv p).size = 256 := tabk_size p 256
theorem tabv_getElem (p i : Nat) (h : i < (tabv p).size) : (tabv p)[i] = .int .u32 (stps p 8 i : Nat) := by
  have h1 := tabv_get p i (by rwa [tabv_size] at h)
  rw [Array.getElem?_eq_getElem h] at h1
  exact Option.some.inj h1
attribute [go_sem] tabv_size tabv_getElem
theorem load26 (x : Operand) (dst : Option Tmp) (t : TypeId) (pos : String) (after : Array Edge) (g : Option (Nat × Bool)) (f : Operand → Value) (w : World)
    (hx : head (f x) = true) (ho : open_ w (blk (f x)) = true) (hs : (row w (blk (f x))).size = 256) :
    (execOp f ⟨dst, .load 26 x, t, pos, after, g⟩).run Try.prog w = .ok (.value (.agg (row w (blk (f x))))) w :=
  exec_load_row 26 _ 256 Try.underlying26 rfl size26 x dst t pos after g f w hx ho hs
attribute [go_sem ↓] load26
theorem store26 (p q k : Nat) (w : World) (n : Nat) (hn : n = w.heap.size) : (storeCells ⟨n, 0, none⟩ (tabv p).toList 0).run Try.prog (w.alloc (.cells (tabk q k) 26)) = .ok () (w.alloc (.cells (tabv p) 26)) := by
  subst hn
  exact run_storeCells_new (P := Try.prog) w 26 (tabk q k) (tabv p) (by unfold tabv; rw [tabk_size]; exact size26) (by unfold tabv; rw [tabk_size, tabk_size]) (tabk_one p 256)
theorem const23 (w : World) (C : Array Value) (n c g : Nat) (hg : g = w.heap.size) :
    (convert 23 23 (.slice (some ⟨g, 0, none⟩) n c)).run Try.prog (w.alloc (.cells C 5)) = .ok (.slice (some ⟨g, 0, none⟩) n c) (w.alloc (.cells C 5 (C.size, C.size + 1))) := by
  subst hg
  exact Lib.run_convert_bytes_const (P := Try.prog) w 23 5 C n c Try.underlying23 Try.underlying5

theorem bytes_nine (w : World) (g : Nat) (hg : g = w.heap.size) : Bytes (w.alloc (.cells #[.int .u8 49, .int .u8 50, .int .u8 51, .int .u8 52, .int .u8 53, .int .u8 54, .int .u8 55, .int .u8 56, .int .u8 57] 5 (9, 10))) (some ⟨g, 0, none⟩) 9 nine := by
  subst hg
  refine ⟨rfl, by decide, fun _ => ⟨w.heap.size, 0, rfl, by simp, fun i hi => ?_⟩⟩
  rw [cell_of_row _ _ _ _ _ _ (heap_alloc_new w _), Nat.zero_add]
  match i, hi with
  | 0, _ | 1, _ | 2, _ | 3, _ | 4, _ | 5, _ | 6, _ | 7, _ | 8, _ => rfl
theorem of_int (p : Nat) (hp : p < 4294967296) (s : Int) (h0 : 0 ≤ s) (hs : s < 4294967296) (a : Option Addr) (n c : Nat) (l : List Nat) (w : World) (hb : Bytes w a n l) (hn : n ≤ 1000000) :
    Calls Try.prog 12 #[.agg (tabv p), .int .u32 s, .slice a n c] w fun e w' => e = .returned (.int .u32 (crc p s.toNat l : Nat)) ∧ w' = w.alloc (.cells (tabv p) 26) := by
  obtain ⟨s, rfl⟩ := Int.eq_ofNat_of_zero_le h0
  exact of_any p hp s (by omega) a n c l w hb hn
theorem below9 (w : World) (a b c d e f g h i : Obj) : Below w.heap.size w (((((((((w.alloc a).alloc b).alloc c).alloc d).alloc e).alloc f).alloc g).alloc h).alloc i) := by
  refine ((((((((((Below.refl _ _).alloc ?_ _).alloc ?_ _).alloc ?_ _).alloc ?_ _).alloc ?_ _).alloc ?_ _).alloc ?_ _).alloc ?_ _).alloc ?_ _) <;> simp <;> omega
theorem bytes_nil (w : World) : Bytes w none 0 [] := ⟨rfl, by simp, fun h => absurd h (by omega)⟩

set_option maxHeartbeats 1000000 in
set_option maxRecDepth 100000 in
theorem awake_any (w : World) :
    Calls Try.prog 8 #[] w fun e w' => e = .returned (.bool true) ∧ Below w.heap.size w w' := by
  have hz := zero26 (poly 0)
  have hs := store26 (poly 0) (poly 0) 0
  have kc := const23
  go_enter Try.func8, Try.ntmps8
  go_wp2_with fail
  refine (known_any _).mono ?_
  rintro e w1 ⟨rfl, rfl⟩
  go_wp2_with fail
  refine (make_any _ (poly_lt 0) _).mono ?_
  rintro e w1 ⟨rfl, rfl⟩
  go_wp2_with fail
  refine (of_int _ (poly_lt 0) 0 (by omega) (by omega) _ _ _ nine _ (bytes_nine _ _ (by simp)) (by omega)).mono ?_
  rintro e w1 ⟨rfl, rfl⟩
  have e1 : crc (poly 0) (0 : Int).toNat nine = 3421780262 := awake1
  rw [e1]
  go_wp2_with fail
  refine (make_any _ (poly_lt 1) _).mono ?_
  rintro e w1 ⟨rfl, rfl⟩
  go_wp2_with fail
  refine (of_int _ (poly_lt 1) 0 (by omega) (by omega) _ _ _ nine _ (bytes_nine _ _ (by simp)) (by omega)).mono ?_
  rintro e w1 ⟨rfl, rfl⟩
  have e2 : crc (poly 1) (0 : Int).toNat nine = 3808858755 := awake2
  rw [e2]
  have e3 : stps (poly 0) 8 1 = 1996959894 := awake3
  go_wp2_with fail
  refine (of_int _ (poly_lt 0) 7 (by omega) (by omega) _ _ _ [] _ (bytes_nil _) (by omega)).mono ?_
  rintro e w1 ⟨rfl, rfl⟩
  have e4 : crc (poly 0) (7 : Int).toNat [] = 7 := crc_nil _ _
  rw [e4]
  go_wp2_with fail
  go_ret
  exact ⟨rfl, below9 _ _ _ _ _ _ _ _ _ _⟩
end Go.Proofs.Ytadnfpgcfjinoaa
