/-
  bloom: a filter's cells; New.
-/
import Derived.Test.YtjjadakjkkmjgaaFamBase
import Derived.Laws.MakeOwn
namespace Go.Proofs.Ytjjadakjkkmjgaa
open Go.RowKit
def wd (ws : List Nat) : Array Value := (ws.map fun x => Value.int .u64 (x : Nat)).toArray
@[go_sem] theorem wd_size (ws : List Nat) : (wd ws).size = ws.length := by simp [wd]
theorem wd_get (ws : List Nat) (j : Nat) (h : j < ws.length) : (wd ws)[j]? = some (.int .u64 (ws.getD j 0 : Nat)) := by
  simp [wd, List.getD_eq_getElem?_getD, List.getElem?_eq_getElem h]
theorem wd_set (ws : List Nat) (j x : Nat) : (wd ws).setIfInBounds j (.int .u64 (x : Nat)) = wd (ws.set j x) := by
  simp [wd, List.map_set]
def bcs (gf N gw n : Nat) : Array Value := #[.pointer (some ⟨gf, 0, none⟩), .int .i64 N, .slice (some ⟨gw, 0, none⟩) n n]
@[go_sem] theorem bcs_0 (gf N gw n : Nat) : (bcs gf N gw n)[0]? = some (.pointer (some ⟨gf, 0, none⟩)) := rfl
@[go_sem] theorem bcs_1 (gf N gw n : Nat) : (bcs gf N gw n)[1]? = some (.int .i64 N) := rfl
@[go_sem] theorem bcs_2 (gf N gw n : Nat) : (bcs gf N gw n)[2]? = some (.slice (some ⟨gw, 0, none⟩) n n) := rfl
theorem infoU64 : (Try.prog.info? 86).map (fun i => (i.zero, i.size, i.bytes)) = some (some (.int .u64 0), 1, 8) := by kernel_rfl
theorem made_words (n : Nat) : madeCells #[Value.int .u64 0] n = wd (List.replicate n 0) := by
  apply Array.ext_getElem?
  intro t
  unfold madeCells
  rw [Array.getElem?_map]
  by_cases h : t < n
  · rw [Array.getElem?_range, if_pos h, wd_get _ _ (by simpa using h)]
    simp [Nat.mod_one, h]
  · rw [Array.getElem?_range, if_neg h, Array.getElem?_eq_none (by rw [wd_size, List.length_replicate]; omega)]
    rfl
theorem makeW (n : Nat) (hn : n ≤ 1024) (w : World) : (Instr.makeSlice 90 (.int .i64 (n : Int)) (.int .i64 (n : Int))).run Try.prog w = .ok (.slice (some ⟨w.heap.size, 0, none⟩) n n) (w.alloc (.cells (wd (List.replicate n 0)) 86)) := by
  obtain ⟨i0, hi, hz0, hz1, hz2⟩ := info_parts infoU64
  have := run_make (P := Try.prog) w 90 86 i0 _ Try.underlying90 hi hz0 .i64 .i64 n n (by omega) (by omega) (by rw [hz2]; omega) (by omega)
  rw [hz1, Int.toNat_natCast, Nat.mul_one] at this
  rw [this]
  exact congrArg (fun c => Result.ok (Value.slice (some ⟨w.heap.size, 0, none⟩) n n) (w.alloc (.cells c 86))) (made_words n)
/-- How many words so many bits take. -/
def nw (N : Nat) : Nat := (N + 63) / 64
theorem nw_le (N : Nat) (h : N ≤ 65536) : nw N ≤ 1024 := by unfold nw; omega
set_option maxRecDepth 100000 in
set_option maxHeartbeats 2000000 in
theorem bnew_ok (gf N : Nat) (h1 : 1 ≤ N) (h2 : N ≤ 65536) (w : World) :
    Calls Try.prog 30 #[.pointer (some ⟨gf, 0, none⟩), .int .i64 N] w fun e w' => e = .returned (.tuple #[.pointer (some ⟨w.heap.size + 1, 0, none⟩), .int .i64 0]) ∧ w' = (w.alloc (.cells (wd (List.replicate (nw N) 0)) 86)).alloc (.cells (bcs gf N w.heap.size (nw N)) 92) := by
  have hmk := makeW (nw N) (nw_le N h2)
  have hq : ((N : Int) + 64 - 1) / 64 = (nw N : Nat) := by unfold nw; omega
  have hq2 : ((N : Int) + 63) / 64 = (nw N : Nat) := by unfold nw; omega
  have H := Lib.hid (show bcs gf N w.heap.size (nw N) = #[.pointer (some ⟨gf, 0, none⟩), .int .i64 N, .slice (some ⟨w.heap.size, 0, none⟩) (nw N) (nw N)] from rfl)
  rw [H.out]
  have hN1 := nw_le N h2
  generalize nw N = m at *
  go_enter Try.func30, Try.ntmps30
  go_wp2_with fail
  go_ret2
  exact ⟨rfl, rfl⟩
set_option maxRecDepth 100000 in
set_option maxHeartbeats 1000000 in
theorem bnew_nil (n : Int) (w : World) : Calls Try.prog 30 #[.pointer none, .int .i64 n] w fun e w' => e = .returned (.tuple #[.pointer none, .int .i64 1]) ∧ w' = w := by
  go_enter Try.func30, Try.ntmps30
  go_wp2_with fail
  go_ret2
  exact ⟨rfl, rfl⟩
set_option maxRecDepth 100000 in
set_option maxHeartbeats 1000000 in
theorem bnew_no (gf : Nat) (n : Int) (h : n < 1 ∨ 65536 < n) (w : World) : Calls Try.prog 30 #[.pointer (some ⟨gf, 0, none⟩), .int .i64 n] w fun e w' => e = .returned (.tuple #[.pointer none, .int .i64 1]) ∧ w' = w := by
  rcases h with h | h
  · go_enter Try.func30, Try.ntmps30
    go_wp2_with fail
    go_ret2
    exact ⟨rfl, rfl⟩
  · have h' : decide (n < 1) = false := by simp; omega
    go_enter Try.func30, Try.ntmps30
    go_wp2_with fail
    go_ret2
    exact ⟨rfl, rfl⟩
end Go.Proofs.Ytjjadakjkkmjgaa
