/-
  May a configuration be? family.Check, and the document's.
-/
import Derived.Test.YthfgccibiajneaaFamBits
import Derived.Deep.DeepCutAuto
namespace Go.Proofs.Ythfgccibiajneaa
open Go.RowKit
def wi (n low high : Int) : Bool := decide (low ≤ n) && decide (n ≤ high)
def pw (n low high : Int) : Bool := wi n low high && (bits .and .i64 n (wrap64 (n - 1)) == 0)
def sizesOk (c : Cf) : Bool := wi c.stages 1 4 && pw c.size 2 1024 && wi c.digest 1 16 && pw c.bloom 8 65536 && wi c.hashes 1 4
def poolsOk (c : Cf) : Bool := wi c.slots 1 64 && wi c.versions 2 16 && wi c.queue 1 256 && wi c.evict 1 64
def timesOk (c : Cf) : Bool := wi c.idle 1 1000 && wi c.linger 1 1000 && wi c.fails 1 10
def ownsOk (c : Cf) : Bool := vld c.own && vld c.own6 && (!c.encap || !c.own.v6 && c.own6.v6)
def cok (c : Cf) : Bool := sizesOk c && poolsOk c && timesOk c && ownsOk c
theorem wi_iff {n low high : Int} : wi n low high = true ↔ low ≤ n ∧ n ≤ high := by simp [wi]
set_option maxRecDepth 100000 in
theorem within_any (n low high : Int) (w : World) : Calls Try.prog 76 #[.int .i64 n, .int .i64 low, .int .i64 high] w fun e w' => e = .returned (.bool (wi n low high)) ∧ w' = w := by
  by_cases h1 : low ≤ n
  · by_cases h2 : n ≤ high
    · have H := Lib.hid (show wi n low high = true by simp [wi, h1, h2])
      go_enter Try.func76, Try.ntmps76
      go_wp2_with fail
      go_ret
      exact ⟨by rw [H.out]; rfl, rfl⟩
    · have H := Lib.hid (show wi n low high = false by simp [wi, h2])
      go_enter Try.func76, Try.ntmps76
      go_wp2_with fail
      go_ret
      exact ⟨by rw [H.out]; rfl, rfl⟩
  · have H := Lib.hid (show wi n low high = false by simp [wi, h1])
    have hd : decide (low ≤ n) = false := by simpa using h1
    go_enter Try.func76, Try.ntmps76
    go_wp2_with fail
    go_ret
    exact ⟨by rw [H.out]; rfl, rfl⟩
set_option maxRecDepth 100000 in
theorem power_any (n low high : Int) (w : World) (hl : 1 ≤ low) (hh : high ≤ 65536) : Calls Try.prog 77 #[.int .i64 n, .int .i64 low, .int .i64 high] w fun e w' => e = .returned (.bool (pw n low high)) ∧ w' = w := by
  cases h : wi n low high
  · have H := Lib.hid (show pw n low high = false by simp [pw, h])
    go_enter Try.func77, Try.ntmps77
    go_wp2_with (refine (within_any _ _ _ _).mono ?_; rintro e w' ⟨rfl, rfl⟩)
    go_ret
    exact ⟨by rw [H.out]; rfl, rfl⟩
  · have hb := wi_iff.1 h
    have hw : wrap64 (n - 1) = n - 1 := IntWalk.wrap64_in _ ⟨by omega, by omega⟩
    have H := Lib.hid (show pw n low high = (bits .and .i64 n (n - 1) == 0) by simp [pw, h, hw])
    clear hw
    go_enter Try.func77, Try.ntmps77
    go_wp2_with (refine (within_any _ _ _ _).mono ?_; rintro e w' ⟨rfl, rfl⟩)
    go_ret
    exact ⟨by rw [H.out]; rfl, rfl⟩
end Go.Proofs.Ythfgccibiajneaa
