/-
  The mixing of a hash, and the document's.
-/
import Derived.Test.YthfgccibiajneaaFamRefB
namespace Go.Proofs.Ythfgccibiajneaa
open Go.RowKit
def mulA (x : Nat) : Nat := x * 2146121005 % 4294967296
def mulB (x : Nat) : Nat := x * 2221713035 % 4294967296
def fold (d x : Nat) : Nat := x ^^^ x / d
def mixN (x : Nat) : Nat := fold 65536 (mulB (fold 32768 (mulA (fold 65536 x))))
theorem xlt {x y : Nat} (hx : x < 4294967296) (hy : y < 4294967296) : x ^^^ y < 4294967296 := Nat.xor_lt_two_pow (n := 32) (by omega) (by omega)
theorem mulA_lt (x : Nat) : mulA x < 4294967296 := Nat.mod_lt _ (by omega)
theorem mulB_lt (x : Nat) : mulB x < 4294967296 := Nat.mod_lt _ (by omega)
theorem fold_lt (d x : Nat) (hx : x < 4294967296) : fold d x < 4294967296 := xlt hx (Nat.lt_of_le_of_lt (Nat.div_le_self _ _) hx)
theorem mixN_lt (x : Nat) : mixN x < 4294967296 := fold_lt _ _ (mulB_lt _)
theorem xorI (d x : Nat) (hx : x < 4294967296) : bits .xor .u32 (x : Int) ((x : Int) / (d : Int)) = ((fold d x : Nat) : Int) :=
  u32_xor_nat x (x / d) hx (Nat.lt_of_le_of_lt (Nat.div_le_self _ _) hx)
theorem xorA (x : Nat) (hx : x < 4294967296) : bits .xor .u32 (x : Int) ((x : Int) / 65536) = ((fold 65536 x : Nat) : Int) := xorI 65536 x hx
theorem xorB (x : Nat) (hx : x < 4294967296) : bits .xor .u32 (x : Int) ((x : Int) / 32768) = ((fold 32768 x : Nat) : Int) := xorI 32768 x hx
theorem mulAI (x : Nat) : (x : Int) * 2146121005 % 4294967296 = ((mulA x : Nat) : Int) := by unfold mulA; omega
theorem mulBI (x : Nat) : (x : Int) * 2221713035 % 4294967296 = ((mulB x : Nat) : Int) := by unfold mulB; omega
set_option maxRecDepth 100000 in
theorem mixI (x : Nat) (hx : x < 4294967296) : bits .xor .u32 (bits .xor .u32 (bits .xor .u32 (x : Int) ((x : Int) / 65536) * 2146121005 % 4294967296) (bits .xor .u32 (x : Int) ((x : Int) / 65536) * 2146121005 % 4294967296 / 32768) * 2221713035 % 4294967296)
    (bits .xor .u32 (bits .xor .u32 (x : Int) ((x : Int) / 65536) * 2146121005 % 4294967296) (bits .xor .u32 (x : Int) ((x : Int) / 65536) * 2146121005 % 4294967296 / 32768) * 2221713035 % 4294967296 / 65536) = (mixN x : Nat) := by
  rw [xorA x hx, mulAI, xorB _ (mulA_lt _), mulBI, xorA _ (mulB_lt _)]
  rfl
set_option maxRecDepth 100000 in
theorem mix_any (x : Nat) (hx : x < 4294967296) (w : World) : Calls Try.prog 108 #[.int .u32 x] w fun e w' => e = .returned (.int .u32 (mixN x : Nat)) ∧ w' = w := by
  have H := Lib.hid (mixI x hx)
  go_enter Try.func108, Try.ntmps108
  go_wp2_with fail
  go_ret
  exact ⟨by rw [← H.out]; rfl, rfl⟩
set_option maxRecDepth 100000 in
theorem refMix_any (x : Nat) (hx : x < 4294967296) (w : World) : Calls Try.prog 111 #[.int .u32 x] w fun e w' => e = .returned (.int .u32 (mixN x : Nat)) ∧ w' = w := by
  have H := Lib.hid (mixI x hx)
  go_enter Try.func111, Try.ntmps111
  go_wp2_with fail
  go_ret
  exact ⟨by rw [← H.out]; rfl, rfl⟩
end Go.Proofs.Ythfgccibiajneaa
