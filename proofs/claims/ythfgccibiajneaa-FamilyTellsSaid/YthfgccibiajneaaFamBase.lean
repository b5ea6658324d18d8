/-
  Small laws that the statements on families and filters share.
-/
import Derived.Test.YthfgccibiajneaaFamAll
namespace Go.Proofs.Ythfgccibiajneaa
open Go.RowKit
theorem kvld_akey (n : Int) (v6 udp : Bool) : kvld (akey n v6 udp) = true := by
  unfold akey
  generalize (n % 1073741824).toNat = m
  cases v6 <;> cases udp <;> rfl
theorem ac_one (a : Adr) : (ac a).all (·.oneCell') = true := by
  rw [Array.all_eq_true']
  intro v hv
  simp only [ac, List.mem_toArray, Adr.l, List.mem_cons, u8s, List.mem_map] at hv
  rcases hv with rfl | ⟨a, _, rfl⟩ <;> rfl
theorem bitsOf_length (c : Cf) (k : Ky) (h : kvld k = true) : (bitsOf c k).length = c.hashes.toNat := by
  unfold bitsOf; rw [if_pos h, bitsUpto_length]
theorem bitsOf_bounds (c : Cf) (k : Ky) (t : Nat) (h : t < (bitsOf c k).length) (hb : 1 ≤ c.bloom) : 0 ≤ (bitsOf c k).getD t 0 ∧ (bitsOf c k).getD t 0 < c.bloom := by
  have hm : (bitsOf c k).getD t 0 ∈ bitsOf c k := by
    rw [List.getD_eq_getElem?_getD, List.getElem?_eq_getElem h]; exact List.getElem_mem h
  generalize (bitsOf c k).getD t 0 = x at hm
  unfold bitsOf at hm
  split at hm
  · obtain ⟨i, _, rfl⟩ := List.mem_map.1 hm
    exact ⟨Int.emod_nonneg _ (by omega), Int.emod_lt_of_pos _ (by omega)⟩
  · simp at hm
end Go.Proofs.Ythfgccibiajneaa
