/-
  A family's Place, Digest, Slot of a flow.
-/
import Derived.Test.YthfgccibiajneaaFamHashB
namespace Go.Proofs.Ythfgccibiajneaa
open Go.RowKit
set_option maxRecDepth 100000 in
set_option maxHeartbeats 1000000 in
theorem may_any (gf : Nat) (k : Ky) (w : World) :
    Calls Try.prog 85 #[.pointer (some ⟨gf, 0, none⟩), .agg (kc k)] w fun e w' => e = .returned (.bool (kvld k)) ∧ Below w.heap.size w w' := by
  go_enter Try.func85, Try.ntmps85
  go_wp2_with fail
  refine (kvalid_any k _).mono ?_
  rintro e w1 ⟨rfl, hb⟩
  go_wp2_with fail
  go_ret
  exact ⟨rfl, step_below ((Below.refl _ w).alloc (Nat.le_refl _) _) hb⟩
set_option maxRecDepth 100000 in
set_option maxHeartbeats 1000000 in
theorem may_nil (k : Ky) (w : World) :
    Calls Try.prog 85 #[.pointer none, .agg (kc k)] w fun e w' => e = .returned (.bool false) ∧ Below w.heap.size w w' := by
  go_enter Try.func85, Try.ntmps85
  go_wp2_with fail
  go_ret
  exact ⟨rfl, (Below.refl _ w).alloc (Nat.le_refl _) _⟩
/-- A flow's slot, of n. -/
def slotOf (c : Cf) (k : Ky) (n : Int) : Int := if kvld k = true ∧ 1 ≤ n then (hsh c.seed 32 (kbytes k) : Int) % n else 0
theorem slotOf_no (c : Cf) (k : Ky) (n : Int) (h : kvld k = false ∨ ¬ 1 ≤ n) : slotOf c k n = 0 := by
  unfold slotOf
  rw [if_neg]
  rintro ⟨h1, h2⟩
  rcases h with h | h
  · rw [h1] at h; cases h
  · exact h h2
theorem slotOf_yes (c : Cf) (k : Ky) (n : Int) (h1 : kvld k = true) (h2 : 1 ≤ n) : slotOf c k n = (hsh c.seed 32 (kbytes k) : Int) % n := by
  unfold slotOf; rw [if_pos ⟨h1, h2⟩]
set_option maxRecDepth 100000 in
set_option maxHeartbeats 2000000 in
theorem slot_any (gf : Nat) (c : Cf) (k : Ky) (n : Int) (w : World) (h : At w gf 139 (fc c)) :
    Calls Try.prog 26 #[.pointer (some ⟨gf, 0, none⟩), .agg (kc k), .int .i64 n] w fun e w' => e = .returned (.int .i64 (slotOf c k n)) ∧ Below w.heap.size w w' := by
  have H := Lib.hid h
  have hml := hsh_lt c.seed 32 (kbytes k)
  clear h
  cases hv : kvld k
  · have HS := Lib.hid (slotOf_no c k n (.inl hv))
    go_enter Try.func26, Try.ntmps26
    go_wp2_with fail
    refine (may_any gf k _).mono ?_
    rintro e w1 ⟨rfl, hb⟩
    rw [hv]
    go_wp2_with fail
    go_ret
    exact ⟨by rw [HS.out]; rfl, step_below ((Below.refl _ w).alloc (Nat.le_refl _) _) hb⟩
  · by_cases hn : 1 ≤ n
    · have hm : ((hsh c.seed 32 (kbytes k) : Nat) : Int).tmod n = ((hsh c.seed 32 (kbytes k) : Nat) : Int) % n := Int.tmod_eq_emod_of_nonneg (Int.natCast_nonneg _)
      have HS := Lib.hid (slotOf_yes c k n hv hn)
      clear hm
      go_enter Try.func26, Try.ntmps26
      go_wp2_with fail
      refine (may_any gf k _).mono ?_
      rintro e w1 ⟨rfl, hb⟩
      rw [hv]
      have hA := (At.new w 31 (kc k)).below hb (by simp)
      have HF := Lib.hid ((H.out.alloc (.cells (kc k) 31)).below hb (by have := H.out.lt; simp; omega))
      have HB := Lib.hid (step_below ((Below.refl _ w).alloc (Nat.le_refl _) _) hb)
      have hr := hA.row
      have ho := hA.open
      have hl := hA.lt
      clear hA hb
      go_wp2_with fail
      refine (hash_any gf c k 32 (by omega) _ HF.out).mono ?_
      rintro e w2 ⟨rfl, hb2⟩
      have HB2 := Lib.hid (step_below HB.out hb2)
      clear hb2
      go_wp2_with fail
      go_ret
      exact ⟨by rw [HS.out]; rfl, HB2.out⟩
    · have HS := Lib.hid (slotOf_no c k n (.inr hn))
      go_enter Try.func26, Try.ntmps26
      go_wp2_with fail
      refine (may_any gf k _).mono ?_
      rintro e w1 ⟨rfl, hb⟩
      rw [hv]
      go_wp2_with fail
      go_ret
      exact ⟨by rw [HS.out]; rfl, step_below ((Below.refl _ w).alloc (Nat.le_refl _) _) hb⟩
/-- A flow's digest. -/
def digOf (c : Cf) (k : Ky) : Nat := if kvld k = true then hsh c.seed 8 (kbytes k) % 2 ^ c.digest.toNat else 0
theorem digOf_no (c : Cf) (k : Ky) (h : kvld k = false) : digOf c k = 0 := by unfold digOf; rw [h]; rfl
theorem digOf_yes (c : Cf) (k : Ky) (h : kvld k = true) : digOf c k = hsh c.seed 8 (kbytes k) % 2 ^ c.digest.toNat := by unfold digOf; rw [h, if_pos rfl]
theorem i64_and_nat (a b : Nat) (ha : a < 9223372036854775808) (hb : b < 9223372036854775808) : bits .and .i64 (a : Int) (b : Int) = ((a &&& b : Nat) : Int) := by
  have hx : a &&& b < 2 ^ 63 := Nat.and_lt_two_pow _ (by omega)
  have h1 : ∀ q : Nat, q < 9223372036854775808 → (BitVec.ofInt 64 (q : Int)).toNat = q := fun q hq => by
    rw [BitVec.ofInt_natCast, BitVec.toNat_ofNat]; exact Nat.mod_eq_of_lt (by omega)
  show IntKind.i64.wrap ((BitVec.ofInt 64 (a : Int) &&& BitVec.ofInt 64 (b : Int)).toNat : Int) = _
  rw [BitVec.toNat_and, h1 a ha, h1 b hb, IntKind.wrap_i64]
  omega
theorem digest_facts (d D m : Nat) (hD : D = 2 ^ d) (h1 : 1 ≤ d) (h2 : d ≤ 16) (hm : m < 4294967296) :
    IntKind.i64.wrap ((2 : Int) ^ d) = (D : Int) ∧ IntKind.i64.wrap ((D : Int) - 1) = ((D - 1 : Nat) : Int) ∧ bits .and .i64 (m : Int) ((D - 1 : Nat) : Int) = ((m % D : Nat) : Int) ∧ IntKind.u16.wrap ((m : Int) % (D : Int)) = ((m % D : Nat) : Int) ∧ m % D < 65536 := by
  have hb : 2 ≤ D ∧ D ≤ 65536 := by
    rw [hD]
    exact ⟨Nat.pow_le_pow_right (n := 2) (by omega) h1, Nat.pow_le_pow_right (n := 2) (by omega) h2⟩
  have hp : ((2 : Int) ^ d) = (D : Int) := by rw [hD]; simp
  have hlt := Nat.mod_lt m (show D > 0 by omega)
  refine ⟨by rw [hp, IntKind.wrap_i64]; omega, by rw [IntKind.wrap_i64]; omega, ?_, by rw [← Int.natCast_emod, IntKind.wrap_u16]; omega, by omega⟩
  rw [i64_and_nat m (D - 1) (by omega) (by omega), hD, Nat.and_two_pow_sub_one_eq_mod]
set_option maxRecDepth 100000 in
set_option maxHeartbeats 4000000 in
theorem digest_any (gf : Nat) (c : Cf) (k : Ky) (w : World) (h : At w gf 139 (fc c)) (h1 : 1 ≤ c.digest) (h2 : c.digest ≤ 16) :
    Calls Try.prog 21 #[.pointer (some ⟨gf, 0, none⟩), .agg (kc k)] w fun e w' => e = .returned (.int .u16 (digOf c k)) ∧ Below w.heap.size w w' := by
  have H := Lib.hid h
  have hml := hsh_lt c.seed 8 (kbytes k)
  clear h
  cases hv : kvld k
  · have HS := Lib.hid (digOf_no c k hv)
    go_enter Try.func21, Try.ntmps21
    go_wp2_with fail
    refine (may_any gf k _).mono ?_
    rintro e w1 ⟨rfl, hb⟩
    rw [hv]
    go_wp2_with fail
    go_ret
    exact ⟨by rw [HS.out]; rfl, step_below ((Below.refl _ w).alloc (Nat.le_refl _) _) hb⟩
  · have HS := Lib.hid (digOf_yes c k hv)
    obtain ⟨d, hd⟩ : ∃ d : Nat, c.digest = d := ⟨c.digest.toNat, by omega⟩
    rw [hd] at HS h1 h2
    rw [Int.toNat_natCast] at HS
    go_enter Try.func21, Try.ntmps21
    go_wp2_with fail
    refine (may_any gf k _).mono ?_
    rintro e w1 ⟨rfl, hb⟩
    rw [hv]
    have hA := (At.new w 31 (kc k)).below hb (by simp)
    have hF := ((H.out.alloc (.cells (kc k) 31)).below hb (by have := H.out.lt; simp; omega))
    have HB := Lib.hid (step_below ((Below.refl _ w).alloc (Nat.le_refl _) _) hb)
    obtain ⟨g, hg⟩ : ∃ g, g = w.heap.size := ⟨_, rfl⟩
    rw [← hg] at hA
    rw [← hg]
    have hr := hA.row
    have ho := hA.open
    have hl := hA.lt
    have hfl := hF.lt
    have hf2 := hF.cell 2
    rw [fc_get c 2 (by omega), cl_head c 2 (by omega)] at hf2
    simp only [Cf.head, List.getElem?_cons_zero, List.getElem?_cons_succ, hd] at hf2
    have HF := Lib.hid hF
    clear hA hb hF hg hd
    obtain ⟨D, hD⟩ : ∃ D : Nat, D = 2 ^ d := ⟨_, rfl⟩
    obtain ⟨q1, q2, q3, q4, q5⟩ := digest_facts d D (hsh c.seed 8 (kbytes k)) hD (by omega) (by omega) hml
    have HS2 := Lib.hid (show digOf c k = hsh c.seed 8 (kbytes k) % D by rw [HS.out, hD])
    clear hD
    go_wp2_with fail
    refine region_sq (fun _ => False) [(0, true), (1, true), (3, true), (4, true), (5, true), (6, true), (7, true), (8, true), (9, true), (2, false), (10, true), (11, true), (12, true)] (by kernel_rfl) (by kernel_rfl) (fun _ _ d _ _ h => by cases d <;> exact h) ?_
    repeat (first
      | (refine sq_yes rfl (by rfl) (fun w' hM => by ((try replace hM := hM.of_drew); obtain ⟨hR1, hR2, hR3⟩ := hM.rules; clear hM; go_simp; with_reducible rfl)) ?_; simp only [Act.put, List.setIfInBounds_toArray, List.set_cons_zero, List.set_cons_succ])
      | (refine sq_no rfl (by rfl) ?_; simp only [Act.put, List.setIfInBounds_toArray, List.set_cons_zero, List.set_cons_succ]))
    clear q1 q2
    refine sq_do_yes rfl (by rfl) (fun K hK => ?_)
    go_wp2_with fail
    refine (hash_any gf c k 8 (by omega) _ HF.out.drew).mono ?_
    rintro e w2 ⟨rfl, hb2⟩
    have HB2 := Lib.hid (step_below HB.out.drew hb2)
    go_wp2_with fail
    refine ⟨Mod.of_below hb2, ?_⟩
    clear hb2
    repeat (first
      | (refine sq_yes rfl (by rfl) (fun w' hM => by ((try replace hM := hM.of_drew); obtain ⟨hR1, hR2, hR3⟩ := hM.rules; clear hM; go_simp; with_reducible rfl)) ?_; simp only [Act.put, List.setIfInBounds_toArray, List.set_cons_zero, List.set_cons_succ])
      | (refine sq_no rfl (by rfl) ?_; simp only [Act.put, List.setIfInBounds_toArray, List.set_cons_zero, List.set_cons_succ]))
    refine sq_end ?_
    clear q3 q4
    go_wp2_with fail
    go_ret
    exact ⟨by rw [HS2.out]; rfl, HB2.out⟩
end Go.Proofs.Ythfgccibiajneaa
