/-
  Texts in one, each behind those that it needs: FamHashB, FamPlace, FamPlaceB.
-/
import Derived.Test.YthfgccibiajneaaBaf
/-
  A family's hash of a flow, and the document's.
-/
namespace Go.Proofs.Ythfgccibiajneaa
open Go.RowKit
theorem hsum (s n : Nat) : (((s : Int) + 7919 * (n : Int)) % 4294967296).toNat = (s + 7919 * n) % 4294967296 := by omega
set_option maxRecDepth 100000 in
set_option maxHeartbeats 4000000 in
theorem hash_any (gf : Nat) (c : Cf) (k : Ky) (n : Nat) (hn : n ≤ 100) (w : World) (h : At w gf 139 (fc c)) :
    Calls Try.prog 86 #[.pointer (some ⟨gf, 0, none⟩), .agg (kc k), .int .i64 n] w fun e w' => e = .returned (.int .i64 (hsh c.seed n (kbytes k) : Nat)) ∧ Below w.heap.size w w' := by
  have hl := h.lt
  have hl' : gf < w.heap.size + 1 := by omega
  have hr := h.row
  have ho := h.open
  have h47 := h.cell 47
  rw [fc_get c 47 (by omega), cl_seed] at h47
  have hseed := c.hseed
  have HSUM := Lib.hid (hsum c.seed n)
  have HP := Lib.hid (poly_lt (n % 4))
  have HKL := Lib.hid (kbytes_length k)
  have HKB := Lib.hid (kbytes_lt k)
  have hc : ((n : Int).tmod 4 = 0 ∧ n % 4 = 0) ∨ ((n : Int).tmod 4 = 1 ∧ n % 4 = 1) ∨ ((n : Int).tmod 4 = 2 ∧ n % 4 = 2) ∨ ((n : Int).tmod 4 = 3 ∧ n % 4 = 3) := by
    rw [Int.tmod_eq_emod_of_nonneg (Int.natCast_nonneg n)]; omega
  have HH := Lib.hid (show hsh c.seed n (kbytes k) = mixN (crc (poly (n % 4)) ((c.seed + 7919 * n) % 4294967296) (kbytes k)) from rfl)
  clear h
  rcases hc with ⟨hq, hq2⟩ | ⟨hq, hq2⟩ | ⟨hq, hq2⟩ | ⟨hq, hq2⟩ <;>
  · rw [hq2] at HH HP
    clear hq2
    have w1 : IntKind.u32.wrap (7919 * (n : Int)) = 7919 * (n : Int) := by rw [IntKind.wrap_u32]; omega
    have w2 : IntKind.u32.wrap ((c.seed : Int) + 7919 * (n : Int)) = ((c.seed : Int) + 7919 * (n : Int)) % 4294967296 := IntKind.wrap_u32 _
    have w3 : IntKind.u32.wrap (n : Int) = (n : Int) := by rw [IntKind.wrap_u32]; omega
    go_enter Try.func86, Try.ntmps86
    go_wp2_with fail
    refine region_sq (fun _ => False) [(0, true), (1, true), (2, true), (3, true), (4, true), (5, true), (6, true), (7, true), (8, true), (9, true), (10, true), (11, true), (12, true), (13, true), (14, true), (15, true), (16, true), (17, false), (18, false), (19, false), (20, true), (21, true)] (by kernel_rfl) (by kernel_rfl) (fun _ _ d _ _ h => by cases d <;> exact h) ?_
    repeat (first
      | (refine sq_yes rfl (by rfl) (fun w' hM => by ((try replace hM := hM.of_drew); obtain ⟨hR1, hR2, hR3⟩ := hM.rules; clear hM; go_simp; with_reducible rfl)) ?_; simp only [Act.put, List.setIfInBounds_toArray, List.set_cons_zero, List.set_cons_succ])
      | (refine sq_no rfl (by rfl) ?_; simp only [Act.put, List.setIfInBounds_toArray, List.set_cons_zero, List.set_cons_succ]))
    clear w1 w2 w3 hr ho h47
    refine sq_do_yes rfl (by rfl) (fun K hK => ?_)
    go_wp2_with fail
    refine (kbytes_any k _).mono ?_
    rintro e w1 ⟨v, rfl, ho1, hb1⟩
    obtain ⟨a1, n1, c1, rfl, hn1, hy1, _⟩ := ho1.parts
    have HY1 := Lib.hid hy1
    have hn1' : n1 ≤ 40 := by rw [hn1]; exact HKL.out
    have HB1 := Lib.hid (step_below (((Below.refl _ w).alloc (Nat.le_refl _) _).drew) hb1)
    clear ho1 hy1 hn1
    go_wp2_with fail
    refine ⟨Mod.of_below hb1, ?_⟩
    clear hb1
    refine sq_do_yes rfl (by rfl) (fun K hK => ?_)
    go_wp2_with fail
    refine (of_int _ HP.out _ (Int.emod_nonneg _ (by omega)) (Int.emod_lt_of_pos _ (by omega)) a1 n1 c1 _ _ HY1.out (by omega)).mono ?_
    rintro e w2 ⟨rfl, rfl⟩
    rw [HSUM.out]
    have hcl := crc_lt HP.out (Nat.mod_lt (c.seed + 7919 * n) (show 4294967296 > 0 by omega)) HKB.out
    generalize hm : crc _ ((c.seed + 7919 * n) % 4294967296) (kbytes k) = m at hcl ⊢
    have HH2 := Lib.hid (show hsh c.seed n (kbytes k) = mixN m by rw [HH.out, hm])
    clear hm
    go_wp2_with fail
    refine ⟨(Mod.refl _ _).alloc _, ?_⟩
    refine sq_do_yes rfl (by rfl) (fun K hK => ?_)
    go_wp2_with fail
    refine (mix_any m hcl _).mono ?_
    rintro e w3 ⟨rfl, rfl⟩
    go_wp2_with fail
    refine ⟨Mod.refl _ _, ?_⟩
    have hml := mixN_lt m
    have w4 : IntKind.i64.wrap ((mixN m : Nat) : Int) = ((mixN m : Nat) : Int) := by rw [IntKind.wrap_i64]; omega
    repeat (first
      | (refine sq_yes rfl (by rfl) (fun w' hM => by ((try replace hM := hM.of_drew); obtain ⟨hR1, hR2, hR3⟩ := hM.rules; clear hM; go_simp; with_reducible rfl)) ?_; simp only [Act.put, List.setIfInBounds_toArray, List.set_cons_zero, List.set_cons_succ])
      | (refine sq_no rfl (by rfl) ?_; simp only [Act.put, List.setIfInBounds_toArray, List.set_cons_zero, List.set_cons_succ]))
    refine sq_end ?_
    clear w4
    go_wp2_with fail
    go_ret
    exact ⟨by rw [HH2.out]; rfl, HB1.out.alloc HB1.out.size _⟩
set_option maxRecDepth 100000 in
set_option maxHeartbeats 4000000 in
theorem refHash_any (c : Cf) (k : Ky) (n : Nat) (hn : n ≤ 100) (w : World) :
    Calls Try.prog 87 #[.agg (cc c), .int .i64 n, .agg (kc k)] w fun e w' => e = .returned (.int .u32 (hsh c.seed n (kbytes k) : Nat)) ∧ Below w.heap.size w w' := by
  have hseed := c.hseed
  have HSUM := Lib.hid (hsum c.seed n)
  have HP := Lib.hid (poly_lt (n % 4))
  have HKL := Lib.hid (kbytes_length k)
  have HKB := Lib.hid (kbytes_lt k)
  have HH := Lib.hid (show hsh c.seed n (kbytes k) = mixN (crc (poly (n % 4)) ((c.seed + 7919 * n) % 4294967296) (kbytes k)) from rfl)
  have w1 : IntKind.i64.wrap (7919 * (n : Int)) = 7919 * (n : Int) := by rw [IntKind.wrap_i64]; omega
  have w2 : IntKind.u32.wrap ((c.seed : Int) + 7919 * (n : Int)) = ((c.seed : Int) + 7919 * (n : Int)) % 4294967296 := IntKind.wrap_u32 _
  have w3 : IntKind.u32.wrap (7919 * (n : Int)) = 7919 * (n : Int) := by rw [IntKind.wrap_u32]; omega
  go_enter Try.func87, Try.ntmps87
  go_wp2_with fail
  refine region_sq (fun _ => False) [(0, true), (2, true), (3, true), (4, true), (5, true), (6, true), (7, true), (8, true), (1, false), (9, false), (10, false), (11, false), (12, true)] (by kernel_rfl) (by kernel_rfl) (fun _ _ d _ _ h => by cases d <;> exact h) ?_
  repeat (first
    | (refine sq_yes rfl (by rfl) (fun w' hM => by ((try replace hM := hM.of_drew); obtain ⟨hR1, hR2, hR3⟩ := hM.rules; clear hM; go_simp; with_reducible rfl)) ?_; simp only [Act.put, List.setIfInBounds_toArray, List.set_cons_zero, List.set_cons_succ])
    | (refine sq_no rfl (by rfl) ?_; simp only [Act.put, List.setIfInBounds_toArray, List.set_cons_zero, List.set_cons_succ]))
  clear w1 w2 w3
  refine sq_do_yes rfl (by rfl) (fun K hK => ?_)
  go_wp2_with fail
  refine (refKnown_any n _).mono ?_
  rintro e w1 ⟨rfl, hb1⟩
  rw [show ((n : Int) % 4).toNat = n % 4 by omega]
  have HB1 := Lib.hid (step_below ((((Below.refl _ w).alloc (Nat.le_refl _) _).alloc (by simp) _).drew) hb1)
  go_wp2_with fail
  refine ⟨Mod.of_below hb1, ?_⟩
  clear hb1
  refine sq_do_yes rfl (by rfl) (fun K hK => ?_)
  go_wp2_with fail
  refine (refKbytes_any k _).mono ?_
  rintro e w2 ⟨v, rfl, ho2, hb2⟩
  obtain ⟨a1, n1, c1, rfl, hn1, hy1, _⟩ := ho2.parts
  have HY1 := Lib.hid hy1
  have hn1' : n1 ≤ 40 := by rw [hn1]; exact HKL.out
  have HB2 := Lib.hid (step_below HB1.out hb2)
  clear ho2 hy1 hn1
  go_wp2_with fail
  refine ⟨Mod.of_below hb2, ?_⟩
  clear hb2
  have hsum2 : ((c.seed : Int) + 7919 * (n : Int)) % 4294967296 = (((c.seed + 7919 * n) % 4294967296 : Nat) : Int) := by omega
  have hlt2 := Nat.mod_lt (c.seed + 7919 * n) (show 4294967296 > 0 by omega)
  have hcl := crc_lt HP.out hlt2 HKB.out
  have HS2 := Lib.hid hsum2
  clear hsum2
  refine sq_do_yes rfl (by rfl) (fun K hK => ?_)
  go_wp2_with fail
  rw [HS2.out]
  refine (ref_any (poly (n % 4)) HP.out _ hlt2 a1 n1 c1 _ _ HY1.out (by omega)).mono ?_
  rintro e w3 ⟨rfl, rfl⟩
  generalize hm : crc _ ((c.seed + 7919 * n) % 4294967296) (kbytes k) = m at hcl ⊢
  have HH2 := Lib.hid (show hsh c.seed n (kbytes k) = mixN m by rw [HH.out, hm])
  clear hm hlt2
  go_wp2_with fail
  refine ⟨Mod.refl _ _, ?_⟩
  refine sq_do_yes rfl (by rfl) (fun K hK => ?_)
  go_wp2_with fail
  refine (refMix_any m hcl _).mono ?_
  rintro e w3 ⟨rfl, rfl⟩
  go_wp2_with fail
  refine ⟨Mod.refl _ _, ?_⟩
  repeat (first
    | (refine sq_yes rfl (by rfl) (fun w' hM => by ((try replace hM := hM.of_drew); obtain ⟨hR1, hR2, hR3⟩ := hM.rules; clear hM; go_simp; with_reducible rfl)) ?_; simp only [Act.put, List.setIfInBounds_toArray, List.set_cons_zero, List.set_cons_succ])
    | (refine sq_no rfl (by rfl) ?_; simp only [Act.put, List.setIfInBounds_toArray, List.set_cons_zero, List.set_cons_succ]))
  refine sq_end ?_
  go_wp2_with fail
  go_ret
  exact ⟨by rw [HH2.out]; rfl, HB2.out⟩
end Go.Proofs.Ythfgccibiajneaa

/-
  A family's Place, Digest, Slot of a flow.
-/
namespace Go.Proofs.Ythfgccibiajneaa
open Go.RowKit
set_option maxRecDepth 100000 in
set_option maxHeartbeats 1000000 in
theorem may_any (gf : Nat) (k : Ky) (w : World) :
    Calls Try.prog 85 #[.pointer (some ⟨gf, 0, none⟩), .agg (kc k)] w fun e w' => e = .returned (.bool (kvld k)) ∧ Below w.heap.size w w' := by
  go_enter Try.func85, Try.ntmps85
  go_wp2_with fail
  refine (kvalid_any k _).mono ?_
  rintro e w1 ⟨rfl, hb⟩
  go_wp2_with fail
  go_ret
  exact ⟨rfl, step_below ((Below.refl _ w).alloc (Nat.le_refl _) _) hb⟩
set_option maxRecDepth 100000 in
set_option maxHeartbeats 1000000 in
theorem may_nil (k : Ky) (w : World) :
    Calls Try.prog 85 #[.pointer none, .agg (kc k)] w fun e w' => e = .returned (.bool false) ∧ Below w.heap.size w w' := by
  go_enter Try.func85, Try.ntmps85
  go_wp2_with fail
  go_ret
  exact ⟨rfl, (Below.refl _ w).alloc (Nat.le_refl _) _⟩
/-- A flow's slot, of n. -/
def slotOf (c : Cf) (k : Ky) (n : Int) : Int := if kvld k = true ∧ 1 ≤ n then (hsh c.seed 32 (kbytes k) : Int) % n else 0
theorem slotOf_no (c : Cf) (k : Ky) (n : Int) (h : kvld k = false ∨ ¬ 1 ≤ n) : slotOf c k n = 0 := by
  unfold slotOf
  rw [if_neg]
  rintro ⟨h1, h2⟩
  rcases h with h | h
  · rw [h1] at h; cases h
  · exact h h2
theorem slotOf_yes (c : Cf) (k : Ky) (n : Int) (h1 : kvld k = true) (h2 : 1 ≤ n) : slotOf c k n = (hsh c.seed 32 (kbytes k) : Int) % n := by
  unfold slotOf; rw [if_pos ⟨h1, h2⟩]
set_option maxRecDepth 100000 in
set_option maxHeartbeats 2000000 in
theorem slot_any (gf : Nat) (c : Cf) (k : Ky) (n : Int) (w : World) (h : At w gf 139 (fc c)) :
    Calls Try.prog 26 #[.pointer (some ⟨gf, 0, none⟩), .agg (kc k), .int .i64 n] w fun e w' => e = .returned (.int .i64 (slotOf c k n)) ∧ Below w.heap.size w w' := by
  have H := Lib.hid h
  have hml := hsh_lt c.seed 32 (kbytes k)
  clear h
  cases hv : kvld k
  · have HS := Lib.hid (slotOf_no c k n (.inl hv))
    go_enter Try.func26, Try.ntmps26
    go_wp2_with fail
    refine (may_any gf k _).mono ?_
    rintro e w1 ⟨rfl, hb⟩
    rw [hv]
    go_wp2_with fail
    go_ret
    exact ⟨by rw [HS.out]; rfl, step_below ((Below.refl _ w).alloc (Nat.le_refl _) _) hb⟩
  · by_cases hn : 1 ≤ n
    · have hm : ((hsh c.seed 32 (kbytes k) : Nat) : Int).tmod n = ((hsh c.seed 32 (kbytes k) : Nat) : Int) % n := Int.tmod_eq_emod_of_nonneg (Int.natCast_nonneg _)
      have HS := Lib.hid (slotOf_yes c k n hv hn)
      clear hm
      go_enter Try.func26, Try.ntmps26
      go_wp2_with fail
      refine (may_any gf k _).mono ?_
      rintro e w1 ⟨rfl, hb⟩
      rw [hv]
      have hA := (At.new w 31 (kc k)).below hb (by simp)
      have HF := Lib.hid ((H.out.alloc (.cells (kc k) 31)).below hb (by have := H.out.lt; simp; omega))
      have HB := Lib.hid (step_below ((Below.refl _ w).alloc (Nat.le_refl _) _) hb)
      have hr := hA.row
      have ho := hA.open
      have hl := hA.lt
      clear hA hb
      go_wp2_with fail
      refine (hash_any gf c k 32 (by omega) _ HF.out).mono ?_
      rintro e w2 ⟨rfl, hb2⟩
      have HB2 := Lib.hid (step_below HB.out hb2)
      clear hb2
      go_wp2_with fail
      go_ret
      exact ⟨by rw [HS.out]; rfl, HB2.out⟩
    · have HS := Lib.hid (slotOf_no c k n (.inr hn))
      go_enter Try.func26, Try.ntmps26
      go_wp2_with fail
      refine (may_any gf k _).mono ?_
      rintro e w1 ⟨rfl, hb⟩
      rw [hv]
      go_wp2_with fail
      go_ret
      exact ⟨by rw [HS.out]; rfl, step_below ((Below.refl _ w).alloc (Nat.le_refl _) _) hb⟩
/-- A flow's digest. -/
def digOf (c : Cf) (k : Ky) : Nat := if kvld k = true then hsh c.seed 8 (kbytes k) % 2 ^ c.digest.toNat else 0
theorem digOf_no (c : Cf) (k : Ky) (h : kvld k = false) : digOf c k = 0 := by unfold digOf; rw [h]; rfl
theorem digOf_yes (c : Cf) (k : Ky) (h : kvld k = true) : digOf c k = hsh c.seed 8 (kbytes k) % 2 ^ c.digest.toNat := by unfold digOf; rw [h, if_pos rfl]
theorem i64_and_nat (a b : Nat) (ha : a < 9223372036854775808) (hb : b < 9223372036854775808) : bits .and .i64 (a : Int) (b : Int) = ((a &&& b : Nat) : Int) := by
  have hx : a &&& b < 2 ^ 63 := Nat.and_lt_two_pow _ (by omega)
  have h1 : ∀ q : Nat, q < 9223372036854775808 → (BitVec.ofInt 64 (q : Int)).toNat = q := fun q hq => by
    rw [BitVec.ofInt_natCast, BitVec.toNat_ofNat]; exact Nat.mod_eq_of_lt (by omega)
  show IntKind.i64.wrap ((BitVec.ofInt 64 (a : Int) &&& BitVec.ofInt 64 (b : Int)).toNat : Int) = _
  rw [BitVec.toNat_and, h1 a ha, h1 b hb, IntKind.wrap_i64]
  omega
theorem digest_facts (d D m : Nat) (hD : D = 2 ^ d) (h1 : 1 ≤ d) (h2 : d ≤ 16) (hm : m < 4294967296) :
    IntKind.i64.wrap ((2 : Int) ^ d) = (D : Int) ∧ IntKind.i64.wrap ((D : Int) - 1) = ((D - 1 : Nat) : Int) ∧ bits .and .i64 (m : Int) ((D - 1 : Nat) : Int) = ((m % D : Nat) : Int) ∧ IntKind.u16.wrap ((m : Int) % (D : Int)) = ((m % D : Nat) : Int) ∧ m % D < 65536 := by
  have hb : 2 ≤ D ∧ D ≤ 65536 := by
    rw [hD]
    exact ⟨Nat.pow_le_pow_right (n := 2) (by omega) h1, Nat.pow_le_pow_right (n := 2) (by omega) h2⟩
  have hp : ((2 : Int) ^ d) = (D : Int) := by rw [hD]; simp
  have hlt := Nat.mod_lt m (show D > 0 by omega)
  refine ⟨by rw [hp, IntKind.wrap_i64]; omega, by rw [IntKind.wrap_i64]; omega, ?_, by rw [← Int.natCast_emod, IntKind.wrap_u16]; omega, by omega⟩
  rw [i64_and_nat m (D - 1) (by omega) (by omega), hD, Nat.and_two_pow_sub_one_eq_mod]
set_option maxRecDepth 100000 in
set_option maxHeartbeats 4000000 in
theorem digest_any (gf : Nat) (c : Cf) (k : Ky) (w : World) (h : At w gf 139 (fc c)) (h1 : 1 ≤ c.digest) (h2 : c.digest ≤ 16) :
    Calls Try.prog 21 #[.pointer (some ⟨gf, 0, none⟩), .agg (kc k)] w fun e w' => e = .returned (.int .u16 (digOf c k)) ∧ Below w.heap.size w w' := by
  have H := Lib.hid h
  have hml := hsh_lt c.seed 8 (kbytes k)
  clear h
  cases hv : kvld k
  · have HS := Lib.hid (digOf_no c k hv)
    go_enter Try.func21, Try.ntmps21
    go_wp2_with fail
    refine (may_any gf k _).mono ?_
    rintro e w1 ⟨rfl, hb⟩
    rw [hv]
    go_wp2_with fail
    go_ret
    exact ⟨by rw [HS.out]; rfl, step_below ((Below.refl _ w).alloc (Nat.le_refl _) _) hb⟩
  · have HS := Lib.hid (digOf_yes c k hv)
    obtain ⟨d, hd⟩ : ∃ d : Nat, c.digest = d := ⟨c.digest.toNat, by omega⟩
    rw [hd] at HS h1 h2
    rw [Int.toNat_natCast] at HS
    go_enter Try.func21, Try.ntmps21
    go_wp2_with fail
    refine (may_any gf k _).mono ?_
    rintro e w1 ⟨rfl, hb⟩
    rw [hv]
    have hA := (At.new w 31 (kc k)).below hb (by simp)
    have hF := ((H.out.alloc (.cells (kc k) 31)).below hb (by have := H.out.lt; simp; omega))
    have HB := Lib.hid (step_below ((Below.refl _ w).alloc (Nat.le_refl _) _) hb)
    obtain ⟨g, hg⟩ : ∃ g, g = w.heap.size := ⟨_, rfl⟩
    rw [← hg] at hA
    rw [← hg]
    have hr := hA.row
    have ho := hA.open
    have hl := hA.lt
    have hfl := hF.lt
    have hf2 := hF.cell 2
    rw [fc_get c 2 (by omega), cl_head c 2 (by omega)] at hf2
    simp only [Cf.head, List.getElem?_cons_zero, List.getElem?_cons_succ, hd] at hf2
    have HF := Lib.hid hF
    clear hA hb hF hg hd
    obtain ⟨D, hD⟩ : ∃ D : Nat, D = 2 ^ d := ⟨_, rfl⟩
    obtain ⟨q1, q2, q3, q4, q5⟩ := digest_facts d D (hsh c.seed 8 (kbytes k)) hD (by omega) (by omega) hml
    have HS2 := Lib.hid (show digOf c k = hsh c.seed 8 (kbytes k) % D by rw [HS.out, hD])
    clear hD
    go_wp2_with fail
    refine region_sq (fun _ => False) [(0, true), (1, true), (3, true), (4, true), (5, true), (6, true), (7, true), (8, true), (9, true), (2, false), (10, true), (11, true), (12, true)] (by kernel_rfl) (by kernel_rfl) (fun _ _ d _ _ h => by cases d <;> exact h) ?_
    repeat (first
      | (refine sq_yes rfl (by rfl) (fun w' hM => by ((try replace hM := hM.of_drew); obtain ⟨hR1, hR2, hR3⟩ := hM.rules; clear hM; go_simp; with_reducible rfl)) ?_; simp only [Act.put, List.setIfInBounds_toArray, List.set_cons_zero, List.set_cons_succ])
      | (refine sq_no rfl (by rfl) ?_; simp only [Act.put, List.setIfInBounds_toArray, List.set_cons_zero, List.set_cons_succ]))
    clear q1 q2
    refine sq_do_yes rfl (by rfl) (fun K hK => ?_)
    go_wp2_with fail
    refine (hash_any gf c k 8 (by omega) _ HF.out.drew).mono ?_
    rintro e w2 ⟨rfl, hb2⟩
    have HB2 := Lib.hid (step_below HB.out.drew hb2)
    go_wp2_with fail
    refine ⟨Mod.of_below hb2, ?_⟩
    clear hb2
    repeat (first
      | (refine sq_yes rfl (by rfl) (fun w' hM => by ((try replace hM := hM.of_drew); obtain ⟨hR1, hR2, hR3⟩ := hM.rules; clear hM; go_simp; with_reducible rfl)) ?_; simp only [Act.put, List.setIfInBounds_toArray, List.set_cons_zero, List.set_cons_succ])
      | (refine sq_no rfl (by rfl) ?_; simp only [Act.put, List.setIfInBounds_toArray, List.set_cons_zero, List.set_cons_succ]))
    refine sq_end ?_
    clear q3 q4
    go_wp2_with fail
    go_ret
    exact ⟨by rw [HS2.out]; rfl, HB2.out⟩
end Go.Proofs.Ythfgccibiajneaa

/-
  A family's Place of a flow; the document's PlaceOf, Digest, Slot.
-/
namespace Go.Proofs.Ythfgccibiajneaa
open Go.RowKit
theorem i64_bounds {n : Int} (h : (Lit.int .i64 n).wf = true) : -9223372036854775808 ≤ n ∧ n ≤ 9223372036854775807 := by
  simp [Lit.wf, IntKind.min, IntKind.max, IntKind.signed, IntKind.bits] at h
  omega
/-- A place's index. -/
def idx (c : Cf) (k : Ky) (s : Nat) : Int := (hsh c.seed s (kbytes k) : Int) % c.size
def placeOf (c : Cf) (k : Ky) (s : Int) : Value := if kvld k = true ∧ 0 ≤ s ∧ s < c.stages then .tuple #[.agg #[.int .i64 s, .int .i64 (idx c k s.toNat)], .bool true] else .tuple #[.agg #[.int .i64 0, .int .i64 0], .bool false]
theorem placeOf_yes (c : Cf) (k : Ky) (s : Nat) (h1 : kvld k = true) (h3 : (s : Int) < c.stages) : placeOf c k s = .tuple #[.agg #[.int .i64 s, .int .i64 (idx c k s)], .bool true] := by
  unfold placeOf; rw [if_pos ⟨h1, Int.natCast_nonneg _, h3⟩, Int.toNat_natCast]
theorem placeOf_no (c : Cf) (k : Ky) (s : Int) (h : kvld k = false ∨ s < 0 ∨ c.stages ≤ s) : placeOf c k s = .tuple #[.agg #[.int .i64 0, .int .i64 0], .bool false] := by
  unfold placeOf
  rw [if_neg]
  rintro ⟨h1, h2, h3⟩
  rcases h with h | h | h
  · rw [h1] at h; cases h
  · omega
  · omega
set_option maxRecDepth 100000 in
set_option maxHeartbeats 4000000 in
theorem place_any (gf : Nat) (c : Cf) (k : Ky) (s : Int) (w : World) (h : At w gf 139 (fc c)) (hst : c.stages ≤ 4) (hsz : 1 ≤ c.size) :
    Calls Try.prog 18 #[.pointer (some ⟨gf, 0, none⟩), .agg (kc k), .int .i64 s] w fun e w' => e = .returned (placeOf c k s) ∧ Below w.heap.size w w' := by
  have H := Lib.hid h
  clear h
  have fin : ∀ (w1 : World) (x y : Int), At w1 (w.heap.size + 1) 41 #[.int .i64 x, .int .i64 y] → (loadVar 41 ⟨w.heap.size + 1, 0, none⟩).run Try.prog w1 = .ok (.agg #[.int .i64 x, .int .i64 y]) w1 := fun w1 x y h => run_loadVar_row w1 (w.heap.size + 1) 41 41 _ (0, 0) _ h Try.underlying41 rfl (by kernel_rfl)
  have hcase : kvld k = false ∨ (kvld k = true ∧ s < 0) ∨ (kvld k = true ∧ 0 ≤ s ∧ c.stages ≤ s) ∨ (kvld k = true ∧ 0 ≤ s ∧ s < c.stages) := by
    cases kvld k <;> simp <;> omega
  rcases hcase with hv | ⟨hv, hs⟩ | ⟨hv, hs, hs2⟩ | ⟨hv, hs, hs2⟩
  · have HS := Lib.hid (placeOf_no c k s (.inl hv))
    go_enter Try.func18, Try.ntmps18
    go_wp2_with fail
    refine (may_any gf k _).mono ?_
    rintro e w1 ⟨rfl, hb⟩
    rw [hv]
    have hA := (show At ((w.alloc (.cells (kc k) 31)).alloc (.cells #[.int .i64 0, .int .i64 0] 41)) (w.heap.size + 1) 41 #[.int .i64 0, .int .i64 0] from at_new _ _ _ _ (by simp)).below hb (by simp)
    have hF := (((H.out.alloc (.cells (kc k) 31)).alloc (.cells #[.int .i64 0, .int .i64 0] 41)).below hb (by have := H.out.lt; simp; omega))
    have hfl := hF.lt
    have hf2 := hF.cell 0
    rw [fc_get c 0 (by omega), cl_head c 0 (by omega)] at hf2
    simp only [Cf.head, List.getElem?_cons_zero] at hf2
    have c0 := hA.cell 0
    have c1 := hA.cell 1
    have f0 := hA.frozen 0
    have f1 := hA.frozen 1
    simp only [List.getElem?_toArray, List.getElem?_cons_zero, List.getElem?_cons_succ] at c0 c1
    have HB := Lib.hid (step_below (((Below.refl _ w).alloc (Nat.le_refl _) _).alloc (by simp) _) hb)
    have HA := Lib.hid hA
    clear hb hA hF
    go_wp2_with fail
    have hA2 : At ((w1.setCell ⟨w.heap.size + 1, 0, none⟩ (.int .i64 0)).setCell ⟨w.heap.size + 1, 1, none⟩ (.int .i64 0)) (w.heap.size + 1) 41 #[.int .i64 0, .int .i64 0] := by simpa using (HA.out.set 0 (.int .i64 0)).set 1 (.int .i64 0)
    have hl := fin _ _ _ hA2
    exact bodyPost_ret (v := .tuple #[.agg #[.int .i64 0, .int .i64 0], .bool false]) (by simp [results, Try.results18, asAddr, hl]) rfl ⟨by rw [HS.out], (HB.out.setCell (p := ⟨w.heap.size + 1, 0, none⟩) (show w.heap.size ≤ w.heap.size + 1 by omega) _).setCell (p := ⟨w.heap.size + 1, 1, none⟩) (show w.heap.size ≤ w.heap.size + 1 by omega) _⟩
  · have HS := Lib.hid (placeOf_no c k s (.inr (.inl hs)))
    go_enter Try.func18, Try.ntmps18
    go_wp2_with fail
    refine (may_any gf k _).mono ?_
    rintro e w1 ⟨rfl, hb⟩
    rw [hv]
    have hA := (show At ((w.alloc (.cells (kc k) 31)).alloc (.cells #[.int .i64 0, .int .i64 0] 41)) (w.heap.size + 1) 41 #[.int .i64 0, .int .i64 0] from at_new _ _ _ _ (by simp)).below hb (by simp)
    have hF := (((H.out.alloc (.cells (kc k) 31)).alloc (.cells #[.int .i64 0, .int .i64 0] 41)).below hb (by have := H.out.lt; simp; omega))
    have hfl := hF.lt
    have hf2 := hF.cell 0
    rw [fc_get c 0 (by omega), cl_head c 0 (by omega)] at hf2
    simp only [Cf.head, List.getElem?_cons_zero] at hf2
    have c0 := hA.cell 0
    have c1 := hA.cell 1
    have f0 := hA.frozen 0
    have f1 := hA.frozen 1
    simp only [List.getElem?_toArray, List.getElem?_cons_zero, List.getElem?_cons_succ] at c0 c1
    have HB := Lib.hid (step_below (((Below.refl _ w).alloc (Nat.le_refl _) _).alloc (by simp) _) hb)
    have HA := Lib.hid hA
    clear hb hA hF
    go_wp2_with fail
    have hA2 : At ((w1.setCell ⟨w.heap.size + 1, 0, none⟩ (.int .i64 0)).setCell ⟨w.heap.size + 1, 1, none⟩ (.int .i64 0)) (w.heap.size + 1) 41 #[.int .i64 0, .int .i64 0] := by simpa using (HA.out.set 0 (.int .i64 0)).set 1 (.int .i64 0)
    have hl := fin _ _ _ hA2
    exact bodyPost_ret (v := .tuple #[.agg #[.int .i64 0, .int .i64 0], .bool false]) (by simp [results, Try.results18, asAddr, hl]) rfl ⟨by rw [HS.out], (HB.out.setCell (p := ⟨w.heap.size + 1, 0, none⟩) (show w.heap.size ≤ w.heap.size + 1 by omega) _).setCell (p := ⟨w.heap.size + 1, 1, none⟩) (show w.heap.size ≤ w.heap.size + 1 by omega) _⟩
  · have HS := Lib.hid (placeOf_no c k s (.inr (.inr hs2)))
    go_enter Try.func18, Try.ntmps18
    go_wp2_with fail
    refine (may_any gf k _).mono ?_
    rintro e w1 ⟨rfl, hb⟩
    rw [hv]
    have hA := (show At ((w.alloc (.cells (kc k) 31)).alloc (.cells #[.int .i64 0, .int .i64 0] 41)) (w.heap.size + 1) 41 #[.int .i64 0, .int .i64 0] from at_new _ _ _ _ (by simp)).below hb (by simp)
    have hF := (((H.out.alloc (.cells (kc k) 31)).alloc (.cells #[.int .i64 0, .int .i64 0] 41)).below hb (by have := H.out.lt; simp; omega))
    have hfl := hF.lt
    have hf2 := hF.cell 0
    rw [fc_get c 0 (by omega), cl_head c 0 (by omega)] at hf2
    simp only [Cf.head, List.getElem?_cons_zero] at hf2
    have c0 := hA.cell 0
    have c1 := hA.cell 1
    have f0 := hA.frozen 0
    have f1 := hA.frozen 1
    simp only [List.getElem?_toArray, List.getElem?_cons_zero, List.getElem?_cons_succ] at c0 c1
    have HB := Lib.hid (step_below (((Below.refl _ w).alloc (Nat.le_refl _) _).alloc (by simp) _) hb)
    have HA := Lib.hid hA
    clear hb hA hF
    go_wp2_with fail
    have hA2 : At ((w1.setCell ⟨w.heap.size + 1, 0, none⟩ (.int .i64 0)).setCell ⟨w.heap.size + 1, 1, none⟩ (.int .i64 0)) (w.heap.size + 1) 41 #[.int .i64 0, .int .i64 0] := by simpa using (HA.out.set 0 (.int .i64 0)).set 1 (.int .i64 0)
    have hl := fin _ _ _ hA2
    exact bodyPost_ret (v := .tuple #[.agg #[.int .i64 0, .int .i64 0], .bool false]) (by simp [results, Try.results18, asAddr, hl]) rfl ⟨by rw [HS.out], (HB.out.setCell (p := ⟨w.heap.size + 1, 0, none⟩) (show w.heap.size ≤ w.heap.size + 1 by omega) _).setCell (p := ⟨w.heap.size + 1, 1, none⟩) (show w.heap.size ≤ w.heap.size + 1 by omega) _⟩
  · obtain ⟨n, rfl⟩ : ∃ n : Nat, s = n := ⟨s.toNat, by omega⟩
    have HS := Lib.hid (placeOf_yes c k n hv hs2)
    have hix : ((hsh c.seed n (kbytes k) : Nat) : Int).tmod c.size = idx c k n := Int.tmod_eq_emod_of_nonneg (Int.natCast_nonneg _)
    have hz : ¬ c.size = 0 := by omega
    go_enter Try.func18, Try.ntmps18
    go_wp2_with fail
    refine (may_any gf k _).mono ?_
    rintro e w1 ⟨rfl, hb⟩
    rw [hv]
    have hA := (show At ((w.alloc (.cells (kc k) 31)).alloc (.cells #[.int .i64 0, .int .i64 0] 41)) (w.heap.size + 1) 41 #[.int .i64 0, .int .i64 0] from at_new _ _ _ _ (by simp)).below hb (by simp)
    have hKk := ((At.new w 31 (kc k)).alloc (.cells #[.int .i64 0, .int .i64 0] 41)).below hb (by simp; omega)
    have hF := (((H.out.alloc (.cells (kc k) 31)).alloc (.cells #[.int .i64 0, .int .i64 0] 41)).below hb (by have := H.out.lt; simp; omega))
    have HB := Lib.hid (step_below (((Below.refl _ w).alloc (Nat.le_refl _) _).alloc (by simp) _) hb)
    obtain ⟨g, hg⟩ : ∃ g, g = w.heap.size := ⟨_, rfl⟩
    obtain ⟨r, hr0⟩ : ∃ r, r = w.heap.size + 1 := ⟨_, rfl⟩
    have hgr : ¬ g = r := by omega
    have hfr : ¬ gf = r := by have := H.out.lt; omega
    have hwr : w.heap.size ≤ r := by omega
    rw [← hr0] at hA
    rw [← hg] at hKk
    simp only [← hr0] at fin
    rw [← hr0, ← hg]
    clear hr0 hg
    have hr := hKk.row
    have ho := hKk.open
    have hl := hKk.lt
    have hrl := hA.lt
    have hfl := hF.lt
    have hf2 := hF.cell 0
    have hf3 := hF.cell 1
    rw [fc_get c 0 (by omega), cl_head c 0 (by omega)] at hf2
    rw [fc_get c 1 (by omega), cl_head c 1 (by omega)] at hf3
    simp only [Cf.head, List.getElem?_cons_zero, List.getElem?_cons_succ] at hf2 hf3
    have HA := Lib.hid hA
    have HF := Lib.hid hF
    clear hb hA hF hKk
    go_wp2_with fail
    refine region_sq (fun i => i = r) [(0, true), (1, true), (2, true), (3, true), (5, true), (6, true), (7, true), (8, true), (9, true), (4, false), (10, true), (11, true), (12, false), (13, true)] (by kernel_rfl) (by kernel_rfl) (fun _ _ d _ _ h => by cases d <;> exact h) ?_
    repeat (first
      | (refine sq_yes rfl (by rfl) (fun w' hM => by ((try replace hM := hM.of_drew); obtain ⟨hR1, hR2, hR3⟩ := hM.rules; clear hM; go_simp; with_reducible rfl)) ?_; simp only [Act.put, List.setIfInBounds_toArray, List.set_cons_zero, List.set_cons_succ])
      | (refine sq_no rfl (by rfl) ?_; simp only [Act.put, List.setIfInBounds_toArray, List.set_cons_zero, List.set_cons_succ]))
    refine sq_do_yes rfl (by rfl) (fun K hK => ?_)
    go_wp2_with fail
    refine (hash_any gf c k n (by omega) _ HF.out.drew).mono ?_
    rintro e w2 ⟨rfl, hb2⟩
    have HB2 := Lib.hid (step_below HB.out.drew hb2)
    have hA2 := HA.out.drew.below hb2 HA.out.lt
    have c0 := hA2.cell 0
    have c1 := hA2.cell 1
    have f0 := hA2.frozen 0
    have f1 := hA2.frozen 1
    simp only [List.getElem?_toArray, List.getElem?_cons_zero, List.getElem?_cons_succ] at c0 c1
    have HA2 := Lib.hid hA2
    clear hA2
    go_wp2_with fail
    refine ⟨Mod.of_below hb2, ?_⟩
    clear hb2
    repeat (first
      | (refine sq_yes rfl (by rfl) (fun w' hM => by ((try replace hM := hM.of_drew); obtain ⟨hR1, hR2, hR3⟩ := hM.rules; clear hM; go_simp; with_reducible rfl)) ?_; simp only [Act.put, List.setIfInBounds_toArray, List.set_cons_zero, List.set_cons_succ])
      | (refine sq_no rfl (by rfl) ?_; simp only [Act.put, List.setIfInBounds_toArray, List.set_cons_zero, List.set_cons_succ]))
    refine sq_do_yes rfl (by rfl) (fun K hK => ?_)
    go_wp2_with fail
    refine ⟨((Mod.refl (fun i => i = r) w2).setCell ⟨r, 0, none⟩ _ (fun _ => rfl)).setCell ⟨r, 1, none⟩ _ (fun _ => rfl), ?_⟩
    repeat (first
      | (refine sq_yes rfl (by rfl) (fun w' hM => by ((try replace hM := hM.of_drew); obtain ⟨hR1, hR2, hR3⟩ := hM.rules; clear hM; go_simp; with_reducible rfl)) ?_; simp only [Act.put, List.setIfInBounds_toArray, List.set_cons_zero, List.set_cons_succ])
      | (refine sq_no rfl (by rfl) ?_; simp only [Act.put, List.setIfInBounds_toArray, List.set_cons_zero, List.set_cons_succ]))
    refine sq_end ?_
    go_wp2_with fail
    have hA3 : At ((w2.setCell ⟨r, 0, none⟩ (.int .i64 n)).setCell ⟨r, 1, none⟩ (.int .i64 (idx c k n))) r 41 #[.int .i64 n, .int .i64 (idx c k n)] := by simpa using (HA2.out.set 0 (.int .i64 n)).set 1 (.int .i64 (idx c k n))
    have hl3 := fin _ _ _ hA3
    exact bodyPost_ret (v := .tuple #[.agg #[.int .i64 n, .int .i64 (idx c k n)], .bool true]) (by simp [results, Try.results18, asAddr, hl3]) rfl ⟨by rw [HS.out], (HB2.out.setCell (p := ⟨r, 0, none⟩) hwr _).setCell (p := ⟨r, 1, none⟩) hwr _⟩
set_option maxRecDepth 100000 in
set_option maxHeartbeats 2000000 in
theorem refSlot_any (c : Cf) (k : Ky) (n : Int) (w : World) (hn2 : (Lit.int .i64 n).wf = true) :
    Calls Try.prog 27 #[.agg (cc c), .agg (kc k), .int .i64 n] w fun e w' => e = .returned (.int .i64 (slotOf c k n)) ∧ Below w.heap.size w w' := by
  have hml := hsh_lt c.seed 32 (kbytes k)
  have hnb : n ≤ 9223372036854775807 := by
    have := (i64_bounds hn2).2
    omega
  clear hn2
  by_cases hn : 1 ≤ n
  · cases hv : kvld k
    · have HS := Lib.hid (slotOf_no c k n (.inl hv))
      go_enter Try.func27, Try.ntmps27
      go_wp2_with fail
      refine (refKvalid_any k _).mono ?_
      rintro e w1 ⟨rfl, hb⟩
      rw [hv]
      go_wp2_with fail
      go_ret
      exact ⟨by rw [HS.out]; rfl, step_below (((Below.refl _ w).alloc (Nat.le_refl _) _).alloc (by simp) _) hb⟩
    · have HS := Lib.hid (slotOf_yes c k n hv hn)
      go_enter Try.func27, Try.ntmps27
      go_wp2_with fail
      refine (refKvalid_any k _).mono ?_
      rintro e w1 ⟨rfl, hb⟩
      rw [hv]
      have hA := ((At.new w 27 (cc c)).alloc (.cells (kc k) 31)).below hb (by simp; omega)
      have hKk := (show At ((w.alloc (.cells (cc c) 27)).alloc (.cells (kc k) 31)) (w.heap.size + 1) 31 (kc k) from at_new _ _ _ _ (by simp)).below hb (by simp)
      have HB := Lib.hid (step_below (((Below.refl _ w).alloc (Nat.le_refl _) _).alloc (by simp) _) hb)
      have hr := hA.row
      have ho := hA.open
      have hl := hA.lt
      have hr2 := hKk.row
      have ho2 := hKk.open
      have hl2 := hKk.lt
      clear hA hb hKk
      go_wp2_with fail
      refine (refHash_any c k 32 (by omega) _).mono ?_
      rintro e w2 ⟨rfl, hb2⟩
      have HB2 := Lib.hid (step_below HB.out hb2)
      clear hb2
      have hu : (((hsh c.seed 32 (kbytes k) : Nat) : Int)).tmod n = (hsh c.seed 32 (kbytes k) : Int) % n := Int.tmod_eq_emod_of_nonneg (Int.natCast_nonneg _)
      have hle : (hsh c.seed 32 (kbytes k) : Int) % n < n := Int.emod_lt_of_pos _ (by omega)
      have hge : 0 ≤ (hsh c.seed 32 (kbytes k) : Int) % n := Int.emod_nonneg _ (by omega)
      go_wp2_with fail
      go_ret
      exact ⟨by rw [HS.out]; rfl, HB2.out⟩
  · have HS := Lib.hid (slotOf_no c k n (.inr hn))
    go_enter Try.func27, Try.ntmps27
    go_wp2_with fail
    go_ret
    exact ⟨by rw [HS.out]; rfl, ((Below.refl _ w).alloc (Nat.le_refl _) _).alloc (by simp) _⟩
theorem refDigest_facts (d D m : Nat) (hD : D = 2 ^ d) (h1 : 1 ≤ d) (h2 : d ≤ 16) (hm : m < 4294967296) :
    IntKind.u32.wrap ((2 : Int) ^ d) = (D : Int) ∧ IntKind.u32.wrap ((D : Int) - 1) = ((D - 1 : Nat) : Int) ∧ bits .and .u32 (m : Int) ((D - 1 : Nat) : Int) = ((m % D : Nat) : Int) ∧ IntKind.u16.wrap ((m : Int) % (D : Int)) = ((m % D : Nat) : Int) ∧ m % D < 65536 := by
  have hb : 2 ≤ D ∧ D ≤ 65536 := by
    rw [hD]
    exact ⟨Nat.pow_le_pow_right (n := 2) (by omega) h1, Nat.pow_le_pow_right (n := 2) (by omega) h2⟩
  have hp : ((2 : Int) ^ d) = (D : Int) := by rw [hD]; simp
  have hlt := Nat.mod_lt m (show D > 0 by omega)
  refine ⟨by rw [hp, IntKind.wrap_u32]; omega, by rw [IntKind.wrap_u32]; omega, ?_, by rw [← Int.natCast_emod, IntKind.wrap_u16]; omega, by omega⟩
  rw [u32_and_nat m (D - 1) (by omega) (by omega), hD, Nat.and_two_pow_sub_one_eq_mod]
set_option maxRecDepth 100000 in
set_option maxHeartbeats 4000000 in
theorem refDigest_any (c : Cf) (k : Ky) (w : World) (h1 : 1 ≤ c.digest) (h2 : c.digest ≤ 16) :
    Calls Try.prog 22 #[.agg (cc c), .agg (kc k)] w fun e w' => e = .returned (.int .u16 (digOf c k)) ∧ Below w.heap.size w w' := by
  have hml := hsh_lt c.seed 8 (kbytes k)
  cases hv : kvld k
  · have HS := Lib.hid (digOf_no c k hv)
    go_enter Try.func22, Try.ntmps22
    go_wp2_with fail
    refine (refKvalid_any k _).mono ?_
    rintro e w1 ⟨rfl, hb⟩
    rw [hv]
    go_wp2_with fail
    go_ret
    exact ⟨by rw [HS.out]; rfl, step_below (((Below.refl _ w).alloc (Nat.le_refl _) _).alloc (by simp) _) hb⟩
  · have HS := Lib.hid (digOf_yes c k hv)
    go_enter Try.func22, Try.ntmps22
    go_wp2_with fail
    refine (refKvalid_any k _).mono ?_
    rintro e w1 ⟨rfl, hb⟩
    rw [hv]
    have hA := ((At.new w 27 (cc c)).alloc (.cells (kc k) 31)).below hb (by simp; omega)
    have hKk := (show At ((w.alloc (.cells (cc c) 27)).alloc (.cells (kc k) 31)) (w.heap.size + 1) 31 (kc k) from at_new _ _ _ _ (by simp)).below hb (by simp)
    have HB := Lib.hid (step_below (((Below.refl _ w).alloc (Nat.le_refl _) _).alloc (by simp) _) hb)
    obtain ⟨g, hg⟩ : ∃ g, g = w.heap.size := ⟨_, rfl⟩
    obtain ⟨g2, hg2⟩ : ∃ g, g = w.heap.size + 1 := ⟨_, rfl⟩
    rw [← hg] at hA
    rw [← hg2] at hKk
    rw [← hg2, ← hg]
    have hr := hA.row
    have ho := hA.open
    have hl := hA.lt
    have hr2 := hKk.row
    have ho2 := hKk.open
    have hl2 := hKk.lt
    obtain ⟨d, hd⟩ : ∃ d : Nat, c.digest = d := ⟨c.digest.toNat, by omega⟩
    have hf2 := hA.cell 2
    rw [cl_head c 2 (by omega)] at hf2
    simp only [Cf.head, List.getElem?_cons_zero, List.getElem?_cons_succ, hd] at hf2
    rw [hd] at HS h1 h2
    rw [Int.toNat_natCast] at HS
    clear hA hb hKk hg hg2 hd
    obtain ⟨D, hD⟩ : ∃ D : Nat, D = 2 ^ d := ⟨_, rfl⟩
    obtain ⟨q1, q2, q3, q4, q5⟩ := refDigest_facts d D (hsh c.seed 8 (kbytes k)) hD (by omega) (by omega) hml
    have HS2 := Lib.hid (show digOf c k = hsh c.seed 8 (kbytes k) % D by rw [HS.out, hD])
    have q0 : IntKind.u64.wrap (d : Int) = (d : Int) := by rw [IntKind.wrap_u64]; omega
    have hmin : min d 32 = d := by omega
    clear hD
    go_wp2_with fail
    refine region_sq (fun _ => False) [(0, true), (1, true), (3, true), (4, true), (5, true), (6, true), (7, true), (2, false), (8, true), (9, true), (10, true)] (by kernel_rfl) (by kernel_rfl) (fun _ _ d _ _ h => by cases d <;> exact h) ?_
    repeat (first
      | (refine sq_yes rfl (by rfl) (fun w' hM => by ((try replace hM := hM.of_drew); obtain ⟨hR1, hR2, hR3⟩ := hM.rules; clear hM; go_simp; with_reducible rfl)) ?_; simp only [Act.put, List.setIfInBounds_toArray, List.set_cons_zero, List.set_cons_succ])
      | (refine sq_no rfl (by rfl) ?_; simp only [Act.put, List.setIfInBounds_toArray, List.set_cons_zero, List.set_cons_succ]))
    clear q1 q2 q0 hmin
    refine sq_do_yes rfl (by rfl) (fun K hK => ?_)
    go_wp2_with fail
    refine (refHash_any c k 8 (by omega) _).mono ?_
    rintro e w2 ⟨rfl, hb2⟩
    have HB2 := Lib.hid (step_below HB.out.drew hb2)
    go_wp2_with fail
    refine ⟨Mod.of_below hb2, ?_⟩
    clear hb2
    repeat (first
      | (refine sq_yes rfl (by rfl) (fun w' hM => by ((try replace hM := hM.of_drew); obtain ⟨hR1, hR2, hR3⟩ := hM.rules; clear hM; go_simp; with_reducible rfl)) ?_; simp only [Act.put, List.setIfInBounds_toArray, List.set_cons_zero, List.set_cons_succ])
      | (refine sq_no rfl (by rfl) ?_; simp only [Act.put, List.setIfInBounds_toArray, List.set_cons_zero, List.set_cons_succ]))
    refine sq_end ?_
    clear q3 q4
    go_wp2_with fail
    go_ret
    exact ⟨by rw [HS2.out]; rfl, HB2.out⟩
set_option maxRecDepth 100000 in
set_option maxHeartbeats 4000000 in
theorem refPlace_any (c : Cf) (k : Ky) (n : Nat) (hn : n ≤ 100) (hsz : 1 ≤ c.size) (hsz2 : c.size ≤ 1000000) (w : World) :
    Calls Try.prog 20 #[.agg (cc c), .agg (kc k), .int .i64 n] w fun e w' => e = .returned (.agg #[.int .i64 n, .int .i64 (idx c k n)]) ∧ Below w.heap.size w w' := by
  have fin : ∀ (w1 : World) (r : Nat) (x y : Int), At w1 r 41 #[.int .i64 x, .int .i64 y] → (loadVar 41 ⟨r, 0, none⟩).run Try.prog w1 = .ok (.agg #[.int .i64 x, .int .i64 y]) w1 := fun w1 r x y h => run_loadVar_row w1 r 41 41 _ (0, 0) _ h Try.underlying41 rfl (by kernel_rfl)
  have FIN := Lib.hid fin
  clear fin
  have hml := hsh_lt c.seed n (kbytes k)
  have hix : ((hsh c.seed n (kbytes k) : Nat) : Int).tmod c.size = idx c k n := Int.tmod_eq_emod_of_nonneg (Int.natCast_nonneg _)
  have hz : ¬ c.size = 0 := by omega
  have q0 : IntKind.i64.wrap ((hsh c.seed n (kbytes k) : Nat) : Int) = ((hsh c.seed n (kbytes k) : Nat) : Int) := by rw [IntKind.wrap_i64]; omega
  go_enter Try.func20, Try.ntmps20
  go_wp2_with fail
  have hA := ((At.new w 27 (cc c)).alloc (.cells (kc k) 31)).alloc (.cells #[.int .i64 0, .int .i64 0] 41)
  have hKk := (show At ((w.alloc (.cells (cc c) 27)).alloc (.cells (kc k) 31)) (w.heap.size + 1) 31 (kc k) from at_new _ _ _ _ (by simp)).alloc (.cells #[.int .i64 0, .int .i64 0] 41)
  have hP := (show At (((w.alloc (.cells (cc c) 27)).alloc (.cells (kc k) 31)).alloc (.cells #[.int .i64 0, .int .i64 0] 41)) (w.heap.size + 1 + 1) 41 #[.int .i64 0, .int .i64 0] from at_new _ _ _ _ (by simp))
  obtain ⟨w1, hw1⟩ : ∃ w1, w1 = ((w.alloc (.cells (cc c) 27)).alloc (.cells (kc k) 31)).alloc (.cells #[.int .i64 0, .int .i64 0] 41) := ⟨_, rfl⟩
  have HB := Lib.hid (show Below w.heap.size w w1 by rw [hw1]; exact (((Below.refl _ w).alloc (Nat.le_refl _) _).alloc (by simp) _).alloc (by simp; omega) _)
  rw [← hw1] at hA hKk hP
  rw [← hw1]
  obtain ⟨g, hg⟩ : ∃ g, g = w.heap.size := ⟨_, rfl⟩
  obtain ⟨g2, hg2⟩ : ∃ g, g = w.heap.size + 1 := ⟨_, rfl⟩
  obtain ⟨r, hr0⟩ : ∃ g, g = w.heap.size + 1 + 1 := ⟨_, rfl⟩
  have hgr : ¬ g = r := by omega
  have hgr2 : ¬ g2 = r := by omega
  have hwr : w.heap.size ≤ r := by omega
  rw [← hr0] at hP
  rw [← hg2] at hKk
  rw [← hg] at hA
  rw [← hr0, ← hg2, ← hg]
  have hr := hA.row
  have ho := hA.open
  have hl := hA.lt
  have hr2 := hKk.row
  have ho2 := hKk.open
  have hl2 := hKk.lt
  have hrl := hP.lt
  have hf2 := hA.cell 1
  rw [cl_head c 1 (by omega)] at hf2
  simp only [Cf.head, List.getElem?_cons_zero, List.getElem?_cons_succ] at hf2
  have HP := Lib.hid hP
  clear hw1 hg hg2 hr0 hA hKk hP
  go_wp2_with fail
  refine region_sq (fun i => i = r) [(0, true), (1, true), (2, true), (3, true), (6, true), (7, true), (4, false), (5, true), (8, true), (9, true), (10, false)] (by kernel_rfl) (by kernel_rfl) (fun _ _ d _ _ h => by cases d <;> exact h) ?_
  repeat (first
    | (refine sq_yes rfl (by rfl) (fun w' hM => by ((try replace hM := hM.of_drew); obtain ⟨hR1, hR2, hR3⟩ := hM.rules; clear hM; go_simp; with_reducible rfl)) ?_; simp only [Act.put, List.setIfInBounds_toArray, List.set_cons_zero, List.set_cons_succ])
    | (refine sq_no rfl (by rfl) ?_; simp only [Act.put, List.setIfInBounds_toArray, List.set_cons_zero, List.set_cons_succ]))
  refine sq_do_yes rfl (by rfl) (fun K hK => ?_)
  go_wp2_with fail
  refine (refHash_any c k n hn _).mono ?_
  rintro e w2 ⟨rfl, hb2⟩
  have HB2 := Lib.hid (step_below HB.out.drew hb2)
  have hA2 := HP.out.drew.below hb2 HP.out.lt
  have c0 := hA2.cell 0
  have c1 := hA2.cell 1
  have f0 := hA2.frozen 0
  have f1 := hA2.frozen 1
  simp only [List.getElem?_toArray, List.getElem?_cons_zero, List.getElem?_cons_succ] at c0 c1
  have HA2 := Lib.hid hA2
  clear hA2
  go_wp2_with fail
  refine ⟨Mod.of_below hb2, ?_⟩
  clear hb2
  repeat (first
    | (refine sq_yes rfl (by rfl) (fun w' hM => by ((try replace hM := hM.of_drew); obtain ⟨hR1, hR2, hR3⟩ := hM.rules; clear hM; go_simp; with_reducible rfl)) ?_; simp only [Act.put, List.setIfInBounds_toArray, List.set_cons_zero, List.set_cons_succ])
    | (refine sq_no rfl (by rfl) ?_; simp only [Act.put, List.setIfInBounds_toArray, List.set_cons_zero, List.set_cons_succ]))
  clear q0
  refine sq_do_yes rfl (by rfl) (fun K hK => ?_)
  go_wp2_with fail
  refine ⟨((Mod.refl (fun i => i = r) w2).setCell ⟨r, 0, none⟩ _ (fun _ => rfl)).setCell ⟨r, 1, none⟩ _ (fun _ => rfl), ?_⟩
  refine sq_end ?_
  go_wp2_with fail
  have hA3 : At ((w2.setCell ⟨r, 0, none⟩ (.int .i64 n)).setCell ⟨r, 1, none⟩ (.int .i64 (idx c k n))) r 41 #[.int .i64 n, .int .i64 (idx c k n)] := by simpa using (HA2.out.set 0 (.int .i64 n)).set 1 (.int .i64 (idx c k n))
  have hl3 := FIN.out _ _ _ _ hA3
  exact bodyPost_ret (v := .agg #[.int .i64 n, .int .i64 (idx c k n)]) (by simp [results, Try.results20, asAddr, hl3]) rfl ⟨rfl, (HB2.out.setCell (p := ⟨r, 0, none⟩) hwr _).setCell (p := ⟨r, 1, none⟩) hwr _⟩
end Go.Proofs.Ythfgccibiajneaa
