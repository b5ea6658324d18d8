/-
  A family's hash of a flow, and the document's.
-/
import Derived.Test.YthfgccibiajneaaFamHash
namespace Go.Proofs.Ythfgccibiajneaa
open Go.RowKit
theorem hsum (s n : Nat) : (((s : Int) + 7919 * (n : Int)) % 4294967296).toNat = (s + 7919 * n) % 4294967296 := by omega
set_option maxRecDepth 100000 in
set_option maxHeartbeats 4000000 in
theorem hash_any (gf : Nat) (c : Cf) (k : Ky) (n : Nat) (hn : n ≤ 100) (w : World) (h : At w gf 139 (fc c)) :
    Calls Try.prog 86 #[.pointer (some ⟨gf, 0, none⟩), .agg (kc k), .int .i64 n] w fun e w' => e = .returned (.int .i64 (hsh c.seed n (kbytes k) : Nat)) ∧ Below w.heap.size w w' := by
  have hl := h.lt
  have hl' : gf < w.heap.size + 1 := by omega
  have hr := h.row
  have ho := h.open
  have h47 := h.cell 47
  rw [fc_get c 47 (by omega), cl_seed] at h47
  have hseed := c.hseed
  have HSUM := Lib.hid (hsum c.seed n)
  have HP := Lib.hid (poly_lt (n % 4))
  have HKL := Lib.hid (kbytes_length k)
  have HKB := Lib.hid (kbytes_lt k)
  have hc : ((n : Int).tmod 4 = 0 ∧ n % 4 = 0) ∨ ((n : Int).tmod 4 = 1 ∧ n % 4 = 1) ∨ ((n : Int).tmod 4 = 2 ∧ n % 4 = 2) ∨ ((n : Int).tmod 4 = 3 ∧ n % 4 = 3) := by
    rw [Int.tmod_eq_emod_of_nonneg (Int.natCast_nonneg n)]; omega
  have HH := Lib.hid (show hsh c.seed n (kbytes k) = mixN (crc (poly (n % 4)) ((c.seed + 7919 * n) % 4294967296) (kbytes k)) from rfl)
  clear h
  rcases hc with ⟨hq, hq2⟩ | ⟨hq, hq2⟩ | ⟨hq, hq2⟩ | ⟨hq, hq2⟩ <;>
  · rw [hq2] at HH HP
    clear hq2
    have w1 : IntKind.u32.wrap (7919 * (n : Int)) = 7919 * (n : Int) := by rw [IntKind.wrap_u32]; omega
    have w2 : IntKind.u32.wrap ((c.seed : Int) + 7919 * (n : Int)) = ((c.seed : Int) + 7919 * (n : Int)) % 4294967296 := IntKind.wrap_u32 _
    have w3 : IntKind.u32.wrap (n : Int) = (n : Int) := by rw [IntKind.wrap_u32]; omega
    go_enter Try.func86, Try.ntmps86
    go_wp2_with fail
    refine region_sq (fun _ => False) [(0, true), (1, true), (2, true), (3, true), (4, true), (5, true), (6, true), (7, true), (8, true), (9, true), (10, true), (11, true), (12, true), (13, true), (14, true), (15, true), (16, true), (17, false), (18, false), (19, false), (20, true), (21, true)] (by kernel_rfl) (by kernel_rfl) (fun _ _ d _ _ h => by cases d <;> exact h) ?_
    repeat (first
      | (refine sq_yes rfl (by rfl) (fun w' hM => by ((try replace hM := hM.of_drew); obtain ⟨hR1, hR2, hR3⟩ := hM.rules; clear hM; go_simp; with_reducible rfl)) ?_; simp only [Act.put, List.setIfInBounds_toArray, List.set_cons_zero, List.set_cons_succ])
      | (refine sq_no rfl (by rfl) ?_; simp only [Act.put, List.setIfInBounds_toArray, List.set_cons_zero, List.set_cons_succ]))
    clear w1 w2 w3 hr ho h47
    refine sq_do_yes rfl (by rfl) (fun K hK => ?_)
    go_wp2_with fail
    refine (kbytes_any k _).mono ?_
    rintro e w1 ⟨v, rfl, ho1, hb1⟩
    obtain ⟨a1, n1, c1, rfl, hn1, hy1, _⟩ := ho1.parts
    have HY1 := Lib.hid hy1
    have hn1' : n1 ≤ 40 := by rw [hn1]; exact HKL.out
    have HB1 := Lib.hid (step_below (((Below.refl _ w).alloc (Nat.le_refl _) _).drew) hb1)
    clear ho1 hy1 hn1
    go_wp2_with fail
    refine ⟨Mod.of_below hb1, ?_⟩
    clear hb1
    refine sq_do_yes rfl (by rfl) (fun K hK => ?_)
    go_wp2_with fail
    refine (of_int _ HP.out _ (Int.emod_nonneg _ (by omega)) (Int.emod_lt_of_pos _ (by omega)) a1 n1 c1 _ _ HY1.out (by omega)).mono ?_
    rintro e w2 ⟨rfl, rfl⟩
    rw [HSUM.out]
    have hcl := crc_lt HP.out (Nat.mod_lt (c.seed + 7919 * n) (show 4294967296 > 0 by omega)) HKB.out
    generalize hm : crc _ ((c.seed + 7919 * n) % 4294967296) (kbytes k) = m at hcl ⊢
    have HH2 := Lib.hid (show hsh c.seed n (kbytes k) = mixN m by rw [HH.out, hm])
    clear hm
    go_wp2_with fail
    refine ⟨(Mod.refl _ _).alloc _, ?_⟩
    refine sq_do_yes rfl (by rfl) (fun K hK => ?_)
    go_wp2_with fail
    refine (mix_any m hcl _).mono ?_
    rintro e w3 ⟨rfl, rfl⟩
    go_wp2_with fail
    refine ⟨Mod.refl _ _, ?_⟩
    have hml := mixN_lt m
    have w4 : IntKind.i64.wrap ((mixN m : Nat) : Int) = ((mixN m : Nat) : Int) := by rw [IntKind.wrap_i64]; omega
    repeat (first
      | (refine sq_yes rfl (by rfl) (fun w' hM => by ((try replace hM := hM.of_drew); obtain ⟨hR1, hR2, hR3⟩ := hM.rules; clear hM; go_simp; with_reducible rfl)) ?_; simp only [Act.put, List.setIfInBounds_toArray, List.set_cons_zero, List.set_cons_succ])
      | (refine sq_no rfl (by rfl) ?_; simp only [Act.put, List.setIfInBounds_toArray, List.set_cons_zero, List.set_cons_succ]))
    refine sq_end ?_
    clear w4
    go_wp2_with fail
    go_ret
    exact ⟨by rw [HH2.out]; rfl, HB1.out.alloc HB1.out.size _⟩
set_option maxRecDepth 100000 in
set_option maxHeartbeats 4000000 in
theorem refHash_any (c : Cf) (k : Ky) (n : Nat) (hn : n ≤ 100) (w : World) :
    Calls Try.prog 87 #[.agg (cc c), .int .i64 n, .agg (kc k)] w fun e w' => e = .returned (.int .u32 (hsh c.seed n (kbytes k) : Nat)) ∧ Below w.heap.size w w' := by
  have hseed := c.hseed
  have HSUM := Lib.hid (hsum c.seed n)
  have HP := Lib.hid (poly_lt (n % 4))
  have HKL := Lib.hid (kbytes_length k)
  have HKB := Lib.hid (kbytes_lt k)
  have HH := Lib.hid (show hsh c.seed n (kbytes k) = mixN (crc (poly (n % 4)) ((c.seed + 7919 * n) % 4294967296) (kbytes k)) from rfl)
  have w1 : IntKind.i64.wrap (7919 * (n : Int)) = 7919 * (n : Int) := by rw [IntKind.wrap_i64]; omega
  have w2 : IntKind.u32.wrap ((c.seed : Int) + 7919 * (n : Int)) = ((c.seed : Int) + 7919 * (n : Int)) % 4294967296 := IntKind.wrap_u32 _
  have w3 : IntKind.u32.wrap (7919 * (n : Int)) = 7919 * (n : Int) := by rw [IntKind.wrap_u32]; omega
  go_enter Try.func87, Try.ntmps87
  go_wp2_with fail
  refine region_sq (fun _ => False) [(0, true), (2, true), (3, true), (4, true), (5, true), (6, true), (7, true), (8, true), (1, false), (9, false), (10, false), (11, false), (12, true)] (by kernel_rfl) (by kernel_rfl) (fun _ _ d _ _ h => by cases d <;> exact h) ?_
  repeat (first
    | (refine sq_yes rfl (by rfl) (fun w' hM => by ((try replace hM := hM.of_drew); obtain ⟨hR1, hR2, hR3⟩ := hM.rules; clear hM; go_simp; with_reducible rfl)) ?_; simp only [Act.put, List.setIfInBounds_toArray, List.set_cons_zero, List.set_cons_succ])
    | (refine sq_no rfl (by rfl) ?_; simp only [Act.put, List.setIfInBounds_toArray, List.set_cons_zero, List.set_cons_succ]))
  clear w1 w2 w3
  refine sq_do_yes rfl (by rfl) (fun K hK => ?_)
  go_wp2_with fail
  refine (refKnown_any n _).mono ?_
  rintro e w1 ⟨rfl, hb1⟩
  rw [show ((n : Int) % 4).toNat = n % 4 by omega]
  have HB1 := Lib.hid (step_below ((((Below.refl _ w).alloc (Nat.le_refl _) _).alloc (by simp) _).drew) hb1)
  go_wp2_with fail
  refine ⟨Mod.of_below hb1, ?_⟩
  clear hb1
  refine sq_do_yes rfl (by rfl) (fun K hK => ?_)
  go_wp2_with fail
  refine (refKbytes_any k _).mono ?_
  rintro e w2 ⟨v, rfl, ho2, hb2⟩
  obtain ⟨a1, n1, c1, rfl, hn1, hy1, _⟩ := ho2.parts
  have HY1 := Lib.hid hy1
  have hn1' : n1 ≤ 40 := by rw [hn1]; exact HKL.out
  have HB2 := Lib.hid (step_below HB1.out hb2)
  clear ho2 hy1 hn1
  go_wp2_with fail
  refine ⟨Mod.of_below hb2, ?_⟩
  clear hb2
  have hsum2 : ((c.seed : Int) + 7919 * (n : Int)) % 4294967296 = (((c.seed + 7919 * n) % 4294967296 : Nat) : Int) := by omega
  have hlt2 := Nat.mod_lt (c.seed + 7919 * n) (show 4294967296 > 0 by omega)
  have hcl := crc_lt HP.out hlt2 HKB.out
  have HS2 := Lib.hid hsum2
  clear hsum2
  refine sq_do_yes rfl (by rfl) (fun K hK => ?_)
  go_wp2_with fail
  rw [HS2.out]
  refine (ref_any (poly (n % 4)) HP.out _ hlt2 a1 n1 c1 _ _ HY1.out (by omega)).mono ?_
  rintro e w3 ⟨rfl, rfl⟩
  generalize hm : crc _ ((c.seed + 7919 * n) % 4294967296) (kbytes k) = m at hcl ⊢
  have HH2 := Lib.hid (show hsh c.seed n (kbytes k) = mixN m by rw [HH.out, hm])
  clear hm hlt2
  go_wp2_with fail
  refine ⟨Mod.refl _ _, ?_⟩
  refine sq_do_yes rfl (by rfl) (fun K hK => ?_)
  go_wp2_with fail
  refine (refMix_any m hcl _).mono ?_
  rintro e w3 ⟨rfl, rfl⟩
  go_wp2_with fail
  refine ⟨Mod.refl _ _, ?_⟩
  repeat (first
    | (refine sq_yes rfl (by rfl) (fun w' hM => by ((try replace hM := hM.of_drew); obtain ⟨hR1, hR2, hR3⟩ := hM.rules; clear hM; go_simp; with_reducible rfl)) ?_; simp only [Act.put, List.setIfInBounds_toArray, List.set_cons_zero, List.set_cons_succ])
    | (refine sq_no rfl (by rfl) ?_; simp only [Act.put, List.setIfInBounds_toArray, List.set_cons_zero, List.set_cons_succ]))
  refine sq_end ?_
  go_wp2_with fail
  go_ret
  exact ⟨by rw [HH2.out]; rfl, HB2.out⟩
end Go.Proofs.Ythfgccibiajneaa
