/-
  BloomOne: its walk.
-/
import Derived.Test.YtjjadakjkkmjgaaFBloomH
namespace Go.Proofs.Ytjjadakjkkmjgaa
open Go.RowKit
theorem one_ins : ∀ (L : List Nat), (∀ p ∈ L, p = 0) → insAll [1] L = [1]
  | [], _ => rfl
  | p :: r, h => by
    obtain rfl : p = 0 := h p (by simp)
    show insAll (insW [1] 0) r = [1]
    rw [show insW [1] 0 = [1] from by decide]
    exact one_ins r (fun q hq => h q (by simp [hq]))
theorem one_facts (L : List Nat) (h : ∀ p ∈ L, p = 0) (hl : L ≠ []) : insAll [0] L = [1] ∧ insAll [1] L = [1] ∧ (!(L.all (bt [0]))) = true ∧ (!(L.all (bt [1]))) = false ∧ hasB [0] L = false ∧ hasB [1] L = true := by
  cases L with
  | nil => exact absurd rfl hl
  | cons p r =>
    obtain rfl : p = 0 := h p (by simp)
    have hr : ∀ q ∈ r, q = 0 := fun q hq => h q (by simp [hq])
    have b0 : bt [0] 0 = false := by decide
    have b1 : bt [1] 0 = true := by decide
    have ha : r.all (bt [1]) = true := by
      rw [List.all_eq_true]
      intro q hq
      rw [hr q hq, b1]
    refine ⟨?_, one_ins _ h, by simp [b0], by simp [b1, ha], by simp [hasB, b0], by simp [hasB, b1, ha]⟩
    show insAll (insW [0] 0) r = [1]
    rw [show insW [0] 0 = [1] from by decide]
    exact one_ins r hr
theorem pN_one (c : Cf) (k : Ky) (hk : kvld k = true) (h : 1 ≤ c.hashes) : (∀ p ∈ pN c k 1, p = 0) ∧ pN c k 1 ≠ [] := by
  refine ⟨fun p hp => by have := pN_lt c k 1 (by omega) p hp; omega, fun he => ?_⟩
  have h1 : (pN c k 1).length = c.hashes.toNat := by unfold pN; rw [List.length_map, bitsOf_length c k hk]
  rw [he] at h1
  simp at h1
  omega
theorem w1_eq : List.replicate 1 0 = [0] := rfl
theorem ints_one {w : World} {g : Nat} {t : TypeId} {x : Int} (h : At w g t #[.int .i64 x]) : Ints w (some ⟨g, 0, none⟩) 1 [x] :=
  ⟨rfl, fun _ => ⟨g, 0, rfl, h.lt, fun i hi => by
    obtain rfl : i = 0 := by omega
    exact h.cell 0⟩⟩
set_option maxRecDepth 100000 in
set_option maxHeartbeats 16000000 in
theorem one_law (a0 : Option Addr) (n0 c0 : Nat) (z0 : List Int) (a1 a2 : Int) (w : World) (h0 : IsRow .i64 w a0 n0 c0 z0) (_ : (Lit.int .i64 a1).wf = true) (_ : (Lit.int .i64 a2).wf = true) :
    Calls Try.prog 10 #[.slice a0 n0 c0, .int .i64 a1, .int .i64 a2] w fun e w' => e = .returned (.bool true) ∧ Below w.heap.size w w' := by
  obtain ⟨hI, hm, _⟩ := h0.ints
  have HI := Lib.hid hI
  clear h0 hI
  unfold maxLen at hm
  by_cases hn : 30 < n0
  · go_enter Try.func10, Try.ntmps10
    go_wp2_with fail
    refine (bawake_any _).mono ?_
    rintro e w1 ⟨rfl, hb⟩
    go_wp2_with fail
    go_ret
    exact ⟨rfl, hb⟩
  · obtain ⟨c, hc⟩ : ∃ c, c = config (z0.take n0) := ⟨_, rfl⟩
    have KC := Lib.hid (fun (w : World) (h : Ints w a0 n0 (z0.take n0)) => config_any a0 n0 c0 (z0.take n0) w h (by omega))
    rw [← hc] at KC
    have OK := Lib.hid (show cok c = true by rw [hc]; exact cok_config _)
    have FC := fits_of OK.out
    clear hc
    obtain ⟨k1, hk1⟩ : ∃ k, k = akey a1 false false := ⟨_, rfl⟩
    obtain ⟨k2, hk2⟩ : ∃ k, k = akey a2 true true := ⟨_, rfl⟩
    have KK1 := Lib.hid (fun w => key_any a1 false false w)
    have KK2 := Lib.hid (fun w => key_any a2 true true w)
    have KV1 := Lib.hid (kvld_akey a1 false false)
    have KV2 := Lib.hid (kvld_akey a2 true true)
    rw [← hk1] at KK1 KV1
    rw [← hk2] at KK2 KV2
    clear hk1 hk2
    have hs1 := fun (w : World) (n : Nat) (Z : Array Value) (ob : Obj) (hn : n = w.heap.size) (hZ : Z.size = 37) => store_second (P := Try.prog) w n 40 Z (kc k1) ob hn (by rw [kc_size, hZ]) (kc_one _)
    have hs2 := fun (w : World) (n : Nat) (Z : Array Value) (hn : n = w.heap.size) (hZ : Z.size = 37) => store_new (P := Try.prog) sizeK w n Z (kc k2) hn hZ (kc_size _) (kc_one _)
    have e5 : 0 ≤ c.hashes ∧ c.hashes ≤ 80 := by have := FC.ha; omega
    have e7 : 1 ≤ c.bloom := by have := FC.bl; omega
    have h1 := pN_one c k1 KV1.out FC.ha.1
    have h2 := pN_one c k2 KV2.out FC.ha.1
    have P1 := Lib.hid (one_facts _ h1.1 h1.2)
    have P2 := Lib.hid (one_facts _ h2.1 h2.2)
    have X0 : Hid (∀ x ∈ [0], x < 18446744073709551616) := Lib.hid (by intro x hx; simp at hx; omega)
    have X1 : Hid (∀ x ∈ [1], x < 18446744073709551616) := Lib.hid (by intro x hx; simp at hx; omega)
    have L0 : Hid ([0].length = 1) := Lib.hid rfl
    have L1 : Hid ([1].length = 1) := Lib.hid rfl
    have C1 : Hid (cntW [1] = 1) := Lib.hid (by kernel_rfl)
    have O1 : Hid ((cutN (-1) (onesTo [1] 1)).map (fun p : Nat => (p : Int)) = [0]) := Lib.hid (by kernel_rfl)
    clear h1 h2
    go_enter Try.func10, Try.ntmps10
    have HB := Lib.hid (Below.refl w.heap.size w)
    go_wp2_with fail
    refine (KC.out _ HI.out).mono ?_
    rintro e w1 ⟨rfl, hb⟩
    have hbs : Below w.heap.size w w1 := step_below (by first | exact Below.refl _ _ | exact (Below.refl _ _).drew | exact (Below.refl _ _).alloc (Nat.le_refl _) _ | exact ((Below.refl _ _).alloc (Nat.le_refl _) _).drew | exact ((Below.refl _ _).drew).alloc (Nat.le_refl _) _ | exact ((Below.refl _ _).alloc (Nat.le_refl _) _).alloc (by simp) _ | exact (((Below.refl _ _).alloc (Nat.le_refl _) _).alloc (by simp) _).drew | exact (((Below.refl _ _).alloc (Nat.le_refl _) _).alloc (by simp) _).alloc (by simp; omega) _) hb
    try clear HBz
    have HBz := HB.out.size
    replace HB := Lib.hid (step_below HB.out hbs)
    clear hbs
    clear hb
    go_wp2_with fail
    refine (new_ok c _ OK.out).mono ?_
    rintro e w2 ⟨gf, rfl, hgf, hF, hb⟩
    have hbs : Below w1.heap.size w1 w2 := step_below (by first | exact Below.refl _ _ | exact (Below.refl _ _).drew | exact (Below.refl _ _).alloc (Nat.le_refl _) _ | exact ((Below.refl _ _).alloc (Nat.le_refl _) _).drew | exact ((Below.refl _ _).drew).alloc (Nat.le_refl _) _ | exact ((Below.refl _ _).alloc (Nat.le_refl _) _).alloc (by simp) _ | exact (((Below.refl _ _).alloc (Nat.le_refl _) _).alloc (by simp) _).drew | exact (((Below.refl _ _).alloc (Nat.le_refl _) _).alloc (by simp) _).alloc (by simp; omega) _) hb
    try clear HBz
    have HBz := HB.out.size
    replace HB := Lib.hid (step_below HB.out hbs)
    clear hbs
    clear hb
    have F := Lib.hid hF
    clear hF hgf
    
    have r_F := F.out.row
    have o_F := F.out.open
    have l_F := F.out.lt
    have c_F := F.out.cell
    have z_F := F.out.frozen
    go_wp2_with fail
    clear r_F o_F l_F c_F z_F
    refine (bnew_ok gf 1 (by decide) (by decide) _).mono ?_
    rintro e w_ ⟨rfl, rfl⟩
    rw [show nw 1 = 1 from rfl, w1_eq]
    have HBp := HB
    have Wd := at_new w2 86 (wd [0]) (w2.heap.size) rfl
    replace HB := Lib.hid (HB.out.alloc HB.out.size (.cells (wd [0]) 86))
    have Fp := F
    replace F := Lib.hid (F.out.alloc (.cells (wd [0]) 86))
    obtain ⟨gw, hg⟩ : ∃ g, g = w2.heap.size := ⟨_, rfl⟩
    have hgs : gw = w2.heap.size := by rw [hg]
    have b_gw : w.heap.size ≤ gw := by rw [hgs]; exact HBp.out.size
    have S_w3 := Lib.hid (show (w2.alloc (.cells (wd [0]) 86)).heap.size = gw + 1 by rw [World.size_alloc, hgs])
    rw [← hg] at Wd
    try rw [← hg]
    have ne_F_Wd : gf ≠ gw := by have := Fp.out.lt; omega
    have ne_Wd_F : gw ≠ gf := fun h => ne_F_Wd h.symm
    clear hg hgs HBp Fp
    replace Wd := Lib.hid Wd
    generalize w2.alloc (.cells (wd [0]) 86) = w3 at *
    have HBp := HB
    have B := at_new w3 92 (bcs gf 1 gw 1) (gw + 1) (S_w3.out.symm)
    replace HB := Lib.hid (HB.out.alloc HB.out.size (.cells (bcs gf 1 gw 1) 92))
    have Fp := F
    replace F := Lib.hid (F.out.alloc (.cells (bcs gf 1 gw 1) 92))
    have Wdp := Wd
    replace Wd := Lib.hid (Wd.out.alloc (.cells (bcs gf 1 gw 1) 92))
    obtain ⟨gb, hg⟩ : ∃ g, g = gw + 1 := ⟨_, rfl⟩
    have hgs : gb = w3.heap.size := by rw [hg, S_w3.out]
    have b_gb : w.heap.size ≤ gb := by rw [hgs]; exact HBp.out.size
    have S_w4 := Lib.hid (show (w3.alloc (.cells (bcs gf 1 gw 1) 92)).heap.size = gb + 1 by rw [World.size_alloc, hgs])
    rw [← hg] at B
    try rw [← hg]
    have ne_F_B : gf ≠ gb := by have := Fp.out.lt; omega
    have ne_B_F : gb ≠ gf := fun h => ne_F_B h.symm
    have ne_Wd_B : gw ≠ gb := by have := Wdp.out.lt; omega
    have ne_B_Wd : gb ≠ gw := fun h => ne_Wd_B h.symm
    clear hg hgs HBp Fp Wdp
    replace B := Lib.hid B
    generalize w3.alloc (.cells (bcs gf 1 gw 1) 92) = w4 at *
    have r_F := F.out.row
    have o_F := F.out.open
    have l_F := F.out.lt
    have c_F := F.out.cell
    have z_F := F.out.frozen
    have r_Wd := Wd.out.row
    have o_Wd := Wd.out.open
    have l_Wd := Wd.out.lt
    have c_Wd := Wd.out.cell
    have z_Wd := Wd.out.frozen
    have r_B := B.out.row
    have o_B := B.out.open
    have l_B := B.out.lt
    have c_B := B.out.cell
    have z_B := B.out.frozen
    go_wp2_with fail
    clear r_F o_F l_F c_F z_F r_Wd o_Wd l_Wd c_Wd z_Wd r_B o_B l_B c_B z_B
    refine (KK1.out _).mono ?_
    rintro e w5 ⟨rfl, hb⟩
    have hbs : Below w4.heap.size w4 w5 := step_below (by first | exact Below.refl _ _ | exact (Below.refl _ _).drew | exact (Below.refl _ _).alloc (Nat.le_refl _) _ | exact ((Below.refl _ _).alloc (Nat.le_refl _) _).drew | exact ((Below.refl _ _).drew).alloc (Nat.le_refl _) _ | exact ((Below.refl _ _).alloc (Nat.le_refl _) _).alloc (by simp) _ | exact (((Below.refl _ _).alloc (Nat.le_refl _) _).alloc (by simp) _).drew | exact (((Below.refl _ _).alloc (Nat.le_refl _) _).alloc (by simp) _).alloc (by simp; omega) _) hb
    try clear HBz
    have HBz := HB.out.size
    replace HB := Lib.hid (step_below HB.out hbs)
    replace F := Lib.hid (F.out.below hbs F.out.lt)
    replace Wd := Lib.hid (Wd.out.below hbs Wd.out.lt)
    replace B := Lib.hid (B.out.below hbs B.out.lt)
    clear hbs
    clear hb
    have r_F := F.out.row
    have o_F := F.out.open
    have l_F := F.out.lt
    have c_F := F.out.cell
    have z_F := F.out.frozen
    have r_Wd := Wd.out.row
    have o_Wd := Wd.out.open
    have l_Wd := Wd.out.lt
    have c_Wd := Wd.out.cell
    have z_Wd := Wd.out.frozen
    have r_B := B.out.row
    have o_B := B.out.open
    have l_B := B.out.lt
    have c_B := B.out.cell
    have z_B := B.out.frozen
    go_wp2_with fail
    clear r_F o_F l_F c_F z_F r_Wd o_Wd l_Wd c_Wd z_Wd r_B o_B l_B c_B z_B
    refine (KK2.out _).mono ?_
    rintro e w6 ⟨rfl, hb⟩
    have hbs : Below w5.heap.size w5 w6 := step_below (by first | exact Below.refl _ _ | exact (Below.refl _ _).drew | exact (Below.refl _ _).alloc (Nat.le_refl _) _ | exact ((Below.refl _ _).alloc (Nat.le_refl _) _).drew | exact ((Below.refl _ _).drew).alloc (Nat.le_refl _) _ | exact ((Below.refl _ _).alloc (Nat.le_refl _) _).alloc (by simp) _ | exact (((Below.refl _ _).alloc (Nat.le_refl _) _).alloc (by simp) _).drew | exact (((Below.refl _ _).alloc (Nat.le_refl _) _).alloc (by simp) _).alloc (by simp; omega) _) hb
    try clear HBz
    have HBz := HB.out.size
    replace HB := Lib.hid (step_below HB.out hbs)
    replace F := Lib.hid (F.out.below hbs F.out.lt)
    replace Wd := Lib.hid (Wd.out.below hbs Wd.out.lt)
    replace B := Lib.hid (B.out.below hbs B.out.lt)
    clear hbs
    clear hb
    go_wp2_with fail
    have HBp := HB
    have K := at_new w6 40 (kc k1) (w6.heap.size) rfl
    replace HB := Lib.hid (HB.out.alloc HB.out.size (.cells (kc k1) 40))
    have Fp := F
    replace F := Lib.hid (F.out.alloc (.cells (kc k1) 40))
    have Wdp := Wd
    replace Wd := Lib.hid (Wd.out.alloc (.cells (kc k1) 40))
    have Bp := B
    replace B := Lib.hid (B.out.alloc (.cells (kc k1) 40))
    obtain ⟨gk, hg⟩ : ∃ g, g = w6.heap.size := ⟨_, rfl⟩
    have hgs : gk = w6.heap.size := by rw [hg]
    have b_gk : w.heap.size ≤ gk := by rw [hgs]; exact HBp.out.size
    have S_w7 := Lib.hid (show (w6.alloc (.cells (kc k1) 40)).heap.size = gk + 1 by rw [World.size_alloc, hgs])
    rw [← hg] at K
    try rw [← hg]
    have ne_F_K : gf ≠ gk := by have := Fp.out.lt; omega
    have ne_K_F : gk ≠ gf := fun h => ne_F_K h.symm
    have ne_Wd_K : gw ≠ gk := by have := Wdp.out.lt; omega
    have ne_K_Wd : gk ≠ gw := fun h => ne_Wd_K h.symm
    have ne_B_K : gb ≠ gk := by have := Bp.out.lt; omega
    have ne_K_B : gk ≠ gb := fun h => ne_B_K h.symm
    clear hg hgs HBp Fp Wdp Bp
    replace K := Lib.hid K
    generalize w6.alloc (.cells (kc k1) 40) = w7 at *
    have HBp := HB
    have K2 := at_new w7 40 (kc k2) (gk + 1) (S_w7.out.symm)
    replace HB := Lib.hid (HB.out.alloc HB.out.size (.cells (kc k2) 40))
    have Fp := F
    replace F := Lib.hid (F.out.alloc (.cells (kc k2) 40))
    have Wdp := Wd
    replace Wd := Lib.hid (Wd.out.alloc (.cells (kc k2) 40))
    have Bp := B
    replace B := Lib.hid (B.out.alloc (.cells (kc k2) 40))
    have Kp := K
    replace K := Lib.hid (K.out.alloc (.cells (kc k2) 40))
    obtain ⟨gk2, hg⟩ : ∃ g, g = gk + 1 := ⟨_, rfl⟩
    have hgs : gk2 = w7.heap.size := by rw [hg, S_w7.out]
    have b_gk2 : w.heap.size ≤ gk2 := by rw [hgs]; exact HBp.out.size
    have S_w8 := Lib.hid (show (w7.alloc (.cells (kc k2) 40)).heap.size = gk2 + 1 by rw [World.size_alloc, hgs])
    rw [← hg] at K2
    try rw [← hg]
    have ne_F_K2 : gf ≠ gk2 := by have := Fp.out.lt; omega
    have ne_K2_F : gk2 ≠ gf := fun h => ne_F_K2 h.symm
    have ne_Wd_K2 : gw ≠ gk2 := by have := Wdp.out.lt; omega
    have ne_K2_Wd : gk2 ≠ gw := fun h => ne_Wd_K2 h.symm
    have ne_B_K2 : gb ≠ gk2 := by have := Bp.out.lt; omega
    have ne_K2_B : gk2 ≠ gb := fun h => ne_B_K2 h.symm
    have ne_K_K2 : gk ≠ gk2 := by have := Kp.out.lt; omega
    have ne_K2_K : gk2 ≠ gk := fun h => ne_K_K2 h.symm
    clear hg hgs HBp Fp Wdp Bp Kp
    replace K2 := Lib.hid K2
    generalize w7.alloc (.cells (kc k2) 40) = w8 at *
    have r_F := F.out.row
    have o_F := F.out.open
    have l_F := F.out.lt
    have c_F := F.out.cell
    have z_F := F.out.frozen
    have r_Wd := Wd.out.row
    have o_Wd := Wd.out.open
    have l_Wd := Wd.out.lt
    have c_Wd := Wd.out.cell
    have z_Wd := Wd.out.frozen
    have r_B := B.out.row
    have o_B := B.out.open
    have l_B := B.out.lt
    have c_B := B.out.cell
    have z_B := B.out.frozen
    have r_K := K.out.row
    have o_K := K.out.open
    have l_K := K.out.lt
    have c_K := K.out.cell
    have z_K := K.out.frozen
    have r_K2 := K2.out.row
    have o_K2 := K2.out.open
    have l_K2 := K2.out.lt
    have c_K2 := K2.out.cell
    have z_K2 := K2.out.frozen
    go_wp2_with fail
    clear r_F o_F l_F c_F z_F r_Wd o_Wd l_Wd c_Wd z_Wd r_B o_B l_B c_B z_B r_K o_K l_K c_K z_K r_K2 o_K2 l_K2 c_K2 z_K2
    refine (has_any gb gw gf c k1 1 1 [0] _ B.out Wd.out F.out (by decide) (by decide) rfl L0.out X0.out e5.1 e5.2 e7).mono ?_
    rintro e w9 ⟨rfl, hb⟩
    have hbs : Below w8.heap.size w8 w9 := step_below (by first | exact Below.refl _ _ | exact (Below.refl _ _).drew | exact (Below.refl _ _).alloc (Nat.le_refl _) _ | exact ((Below.refl _ _).alloc (Nat.le_refl _) _).drew | exact ((Below.refl _ _).drew).alloc (Nat.le_refl _) _ | exact ((Below.refl _ _).alloc (Nat.le_refl _) _).alloc (by simp) _ | exact (((Below.refl _ _).alloc (Nat.le_refl _) _).alloc (by simp) _).drew | exact (((Below.refl _ _).alloc (Nat.le_refl _) _).alloc (by simp) _).alloc (by simp; omega) _) hb
    try clear HBz
    have HBz := HB.out.size
    replace HB := Lib.hid (step_below HB.out hbs)
    replace F := Lib.hid (F.out.below hbs F.out.lt)
    replace Wd := Lib.hid (Wd.out.below hbs Wd.out.lt)
    replace B := Lib.hid (B.out.below hbs B.out.lt)
    replace K := Lib.hid (K.out.below hbs K.out.lt)
    replace K2 := Lib.hid (K2.out.below hbs K2.out.lt)
    clear hbs
    clear hb
    rw [P1.out.2.2.2.2.1]
    have r_F := F.out.row
    have o_F := F.out.open
    have l_F := F.out.lt
    have c_F := F.out.cell
    have z_F := F.out.frozen
    have r_Wd := Wd.out.row
    have o_Wd := Wd.out.open
    have l_Wd := Wd.out.lt
    have c_Wd := Wd.out.cell
    have z_Wd := Wd.out.frozen
    have r_B := B.out.row
    have o_B := B.out.open
    have l_B := B.out.lt
    have c_B := B.out.cell
    have z_B := B.out.frozen
    have r_K := K.out.row
    have o_K := K.out.open
    have l_K := K.out.lt
    have c_K := K.out.cell
    have z_K := K.out.frozen
    have r_K2 := K2.out.row
    have o_K2 := K2.out.open
    have l_K2 := K2.out.lt
    have c_K2 := K2.out.cell
    have z_K2 := K2.out.frozen
    go_wp2_with fail
    clear r_F o_F l_F c_F z_F r_Wd o_Wd l_Wd c_Wd z_Wd r_B o_B l_B c_B z_B r_K o_K l_K c_K z_K r_K2 o_K2 l_K2 c_K2 z_K2
    refine (has_any gb gw gf c k2 1 1 [0] _ B.out Wd.out F.out (by decide) (by decide) rfl L0.out X0.out e5.1 e5.2 e7).mono ?_
    rintro e w10 ⟨rfl, hb⟩
    have hbs : Below w9.heap.size w9 w10 := step_below (by first | exact Below.refl _ _ | exact (Below.refl _ _).drew | exact (Below.refl _ _).alloc (Nat.le_refl _) _ | exact ((Below.refl _ _).alloc (Nat.le_refl _) _).drew | exact ((Below.refl _ _).drew).alloc (Nat.le_refl _) _ | exact ((Below.refl _ _).alloc (Nat.le_refl _) _).alloc (by simp) _ | exact (((Below.refl _ _).alloc (Nat.le_refl _) _).alloc (by simp) _).drew | exact (((Below.refl _ _).alloc (Nat.le_refl _) _).alloc (by simp) _).alloc (by simp; omega) _) hb
    try clear HBz
    have HBz := HB.out.size
    replace HB := Lib.hid (step_below HB.out hbs)
    replace F := Lib.hid (F.out.below hbs F.out.lt)
    replace Wd := Lib.hid (Wd.out.below hbs Wd.out.lt)
    replace B := Lib.hid (B.out.below hbs B.out.lt)
    replace K := Lib.hid (K.out.below hbs K.out.lt)
    replace K2 := Lib.hid (K2.out.below hbs K2.out.lt)
    clear hbs
    clear hb
    rw [P2.out.2.2.2.2.1]
    have r_F := F.out.row
    have o_F := F.out.open
    have l_F := F.out.lt
    have c_F := F.out.cell
    have z_F := F.out.frozen
    have r_Wd := Wd.out.row
    have o_Wd := Wd.out.open
    have l_Wd := Wd.out.lt
    have c_Wd := Wd.out.cell
    have z_Wd := Wd.out.frozen
    have r_B := B.out.row
    have o_B := B.out.open
    have l_B := B.out.lt
    have c_B := B.out.cell
    have z_B := B.out.frozen
    have r_K := K.out.row
    have o_K := K.out.open
    have l_K := K.out.lt
    have c_K := K.out.cell
    have z_K := K.out.frozen
    have r_K2 := K2.out.row
    have o_K2 := K2.out.open
    have l_K2 := K2.out.lt
    have c_K2 := K2.out.cell
    have z_K2 := K2.out.frozen
    go_wp2_with fail
    clear r_F o_F l_F c_F z_F r_Wd o_Wd l_Wd c_Wd z_Wd r_B o_B l_B c_B z_B r_K o_K l_K c_K z_K r_K2 o_K2 l_K2 c_K2 z_K2
    refine (insert_any gb gw gf c k1 1 1 [0] _ B.out Wd.out F.out ne_B_Wd (by decide) (by decide) rfl L0.out X0.out e5.1 e5.2 e7).mono ?_
    rintro e w11 ⟨rfl, hA, hm⟩
    replace HB := Lib.hid (HB.out.trans (mod_below hm HB.out.size (fun i hi => by rw [hi]; exact b_gw)))
    replace F := Lib.hid (F.out.mod hm ne_F_Wd)
    replace B := Lib.hid (B.out.mod hm ne_B_Wd)
    replace K := Lib.hid (K.out.mod hm ne_K_Wd)
    replace K2 := Lib.hid (K2.out.mod hm ne_K2_Wd)
    replace Wd := Lib.hid hA
    clear hA
    clear hm
    rw [P1.out.1] at Wd
    rw [P1.out.2.2.1]
    have r_F := F.out.row
    have o_F := F.out.open
    have l_F := F.out.lt
    have c_F := F.out.cell
    have z_F := F.out.frozen
    have r_Wd := Wd.out.row
    have o_Wd := Wd.out.open
    have l_Wd := Wd.out.lt
    have c_Wd := Wd.out.cell
    have z_Wd := Wd.out.frozen
    have r_B := B.out.row
    have o_B := B.out.open
    have l_B := B.out.lt
    have c_B := B.out.cell
    have z_B := B.out.frozen
    have r_K := K.out.row
    have o_K := K.out.open
    have l_K := K.out.lt
    have c_K := K.out.cell
    have z_K := K.out.frozen
    have r_K2 := K2.out.row
    have o_K2 := K2.out.open
    have l_K2 := K2.out.lt
    have c_K2 := K2.out.cell
    have z_K2 := K2.out.frozen
    go_wp2_with fail
    clear r_F o_F l_F c_F z_F r_Wd o_Wd l_Wd c_Wd z_Wd r_B o_B l_B c_B z_B r_K o_K l_K c_K z_K r_K2 o_K2 l_K2 c_K2 z_K2
    refine (insert_any gb gw gf c k2 1 1 [1] _ B.out Wd.out F.out ne_B_Wd (by decide) (by decide) rfl L1.out X1.out e5.1 e5.2 e7).mono ?_
    rintro e w12 ⟨rfl, hA, hm⟩
    replace HB := Lib.hid (HB.out.trans (mod_below hm HB.out.size (fun i hi => by rw [hi]; exact b_gw)))
    replace F := Lib.hid (F.out.mod hm ne_F_Wd)
    replace B := Lib.hid (B.out.mod hm ne_B_Wd)
    replace K := Lib.hid (K.out.mod hm ne_K_Wd)
    replace K2 := Lib.hid (K2.out.mod hm ne_K2_Wd)
    replace Wd := Lib.hid hA
    clear hA
    clear hm
    rw [P2.out.2.1] at Wd
    rw [P2.out.2.2.2.1]
    have r_F := F.out.row
    have o_F := F.out.open
    have l_F := F.out.lt
    have c_F := F.out.cell
    have z_F := F.out.frozen
    have r_Wd := Wd.out.row
    have o_Wd := Wd.out.open
    have l_Wd := Wd.out.lt
    have c_Wd := Wd.out.cell
    have z_Wd := Wd.out.frozen
    have r_B := B.out.row
    have o_B := B.out.open
    have l_B := B.out.lt
    have c_B := B.out.cell
    have z_B := B.out.frozen
    have r_K := K.out.row
    have o_K := K.out.open
    have l_K := K.out.lt
    have c_K := K.out.cell
    have z_K := K.out.frozen
    have r_K2 := K2.out.row
    have o_K2 := K2.out.open
    have l_K2 := K2.out.lt
    have c_K2 := K2.out.cell
    have z_K2 := K2.out.frozen
    go_wp2_with fail
    clear r_F o_F l_F c_F z_F r_Wd o_Wd l_Wd c_Wd z_Wd r_B o_B l_B c_B z_B r_K o_K l_K c_K z_K r_K2 o_K2 l_K2 c_K2 z_K2
    refine (has_any gb gw gf c k1 1 1 [1] _ B.out Wd.out F.out (by decide) (by decide) rfl L1.out X1.out e5.1 e5.2 e7).mono ?_
    rintro e w13 ⟨rfl, hb⟩
    have hbs : Below w12.heap.size w12 w13 := step_below (by first | exact Below.refl _ _ | exact (Below.refl _ _).drew | exact (Below.refl _ _).alloc (Nat.le_refl _) _ | exact ((Below.refl _ _).alloc (Nat.le_refl _) _).drew | exact ((Below.refl _ _).drew).alloc (Nat.le_refl _) _ | exact ((Below.refl _ _).alloc (Nat.le_refl _) _).alloc (by simp) _ | exact (((Below.refl _ _).alloc (Nat.le_refl _) _).alloc (by simp) _).drew | exact (((Below.refl _ _).alloc (Nat.le_refl _) _).alloc (by simp) _).alloc (by simp; omega) _) hb
    try clear HBz
    have HBz := HB.out.size
    replace HB := Lib.hid (step_below HB.out hbs)
    replace F := Lib.hid (F.out.below hbs F.out.lt)
    replace Wd := Lib.hid (Wd.out.below hbs Wd.out.lt)
    replace B := Lib.hid (B.out.below hbs B.out.lt)
    replace K := Lib.hid (K.out.below hbs K.out.lt)
    replace K2 := Lib.hid (K2.out.below hbs K2.out.lt)
    clear hbs
    clear hb
    rw [P1.out.2.2.2.2.2]
    have r_F := F.out.row
    have o_F := F.out.open
    have l_F := F.out.lt
    have c_F := F.out.cell
    have z_F := F.out.frozen
    have r_Wd := Wd.out.row
    have o_Wd := Wd.out.open
    have l_Wd := Wd.out.lt
    have c_Wd := Wd.out.cell
    have z_Wd := Wd.out.frozen
    have r_B := B.out.row
    have o_B := B.out.open
    have l_B := B.out.lt
    have c_B := B.out.cell
    have z_B := B.out.frozen
    have r_K := K.out.row
    have o_K := K.out.open
    have l_K := K.out.lt
    have c_K := K.out.cell
    have z_K := K.out.frozen
    have r_K2 := K2.out.row
    have o_K2 := K2.out.open
    have l_K2 := K2.out.lt
    have c_K2 := K2.out.cell
    have z_K2 := K2.out.frozen
    go_wp2_with fail
    clear r_F o_F l_F c_F z_F r_Wd o_Wd l_Wd c_Wd z_Wd r_B o_B l_B c_B z_B r_K o_K l_K c_K z_K r_K2 o_K2 l_K2 c_K2 z_K2
    refine (has_any gb gw gf c k2 1 1 [1] _ B.out Wd.out F.out (by decide) (by decide) rfl L1.out X1.out e5.1 e5.2 e7).mono ?_
    rintro e w14 ⟨rfl, hb⟩
    have hbs : Below w13.heap.size w13 w14 := step_below (by first | exact Below.refl _ _ | exact (Below.refl _ _).drew | exact (Below.refl _ _).alloc (Nat.le_refl _) _ | exact ((Below.refl _ _).alloc (Nat.le_refl _) _).drew | exact ((Below.refl _ _).drew).alloc (Nat.le_refl _) _ | exact ((Below.refl _ _).alloc (Nat.le_refl _) _).alloc (by simp) _ | exact (((Below.refl _ _).alloc (Nat.le_refl _) _).alloc (by simp) _).drew | exact (((Below.refl _ _).alloc (Nat.le_refl _) _).alloc (by simp) _).alloc (by simp; omega) _) hb
    try clear HBz
    have HBz := HB.out.size
    replace HB := Lib.hid (step_below HB.out hbs)
    replace F := Lib.hid (F.out.below hbs F.out.lt)
    replace Wd := Lib.hid (Wd.out.below hbs Wd.out.lt)
    replace B := Lib.hid (B.out.below hbs B.out.lt)
    replace K := Lib.hid (K.out.below hbs K.out.lt)
    replace K2 := Lib.hid (K2.out.below hbs K2.out.lt)
    clear hbs
    clear hb
    rw [P2.out.2.2.2.2.2]
    have r_F := F.out.row
    have o_F := F.out.open
    have l_F := F.out.lt
    have c_F := F.out.cell
    have z_F := F.out.frozen
    have r_Wd := Wd.out.row
    have o_Wd := Wd.out.open
    have l_Wd := Wd.out.lt
    have c_Wd := Wd.out.cell
    have z_Wd := Wd.out.frozen
    have r_B := B.out.row
    have o_B := B.out.open
    have l_B := B.out.lt
    have c_B := B.out.cell
    have z_B := B.out.frozen
    have r_K := K.out.row
    have o_K := K.out.open
    have l_K := K.out.lt
    have c_K := K.out.cell
    have z_K := K.out.frozen
    have r_K2 := K2.out.row
    have o_K2 := K2.out.open
    have l_K2 := K2.out.lt
    have c_K2 := K2.out.cell
    have z_K2 := K2.out.frozen
    go_wp2_with fail
    clear r_F o_F l_F c_F z_F r_Wd o_Wd l_Wd c_Wd z_Wd r_B o_B l_B c_B z_B r_K o_K l_K c_K z_K r_K2 o_K2 l_K2 c_K2 z_K2
    refine (count_any gb gw gf 1 1 [1] _ B.out Wd.out L1.out (by decide) X1.out).mono ?_
    rintro e w15 ⟨rfl, hb⟩
    have hbs : Below w14.heap.size w14 w15 := step_below (by first | exact Below.refl _ _ | exact (Below.refl _ _).drew | exact (Below.refl _ _).alloc (Nat.le_refl _) _ | exact ((Below.refl _ _).alloc (Nat.le_refl _) _).drew | exact ((Below.refl _ _).drew).alloc (Nat.le_refl _) _ | exact ((Below.refl _ _).alloc (Nat.le_refl _) _).alloc (by simp) _ | exact (((Below.refl _ _).alloc (Nat.le_refl _) _).alloc (by simp) _).drew | exact (((Below.refl _ _).alloc (Nat.le_refl _) _).alloc (by simp) _).alloc (by simp; omega) _) hb
    try clear HBz
    have HBz := HB.out.size
    replace HB := Lib.hid (step_below HB.out hbs)
    replace F := Lib.hid (F.out.below hbs F.out.lt)
    replace Wd := Lib.hid (Wd.out.below hbs Wd.out.lt)
    replace B := Lib.hid (B.out.below hbs B.out.lt)
    replace K := Lib.hid (K.out.below hbs K.out.lt)
    replace K2 := Lib.hid (K2.out.below hbs K2.out.lt)
    clear hbs
    clear hb
    rw [C1.out]
    have r_F := F.out.row
    have o_F := F.out.open
    have l_F := F.out.lt
    have c_F := F.out.cell
    have z_F := F.out.frozen
    have r_Wd := Wd.out.row
    have o_Wd := Wd.out.open
    have l_Wd := Wd.out.lt
    have c_Wd := Wd.out.cell
    have z_Wd := Wd.out.frozen
    have r_B := B.out.row
    have o_B := B.out.open
    have l_B := B.out.lt
    have c_B := B.out.cell
    have z_B := B.out.frozen
    have r_K := K.out.row
    have o_K := K.out.open
    have l_K := K.out.lt
    have c_K := K.out.cell
    have z_K := K.out.frozen
    have r_K2 := K2.out.row
    have o_K2 := K2.out.open
    have l_K2 := K2.out.lt
    have c_K2 := K2.out.cell
    have z_K2 := K2.out.frozen
    go_wp2_with fail
    clear r_F o_F l_F c_F z_F r_Wd o_Wd l_Wd c_Wd z_Wd r_B o_B l_B c_B z_B r_K o_K l_K c_K z_K r_K2 o_K2 l_K2 c_K2 z_K2
    refine (onesl_any gb gw gf 1 1 [1] (-1) _ (by decide) rfl L1.out X1.out B.out Wd.out).mono ?_
    rintro e w16 ⟨v, rfl, ho, hb⟩
    have hbs : Below w15.heap.size w15 w16 := step_below (by first | exact Below.refl _ _ | exact (Below.refl _ _).drew | exact (Below.refl _ _).alloc (Nat.le_refl _) _ | exact ((Below.refl _ _).alloc (Nat.le_refl _) _).drew | exact ((Below.refl _ _).drew).alloc (Nat.le_refl _) _ | exact ((Below.refl _ _).alloc (Nat.le_refl _) _).alloc (by simp) _ | exact (((Below.refl _ _).alloc (Nat.le_refl _) _).alloc (by simp) _).drew | exact (((Below.refl _ _).alloc (Nat.le_refl _) _).alloc (by simp) _).alloc (by simp; omega) _) hb
    try clear HBz
    have HBz := HB.out.size
    replace HB := Lib.hid (step_below HB.out hbs)
    replace F := Lib.hid (F.out.below hbs F.out.lt)
    replace Wd := Lib.hid (Wd.out.below hbs Wd.out.lt)
    replace B := Lib.hid (B.out.below hbs B.out.lt)
    replace K := Lib.hid (K.out.below hbs K.out.lt)
    replace K2 := Lib.hid (K2.out.below hbs K2.out.lt)
    clear hbs
    clear hb
    rw [O1.out] at ho
    obtain ⟨b1, m1, q1, rfl, hm1, hy1, _⟩ := ho.parts
    have Y := Lib.hid hy1
    have M1 : m1 ≤ 1000000 := by rw [hm1]; decide
    clear ho hm1 hy1
    have r_F := F.out.row
    have o_F := F.out.open
    have l_F := F.out.lt
    have c_F := F.out.cell
    have z_F := F.out.frozen
    have r_Wd := Wd.out.row
    have o_Wd := Wd.out.open
    have l_Wd := Wd.out.lt
    have c_Wd := Wd.out.cell
    have z_Wd := Wd.out.frozen
    have r_B := B.out.row
    have o_B := B.out.open
    have l_B := B.out.lt
    have c_B := B.out.cell
    have z_B := B.out.frozen
    have r_K := K.out.row
    have o_K := K.out.open
    have l_K := K.out.lt
    have c_K := K.out.cell
    have z_K := K.out.frozen
    have r_K2 := K2.out.row
    have o_K2 := K2.out.open
    have l_K2 := K2.out.lt
    have c_K2 := K2.out.cell
    have z_K2 := K2.out.frozen
    go_wp2_with fail
    clear r_F o_F l_F c_F z_F r_Wd o_Wd l_Wd c_Wd z_Wd r_B o_B l_B c_B z_B r_K o_K l_K c_K z_K r_K2 o_K2 l_K2 c_K2 z_K2
    have HBp := HB
    have Z := at_new w16 3 (#[.int .i64 0]) (w16.heap.size) rfl
    replace HB := Lib.hid (HB.out.alloc HB.out.size (.cells (#[.int .i64 0]) 3))
    have Fp := F
    replace F := Lib.hid (F.out.alloc (.cells (#[.int .i64 0]) 3))
    have Wdp := Wd
    replace Wd := Lib.hid (Wd.out.alloc (.cells (#[.int .i64 0]) 3))
    have Bp := B
    replace B := Lib.hid (B.out.alloc (.cells (#[.int .i64 0]) 3))
    have Kp := K
    replace K := Lib.hid (K.out.alloc (.cells (#[.int .i64 0]) 3))
    have K2p := K2
    replace K2 := Lib.hid (K2.out.alloc (.cells (#[.int .i64 0]) 3))
    have Yp := Y
    replace Y := Lib.hid (Y.out.below ((Below.refl _ _).alloc (Nat.le_refl _) (.cells (#[.int .i64 0]) 3)))
    obtain ⟨gz, hg⟩ : ∃ g, g = w16.heap.size := ⟨_, rfl⟩
    have hgs : gz = w16.heap.size := by rw [hg]
    have b_gz : w.heap.size ≤ gz := by rw [hgs]; exact HBp.out.size
    have S_w17 := Lib.hid (show (w16.alloc (.cells (#[.int .i64 0]) 3)).heap.size = gz + 1 by rw [World.size_alloc, hgs])
    rw [← hg] at Z
    try rw [← hg]
    have ne_F_Z : gf ≠ gz := by have := Fp.out.lt; omega
    have ne_Z_F : gz ≠ gf := fun h => ne_F_Z h.symm
    have ne_Wd_Z : gw ≠ gz := by have := Wdp.out.lt; omega
    have ne_Z_Wd : gz ≠ gw := fun h => ne_Wd_Z h.symm
    have ne_B_Z : gb ≠ gz := by have := Bp.out.lt; omega
    have ne_Z_B : gz ≠ gb := fun h => ne_B_Z h.symm
    have ne_K_Z : gk ≠ gz := by have := Kp.out.lt; omega
    have ne_Z_K : gz ≠ gk := fun h => ne_K_Z h.symm
    have ne_K2_Z : gk2 ≠ gz := by have := K2p.out.lt; omega
    have ne_Z_K2 : gz ≠ gk2 := fun h => ne_K2_Z h.symm
    clear hg hgs HBp Fp Wdp Bp Kp K2p Yp
    replace Z := Lib.hid Z
    generalize w16.alloc (.cells (#[.int .i64 0]) 3) = w17 at *
    refine (ints_any b1 m1 q1 _ _ 1 1 _ _ Y.out (ints_one Z.out) M1 (by decide)).mono ?_
    rintro e w18 ⟨rfl, hb⟩
    have hbs : Below w17.heap.size w17 w18 := step_below (by first | exact Below.refl _ _ | exact (Below.refl _ _).drew | exact (Below.refl _ _).alloc (Nat.le_refl _) _ | exact ((Below.refl _ _).alloc (Nat.le_refl _) _).drew | exact ((Below.refl _ _).drew).alloc (Nat.le_refl _) _ | exact ((Below.refl _ _).alloc (Nat.le_refl _) _).alloc (by simp) _ | exact (((Below.refl _ _).alloc (Nat.le_refl _) _).alloc (by simp) _).drew | exact (((Below.refl _ _).alloc (Nat.le_refl _) _).alloc (by simp) _).alloc (by simp; omega) _) hb
    try clear HBz
    have HBz := HB.out.size
    replace HB := Lib.hid (step_below HB.out hbs)
    replace F := Lib.hid (F.out.below hbs F.out.lt)
    replace Wd := Lib.hid (Wd.out.below hbs Wd.out.lt)
    replace B := Lib.hid (B.out.below hbs B.out.lt)
    replace K := Lib.hid (K.out.below hbs K.out.lt)
    replace K2 := Lib.hid (K2.out.below hbs K2.out.lt)
    replace Y := Lib.hid (Y.out.below hbs)
    replace Z := Lib.hid (Z.out.below hbs Z.out.lt)
    clear hbs
    clear hb
    have r_F := F.out.row
    have o_F := F.out.open
    have l_F := F.out.lt
    have c_F := F.out.cell
    have z_F := F.out.frozen
    have r_Wd := Wd.out.row
    have o_Wd := Wd.out.open
    have l_Wd := Wd.out.lt
    have c_Wd := Wd.out.cell
    have z_Wd := Wd.out.frozen
    have r_B := B.out.row
    have o_B := B.out.open
    have l_B := B.out.lt
    have c_B := B.out.cell
    have z_B := B.out.frozen
    have r_K := K.out.row
    have o_K := K.out.open
    have l_K := K.out.lt
    have c_K := K.out.cell
    have z_K := K.out.frozen
    have r_K2 := K2.out.row
    have o_K2 := K2.out.open
    have l_K2 := K2.out.lt
    have c_K2 := K2.out.cell
    have z_K2 := K2.out.frozen
    have r_Z := Z.out.row
    have o_Z := Z.out.open
    have l_Z := Z.out.lt
    have c_Z := Z.out.cell
    have z_Z := Z.out.frozen
    go_wp2_with fail
    clear r_F o_F l_F c_F z_F r_Wd o_Wd l_Wd c_Wd z_Wd r_B o_B l_B c_B z_B r_K o_K l_K c_K z_K r_K2 o_K2 l_K2 c_K2 z_K2 r_Z o_Z l_Z c_Z z_Z
    refine (bawake_any _).mono ?_
    rintro e w19 ⟨rfl, hb⟩
    have hbs : Below w18.heap.size w18 w19 := step_below (by first | exact Below.refl _ _ | exact (Below.refl _ _).drew | exact (Below.refl _ _).alloc (Nat.le_refl _) _ | exact ((Below.refl _ _).alloc (Nat.le_refl _) _).drew | exact ((Below.refl _ _).drew).alloc (Nat.le_refl _) _ | exact ((Below.refl _ _).alloc (Nat.le_refl _) _).alloc (by simp) _ | exact (((Below.refl _ _).alloc (Nat.le_refl _) _).alloc (by simp) _).drew | exact (((Below.refl _ _).alloc (Nat.le_refl _) _).alloc (by simp) _).alloc (by simp; omega) _) hb
    try clear HBz
    have HBz := HB.out.size
    replace HB := Lib.hid (step_below HB.out hbs)
    replace F := Lib.hid (F.out.below hbs F.out.lt)
    replace Wd := Lib.hid (Wd.out.below hbs Wd.out.lt)
    replace B := Lib.hid (B.out.below hbs B.out.lt)
    replace K := Lib.hid (K.out.below hbs K.out.lt)
    replace K2 := Lib.hid (K2.out.below hbs K2.out.lt)
    replace Y := Lib.hid (Y.out.below hbs)
    replace Z := Lib.hid (Z.out.below hbs Z.out.lt)
    clear hbs
    clear hb
    have r_F := F.out.row
    have o_F := F.out.open
    have l_F := F.out.lt
    have c_F := F.out.cell
    have z_F := F.out.frozen
    have r_Wd := Wd.out.row
    have o_Wd := Wd.out.open
    have l_Wd := Wd.out.lt
    have c_Wd := Wd.out.cell
    have z_Wd := Wd.out.frozen
    have r_B := B.out.row
    have o_B := B.out.open
    have l_B := B.out.lt
    have c_B := B.out.cell
    have z_B := B.out.frozen
    have r_K := K.out.row
    have o_K := K.out.open
    have l_K := K.out.lt
    have c_K := K.out.cell
    have z_K := K.out.frozen
    have r_K2 := K2.out.row
    have o_K2 := K2.out.open
    have l_K2 := K2.out.lt
    have c_K2 := K2.out.cell
    have z_K2 := K2.out.frozen
    have r_Z := Z.out.row
    have o_Z := Z.out.open
    have l_Z := Z.out.lt
    have c_Z := Z.out.cell
    have z_Z := Z.out.frozen
    go_wp2_with fail
    clear r_F o_F l_F c_F z_F r_Wd o_Wd l_Wd c_Wd z_Wd r_B o_B l_B c_B z_B r_K o_K l_K c_K z_K r_K2 o_K2 l_K2 c_K2 z_K2 r_Z o_Z l_Z c_Z z_Z
    go_ret
    exact ⟨rfl, HB.out⟩
end Go.Proofs.Ytjjadakjkkmjgaa
