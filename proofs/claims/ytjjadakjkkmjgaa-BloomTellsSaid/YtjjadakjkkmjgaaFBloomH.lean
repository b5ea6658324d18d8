/-
  awake (chapter 14).
-/
import Derived.Test.YtjjadakjkkmjgaaFBloomG
namespace Go.Proofs.Ytjjadakjkkmjgaa
open Go.RowKit
def aP : List Nat := pN (roomy 1) (akey 5 false false) 64
def wz : List Nat := [0]
theorem wz_eq : List.replicate 1 0 = wz := rfl
theorem awake_facts : ((!(aP.all (bt wz))) = true ∧ (!(aP.all (bt (insAll wz aP)))) = false) ∧ insAll (insAll wz aP) aP = insAll wz aP ∧ hasB (insAll wz aP) aP = true ∧ (1 ≤ cntW (insAll wz aP) ∧ cntW (insAll wz aP) ≤ 4) ∧ hasB wz aP = false ∧ cntW wz = 0 := by
  have h : ((!(aP.all (bt wz))) && !(!(aP.all (bt (insAll wz aP)))) && decide (insAll (insAll wz aP) aP = insAll wz aP) && hasB (insAll wz aP) aP && decide (1 ≤ cntW (insAll wz aP)) && decide (cntW (insAll wz aP) ≤ 4) && !hasB wz aP && decide (cntW wz = 0)) = true := by kernel_rfl
  simp only [Bool.and_eq_true, decide_eq_true_eq] at h
  obtain ⟨⟨⟨⟨⟨⟨⟨h1, h2⟩, h3⟩, h4⟩, h5⟩, h6⟩, h7⟩, h8⟩ := h
  exact ⟨⟨h1, by simpa using h2⟩, h3, h4, ⟨h5, h6⟩, by simpa using h7, h8⟩
theorem lt_of_rep (n : Nat) : ∀ x ∈ List.replicate n 0, x < 18446744073709551616 := fun x hx => by rw [List.eq_of_mem_replicate hx]; omega
set_option maxRecDepth 100000 in
set_option maxHeartbeats 8000000 in
theorem bawake_any (w : World) : Calls Try.prog 29 #[] w fun e w' => e = .returned (.bool true) ∧ Below w.heap.size w w' := by
  have AF := Lib.hid awake_facts
  have hsk := fun (w : World) (n : Nat) (Z : Array Value) (hn : n = w.heap.size) (hZ : Z.size = 37) => store_new (P := Try.prog) sizeK w n Z (kc (akey 5 false false)) hn hZ (kc_size _) (kc_one _)
  have OK := Lib.hid cok_roomy
  have KR := Lib.hid (fun w => roomy_below 1 w)
  have KK := Lib.hid (fun w => key_any 5 false false w)
  have FC := fits_of cok_roomy
  have HP := Lib.hid (show aP = pN (roomy 1) (akey 5 false false) 64 from rfl)
  generalize roomy 1 = c at *
  generalize akey 5 false false = k at *
  have e5 : 0 ≤ c.hashes ∧ c.hashes ≤ 80 := by have := FC.ha; omega
  have e7 : 1 ≤ c.bloom := by have := FC.bl; omega
  go_enter Try.func29, Try.ntmps29
  have HB := Lib.hid (Below.refl w.heap.size w)
  go_wp2_with fail
  refine (KR.out _).mono ?_
  rintro e w1 ⟨rfl, hb⟩
  have hbs : Below w.heap.size w w1 := step_below (by first | exact Below.refl _ _ | exact (Below.refl _ _).drew | exact (Below.refl _ _).alloc (Nat.le_refl _) _ | exact ((Below.refl _ _).alloc (Nat.le_refl _) _).drew | exact ((Below.refl _ _).drew).alloc (Nat.le_refl _) _ | exact ((Below.refl _ _).alloc (Nat.le_refl _) _).alloc (by simp) _ | exact (((Below.refl _ _).alloc (Nat.le_refl _) _).alloc (by simp) _).drew | exact (((Below.refl _ _).alloc (Nat.le_refl _) _).alloc (by simp) _).alloc (by simp; omega) _) hb
  try clear HBz
  have HBz := HB.out.size
  replace HB := Lib.hid (step_below HB.out hbs)
  clear hbs
  clear hb
  go_wp2_with fail
  refine (new_ok c _ OK.out).mono ?_
  rintro e w2 ⟨gf, rfl, hgf, hF, hb⟩
  have hbs : Below w1.heap.size w1 w2 := step_below (by first | exact Below.refl _ _ | exact (Below.refl _ _).drew | exact (Below.refl _ _).alloc (Nat.le_refl _) _ | exact ((Below.refl _ _).alloc (Nat.le_refl _) _).drew | exact ((Below.refl _ _).drew).alloc (Nat.le_refl _) _ | exact ((Below.refl _ _).alloc (Nat.le_refl _) _).alloc (by simp) _ | exact (((Below.refl _ _).alloc (Nat.le_refl _) _).alloc (by simp) _).drew | exact (((Below.refl _ _).alloc (Nat.le_refl _) _).alloc (by simp) _).alloc (by simp; omega) _) hb
  try clear HBz
  have HBz := HB.out.size
  replace HB := Lib.hid (step_below HB.out hbs)
  clear hbs
  clear hb
  have F := Lib.hid hF
  clear hF hgf
  
  have r_F := F.out.row
  have o_F := F.out.open
  have l_F := F.out.lt
  have c_F := F.out.cell
  have z_F := F.out.frozen
  go_wp2_with fail
  clear r_F o_F l_F c_F z_F
  refine (bnew_ok gf 64 (by decide) (by decide) _).mono ?_
  rintro e w_ ⟨rfl, rfl⟩
  rw [show nw 64 = 1 from rfl]
  rw [wz_eq]
  have HBp := HB
  have Wd := at_new w2 86 (wd wz) (w2.heap.size) rfl
  replace HB := Lib.hid (HB.out.alloc HB.out.size (.cells (wd wz) 86))
  have Fp := F
  replace F := Lib.hid (F.out.alloc (.cells (wd wz) 86))
  obtain ⟨gw, hg⟩ : ∃ g, g = w2.heap.size := ⟨_, rfl⟩
  have hgs : gw = w2.heap.size := by rw [hg]
  have b_gw : w.heap.size ≤ gw := by rw [hgs]; exact HBp.out.size
  have S_w3 := Lib.hid (show (w2.alloc (.cells (wd wz) 86)).heap.size = gw + 1 by rw [World.size_alloc, hgs])
  rw [← hg] at Wd
  try rw [← hg]
  have ne_F_Wd : gf ≠ gw := by have := Fp.out.lt; omega
  have ne_Wd_F : gw ≠ gf := fun h => ne_F_Wd h.symm
  clear hg hgs HBp Fp
  replace Wd := Lib.hid Wd
  generalize w2.alloc (.cells (wd wz) 86) = w3 at *
  have HBp := HB
  have B := at_new w3 92 (bcs gf 64 gw 1) (gw + 1) (S_w3.out.symm)
  replace HB := Lib.hid (HB.out.alloc HB.out.size (.cells (bcs gf 64 gw 1) 92))
  have Fp := F
  replace F := Lib.hid (F.out.alloc (.cells (bcs gf 64 gw 1) 92))
  have Wdp := Wd
  replace Wd := Lib.hid (Wd.out.alloc (.cells (bcs gf 64 gw 1) 92))
  obtain ⟨gb, hg⟩ : ∃ g, g = gw + 1 := ⟨_, rfl⟩
  have hgs : gb = w3.heap.size := by rw [hg, S_w3.out]
  have b_gb : w.heap.size ≤ gb := by rw [hgs]; exact HBp.out.size
  have S_w4 := Lib.hid (show (w3.alloc (.cells (bcs gf 64 gw 1) 92)).heap.size = gb + 1 by rw [World.size_alloc, hgs])
  rw [← hg] at B
  try rw [← hg]
  have ne_F_B : gf ≠ gb := by have := Fp.out.lt; omega
  have ne_B_F : gb ≠ gf := fun h => ne_F_B h.symm
  have ne_Wd_B : gw ≠ gb := by have := Wdp.out.lt; omega
  have ne_B_Wd : gb ≠ gw := fun h => ne_Wd_B h.symm
  clear hg hgs HBp Fp Wdp
  replace B := Lib.hid B
  generalize w3.alloc (.cells (bcs gf 64 gw 1) 92) = w4 at *
  have r_F := F.out.row
  have o_F := F.out.open
  have l_F := F.out.lt
  have c_F := F.out.cell
  have z_F := F.out.frozen
  have r_Wd := Wd.out.row
  have o_Wd := Wd.out.open
  have l_Wd := Wd.out.lt
  have c_Wd := Wd.out.cell
  have z_Wd := Wd.out.frozen
  have r_B := B.out.row
  have o_B := B.out.open
  have l_B := B.out.lt
  have c_B := B.out.cell
  have z_B := B.out.frozen
  go_wp2_with fail
  clear r_F o_F l_F c_F z_F r_Wd o_Wd l_Wd c_Wd z_Wd r_B o_B l_B c_B z_B
  refine (bnew_nil 64 _).mono ?_
  rintro e w_ ⟨rfl, hw_⟩
  obtain rfl := hw_.symm
  clear hw_
  have r_F := F.out.row
  have o_F := F.out.open
  have l_F := F.out.lt
  have c_F := F.out.cell
  have z_F := F.out.frozen
  have r_Wd := Wd.out.row
  have o_Wd := Wd.out.open
  have l_Wd := Wd.out.lt
  have c_Wd := Wd.out.cell
  have z_Wd := Wd.out.frozen
  have r_B := B.out.row
  have o_B := B.out.open
  have l_B := B.out.lt
  have c_B := B.out.cell
  have z_B := B.out.frozen
  go_wp2_with fail
  clear r_F o_F l_F c_F z_F r_Wd o_Wd l_Wd c_Wd z_Wd r_B o_B l_B c_B z_B
  refine (bnew_no gf 0 (.inl (by decide)) _).mono ?_
  rintro e w_ ⟨rfl, hw_⟩
  obtain rfl := hw_.symm
  clear hw_
  have r_F := F.out.row
  have o_F := F.out.open
  have l_F := F.out.lt
  have c_F := F.out.cell
  have z_F := F.out.frozen
  have r_Wd := Wd.out.row
  have o_Wd := Wd.out.open
  have l_Wd := Wd.out.lt
  have c_Wd := Wd.out.cell
  have z_Wd := Wd.out.frozen
  have r_B := B.out.row
  have o_B := B.out.open
  have l_B := B.out.lt
  have c_B := B.out.cell
  have z_B := B.out.frozen
  go_wp2_with fail
  clear r_F o_F l_F c_F z_F r_Wd o_Wd l_Wd c_Wd z_Wd r_B o_B l_B c_B z_B
  refine (KK.out _).mono ?_
  rintro e w5 ⟨rfl, hb⟩
  have hbs : Below w4.heap.size w4 w5 := step_below (by first | exact Below.refl _ _ | exact (Below.refl _ _).drew | exact (Below.refl _ _).alloc (Nat.le_refl _) _ | exact ((Below.refl _ _).alloc (Nat.le_refl _) _).drew | exact ((Below.refl _ _).drew).alloc (Nat.le_refl _) _ | exact ((Below.refl _ _).alloc (Nat.le_refl _) _).alloc (by simp) _ | exact (((Below.refl _ _).alloc (Nat.le_refl _) _).alloc (by simp) _).drew | exact (((Below.refl _ _).alloc (Nat.le_refl _) _).alloc (by simp) _).alloc (by simp; omega) _) hb
  try clear HBz
  have HBz := HB.out.size
  replace HB := Lib.hid (step_below HB.out hbs)
  replace F := Lib.hid (F.out.below hbs F.out.lt)
  replace Wd := Lib.hid (Wd.out.below hbs Wd.out.lt)
  replace B := Lib.hid (B.out.below hbs B.out.lt)
  clear hbs
  clear hb
  go_wp2_with fail
  have HBp := HB
  have K := at_new w5 40 (kc k) (w5.heap.size) rfl
  replace HB := Lib.hid (HB.out.alloc HB.out.size (.cells (kc k) 40))
  have Fp := F
  replace F := Lib.hid (F.out.alloc (.cells (kc k) 40))
  have Wdp := Wd
  replace Wd := Lib.hid (Wd.out.alloc (.cells (kc k) 40))
  have Bp := B
  replace B := Lib.hid (B.out.alloc (.cells (kc k) 40))
  obtain ⟨gk, hg⟩ : ∃ g, g = w5.heap.size := ⟨_, rfl⟩
  have hgs : gk = w5.heap.size := by rw [hg]
  have b_gk : w.heap.size ≤ gk := by rw [hgs]; exact HBp.out.size
  have S_w6 := Lib.hid (show (w5.alloc (.cells (kc k) 40)).heap.size = gk + 1 by rw [World.size_alloc, hgs])
  rw [← hg] at K
  try rw [← hg]
  have ne_F_K : gf ≠ gk := by have := Fp.out.lt; omega
  have ne_K_F : gk ≠ gf := fun h => ne_F_K h.symm
  have ne_Wd_K : gw ≠ gk := by have := Wdp.out.lt; omega
  have ne_K_Wd : gk ≠ gw := fun h => ne_Wd_K h.symm
  have ne_B_K : gb ≠ gk := by have := Bp.out.lt; omega
  have ne_K_B : gk ≠ gb := fun h => ne_B_K h.symm
  clear hg hgs HBp Fp Wdp Bp
  replace K := Lib.hid K
  generalize w5.alloc (.cells (kc k) 40) = w6 at *
  have hx0 : Hid (∀ x ∈ wz, x < 18446744073709551616) := Lib.hid (lt_of_rep 1)
  have hx1 : Hid (∀ x ∈ insAll wz aP, x < 18446744073709551616) := Lib.hid (insAll_lt aP wz hx0.out)
  have l0 : Hid (wz.length = 1) := Lib.hid rfl
  have l1 : Hid ((insAll wz aP).length = 1) := Lib.hid (by rw [insAll_length]; rfl)
  have A1 := Lib.hid AF.out.1.1
  have A2 := Lib.hid AF.out.1.2
  have A3 := Lib.hid AF.out.2.1
  have A4 := Lib.hid AF.out.2.2.1
  have A5 := Lib.hid AF.out.2.2.2.1
  have A6 := Lib.hid AF.out.2.2.2.2.1
  have A7 := Lib.hid AF.out.2.2.2.2.2
  clear AF
  have r_F := F.out.row
  have o_F := F.out.open
  have l_F := F.out.lt
  have c_F := F.out.cell
  have z_F := F.out.frozen
  have r_Wd := Wd.out.row
  have o_Wd := Wd.out.open
  have l_Wd := Wd.out.lt
  have c_Wd := Wd.out.cell
  have z_Wd := Wd.out.frozen
  have r_B := B.out.row
  have o_B := B.out.open
  have l_B := B.out.lt
  have c_B := B.out.cell
  have z_B := B.out.frozen
  have r_K := K.out.row
  have o_K := K.out.open
  have l_K := K.out.lt
  have c_K := K.out.cell
  have z_K := K.out.frozen
  refine region_sq (fun i => i = gw) [(0, true), (1, true), (3, true), (4, true), (2, false), (5, false), (6, true), (7, true)] (by kernel_rfl) (by kernel_rfl) (fun _ _ d _ _ h => by cases d <;> exact h) ?_
  repeat (first
    | (refine sq_yes rfl (by rfl) (fun w' hM => by ((try replace hM := hM.of_drew); obtain ⟨hR1, hR2, hR3⟩ := hM.rules; clear hM; go_simp; with_reducible rfl)) ?_; simp only [Act.put, List.setIfInBounds_toArray, List.set_cons_zero, List.set_cons_succ])
    | (refine sq_no rfl (by rfl) ?_; simp only [Act.put, List.setIfInBounds_toArray, List.set_cons_zero, List.set_cons_succ]))
  clear r_F o_F l_F c_F z_F r_Wd o_Wd l_Wd c_Wd z_Wd r_B o_B l_B c_B z_B r_K o_K l_K c_K z_K
  replace F := Lib.hid F.out.drew
  replace Wd := Lib.hid Wd.out.drew
  replace B := Lib.hid B.out.drew
  replace K := Lib.hid K.out.drew
  replace HB := Lib.hid HB.out.drew
  generalize w6.drew = w7 at *
  refine sq_do_yes rfl (by rfl) (fun K_ hK_ => ?_)
  go_wp2_with fail
  refine (insert_any gb gw gf c k 64 1 wz _ B.out Wd.out F.out ne_B_Wd (by decide) (by decide) rfl l0.out hx0.out e5.1 e5.2 e7).mono ?_
  rintro e w8 ⟨rfl, hA, hm⟩
  replace HB := Lib.hid (HB.out.trans (mod_below hm HB.out.size (fun i hi => by rw [hi]; exact b_gw)))
  replace F := Lib.hid (F.out.mod hm ne_F_Wd)
  replace B := Lib.hid (B.out.mod hm ne_B_Wd)
  replace K := Lib.hid (K.out.mod hm ne_K_Wd)
  replace Wd := Lib.hid hA
  clear hA
  rw [← HP.out] at Wd
  rw [← HP.out, A1.out]
  go_wp2_with fail
  refine ⟨hm, ?_⟩
  clear hm
  have r_F := F.out.row
  have o_F := F.out.open
  have l_F := F.out.lt
  have c_F := F.out.cell
  have z_F := F.out.frozen
  have r_Wd := Wd.out.row
  have o_Wd := Wd.out.open
  have l_Wd := Wd.out.lt
  have c_Wd := Wd.out.cell
  have z_Wd := Wd.out.frozen
  have r_B := B.out.row
  have o_B := B.out.open
  have l_B := B.out.lt
  have c_B := B.out.cell
  have z_B := B.out.frozen
  have r_K := K.out.row
  have o_K := K.out.open
  have l_K := K.out.lt
  have c_K := K.out.cell
  have z_K := K.out.frozen
  repeat (first
    | (refine sq_yes rfl (by rfl) (fun w' hM => by ((try replace hM := hM.of_drew); obtain ⟨hR1, hR2, hR3⟩ := hM.rules; clear hM; go_simp; with_reducible rfl)) ?_; simp only [Act.put, List.setIfInBounds_toArray, List.set_cons_zero, List.set_cons_succ])
    | (refine sq_no rfl (by rfl) ?_; simp only [Act.put, List.setIfInBounds_toArray, List.set_cons_zero, List.set_cons_succ]))
  clear r_F o_F l_F c_F z_F r_Wd o_Wd l_Wd c_Wd z_Wd r_B o_B l_B c_B z_B r_K o_K l_K c_K z_K
  refine sq_do_yes rfl (by rfl) (fun K_ hK_ => ?_)
  go_wp2_with fail
  refine (insert_any gb gw gf c k 64 1 (insAll wz aP) _ B.out Wd.out F.out ne_B_Wd (by decide) (by decide) rfl l1.out hx1.out e5.1 e5.2 e7).mono ?_
  rintro e w9 ⟨rfl, hA, hm⟩
  replace HB := Lib.hid (HB.out.trans (mod_below hm HB.out.size (fun i hi => by rw [hi]; exact b_gw)))
  replace F := Lib.hid (F.out.mod hm ne_F_Wd)
  replace B := Lib.hid (B.out.mod hm ne_B_Wd)
  replace K := Lib.hid (K.out.mod hm ne_K_Wd)
  replace Wd := Lib.hid hA
  clear hA
  rw [← HP.out, A3.out] at Wd
  rw [← HP.out, A2.out]
  go_wp2_with fail
  refine ⟨hm, ?_⟩
  clear hm
  have r_F := F.out.row
  have o_F := F.out.open
  have l_F := F.out.lt
  have c_F := F.out.cell
  have z_F := F.out.frozen
  have r_Wd := Wd.out.row
  have o_Wd := Wd.out.open
  have l_Wd := Wd.out.lt
  have c_Wd := Wd.out.cell
  have z_Wd := Wd.out.frozen
  have r_B := B.out.row
  have o_B := B.out.open
  have l_B := B.out.lt
  have c_B := B.out.cell
  have z_B := B.out.frozen
  have r_K := K.out.row
  have o_K := K.out.open
  have l_K := K.out.lt
  have c_K := K.out.cell
  have z_K := K.out.frozen
  repeat (first
    | (refine sq_yes rfl (by rfl) (fun w' hM => by ((try replace hM := hM.of_drew); obtain ⟨hR1, hR2, hR3⟩ := hM.rules; clear hM; go_simp; with_reducible rfl)) ?_; simp only [Act.put, List.setIfInBounds_toArray, List.set_cons_zero, List.set_cons_succ])
    | (refine sq_no rfl (by rfl) ?_; simp only [Act.put, List.setIfInBounds_toArray, List.set_cons_zero, List.set_cons_succ]))
  clear r_F o_F l_F c_F z_F r_Wd o_Wd l_Wd c_Wd z_Wd r_B o_B l_B c_B z_B r_K o_K l_K c_K z_K
  refine sq_end ?_
  obtain ⟨cn, hcn⟩ : ∃ n, n = cntW (insAll wz aP) := ⟨_, rfl⟩
  have hcb : 1 ≤ cn ∧ cn ≤ 4 := by rw [hcn]; exact A5.out
  have HC := Lib.hid hcn.symm
  clear hcn
  have r_F := F.out.row
  have o_F := F.out.open
  have l_F := F.out.lt
  have c_F := F.out.cell
  have z_F := F.out.frozen
  have r_Wd := Wd.out.row
  have o_Wd := Wd.out.open
  have l_Wd := Wd.out.lt
  have c_Wd := Wd.out.cell
  have z_Wd := Wd.out.frozen
  have r_B := B.out.row
  have o_B := B.out.open
  have l_B := B.out.lt
  have c_B := B.out.cell
  have z_B := B.out.frozen
  have r_K := K.out.row
  have o_K := K.out.open
  have l_K := K.out.lt
  have c_K := K.out.cell
  have z_K := K.out.frozen
  go_wp2_with fail
  clear r_F o_F l_F c_F z_F r_Wd o_Wd l_Wd c_Wd z_Wd r_B o_B l_B c_B z_B r_K o_K l_K c_K z_K
  refine (has_any gb gw gf c k 64 1 (insAll wz aP) _ B.out Wd.out F.out (by decide) (by decide) rfl l1.out hx1.out e5.1 e5.2 e7).mono ?_
  rintro e w10 ⟨rfl, hb⟩
  have hbs : Below w9.heap.size w9 w10 := step_below (by first | exact Below.refl _ _ | exact (Below.refl _ _).drew | exact (Below.refl _ _).alloc (Nat.le_refl _) _ | exact ((Below.refl _ _).alloc (Nat.le_refl _) _).drew | exact ((Below.refl _ _).drew).alloc (Nat.le_refl _) _ | exact ((Below.refl _ _).alloc (Nat.le_refl _) _).alloc (by simp) _ | exact (((Below.refl _ _).alloc (Nat.le_refl _) _).alloc (by simp) _).drew | exact (((Below.refl _ _).alloc (Nat.le_refl _) _).alloc (by simp) _).alloc (by simp; omega) _) hb
  try clear HBz
  have HBz := HB.out.size
  replace HB := Lib.hid (step_below HB.out hbs)
  replace F := Lib.hid (F.out.below hbs F.out.lt)
  replace Wd := Lib.hid (Wd.out.below hbs Wd.out.lt)
  replace B := Lib.hid (B.out.below hbs B.out.lt)
  replace K := Lib.hid (K.out.below hbs K.out.lt)
  clear hbs
  clear hb
  rw [← HP.out, A4.out]
  have r_F := F.out.row
  have o_F := F.out.open
  have l_F := F.out.lt
  have c_F := F.out.cell
  have z_F := F.out.frozen
  have r_Wd := Wd.out.row
  have o_Wd := Wd.out.open
  have l_Wd := Wd.out.lt
  have c_Wd := Wd.out.cell
  have z_Wd := Wd.out.frozen
  have r_B := B.out.row
  have o_B := B.out.open
  have l_B := B.out.lt
  have c_B := B.out.cell
  have z_B := B.out.frozen
  have r_K := K.out.row
  have o_K := K.out.open
  have l_K := K.out.lt
  have c_K := K.out.cell
  have z_K := K.out.frozen
  go_wp2_with fail
  clear r_F o_F l_F c_F z_F r_Wd o_Wd l_Wd c_Wd z_Wd r_B o_B l_B c_B z_B r_K o_K l_K c_K z_K
  refine (count_any gb gw gf 64 1 (insAll wz aP) _ B.out Wd.out l1.out (by decide) hx1.out).mono ?_
  rintro e w11 ⟨rfl, hb⟩
  have hbs : Below w10.heap.size w10 w11 := step_below (by first | exact Below.refl _ _ | exact (Below.refl _ _).drew | exact (Below.refl _ _).alloc (Nat.le_refl _) _ | exact ((Below.refl _ _).alloc (Nat.le_refl _) _).drew | exact ((Below.refl _ _).drew).alloc (Nat.le_refl _) _ | exact ((Below.refl _ _).alloc (Nat.le_refl _) _).alloc (by simp) _ | exact (((Below.refl _ _).alloc (Nat.le_refl _) _).alloc (by simp) _).drew | exact (((Below.refl _ _).alloc (Nat.le_refl _) _).alloc (by simp) _).alloc (by simp; omega) _) hb
  try clear HBz
  have HBz := HB.out.size
  replace HB := Lib.hid (step_below HB.out hbs)
  replace F := Lib.hid (F.out.below hbs F.out.lt)
  replace Wd := Lib.hid (Wd.out.below hbs Wd.out.lt)
  replace B := Lib.hid (B.out.below hbs B.out.lt)
  replace K := Lib.hid (K.out.below hbs K.out.lt)
  clear hbs
  clear hb
  rw [HC.out]
  have r_F := F.out.row
  have o_F := F.out.open
  have l_F := F.out.lt
  have c_F := F.out.cell
  have z_F := F.out.frozen
  have r_Wd := Wd.out.row
  have o_Wd := Wd.out.open
  have l_Wd := Wd.out.lt
  have c_Wd := Wd.out.cell
  have z_Wd := Wd.out.frozen
  have r_B := B.out.row
  have o_B := B.out.open
  have l_B := B.out.lt
  have c_B := B.out.cell
  have z_B := B.out.frozen
  have r_K := K.out.row
  have o_K := K.out.open
  have l_K := K.out.lt
  have c_K := K.out.cell
  have z_K := K.out.frozen
  go_wp2_with fail
  clear r_F o_F l_F c_F z_F r_Wd o_Wd l_Wd c_Wd z_Wd r_B o_B l_B c_B z_B r_K o_K l_K c_K z_K
  refine (clear_any gb gw gf 64 1 (insAll wz aP) _ B.out Wd.out l1.out (by decide)).mono ?_
  rintro e w12 ⟨⟨v, rfl⟩, hA, hm⟩
  replace HB := Lib.hid (HB.out.trans (mod_below hm HB.out.size (fun i hi => by rw [hi]; exact b_gw)))
  replace F := Lib.hid (F.out.mod hm ne_F_Wd)
  replace B := Lib.hid (B.out.mod hm ne_B_Wd)
  replace K := Lib.hid (K.out.mod hm ne_K_Wd)
  replace Wd := Lib.hid hA
  clear hA
  clear hm
  rw [wz_eq] at Wd
  have b1 : decide ((1 : Int) ≤ (cn : Int)) = true := by simp; omega
  have b2 : decide ((cn : Int) ≤ 4) = true := by simp; omega
  have b3 : decide (1 ≤ cn) = true := by simp; omega
  have b4 : decide (cn ≤ 4) = true := by simp; omega
  have r_F := F.out.row
  have o_F := F.out.open
  have l_F := F.out.lt
  have c_F := F.out.cell
  have z_F := F.out.frozen
  have r_Wd := Wd.out.row
  have o_Wd := Wd.out.open
  have l_Wd := Wd.out.lt
  have c_Wd := Wd.out.cell
  have z_Wd := Wd.out.frozen
  have r_B := B.out.row
  have o_B := B.out.open
  have l_B := B.out.lt
  have c_B := B.out.cell
  have z_B := B.out.frozen
  have r_K := K.out.row
  have o_K := K.out.open
  have l_K := K.out.lt
  have c_K := K.out.cell
  have z_K := K.out.frozen
  go_wp2_with fail
  clear r_F o_F l_F c_F z_F r_Wd o_Wd l_Wd c_Wd z_Wd r_B o_B l_B c_B z_B r_K o_K l_K c_K z_K
  refine (has_any gb gw gf c k 64 1 wz _ B.out Wd.out F.out (by decide) (by decide) rfl l0.out hx0.out e5.1 e5.2 e7).mono ?_
  rintro e w13 ⟨rfl, hb⟩
  have hbs : Below w12.heap.size w12 w13 := step_below (by first | exact Below.refl _ _ | exact (Below.refl _ _).drew | exact (Below.refl _ _).alloc (Nat.le_refl _) _ | exact ((Below.refl _ _).alloc (Nat.le_refl _) _).drew | exact ((Below.refl _ _).drew).alloc (Nat.le_refl _) _ | exact ((Below.refl _ _).alloc (Nat.le_refl _) _).alloc (by simp) _ | exact (((Below.refl _ _).alloc (Nat.le_refl _) _).alloc (by simp) _).drew | exact (((Below.refl _ _).alloc (Nat.le_refl _) _).alloc (by simp) _).alloc (by simp; omega) _) hb
  try clear HBz
  have HBz := HB.out.size
  replace HB := Lib.hid (step_below HB.out hbs)
  replace F := Lib.hid (F.out.below hbs F.out.lt)
  replace Wd := Lib.hid (Wd.out.below hbs Wd.out.lt)
  replace B := Lib.hid (B.out.below hbs B.out.lt)
  replace K := Lib.hid (K.out.below hbs K.out.lt)
  clear hbs
  clear hb
  rw [← HP.out, A6.out]
  have r_F := F.out.row
  have o_F := F.out.open
  have l_F := F.out.lt
  have c_F := F.out.cell
  have z_F := F.out.frozen
  have r_Wd := Wd.out.row
  have o_Wd := Wd.out.open
  have l_Wd := Wd.out.lt
  have c_Wd := Wd.out.cell
  have z_Wd := Wd.out.frozen
  have r_B := B.out.row
  have o_B := B.out.open
  have l_B := B.out.lt
  have c_B := B.out.cell
  have z_B := B.out.frozen
  have r_K := K.out.row
  have o_K := K.out.open
  have l_K := K.out.lt
  have c_K := K.out.cell
  have z_K := K.out.frozen
  go_wp2_with fail
  clear r_F o_F l_F c_F z_F r_Wd o_Wd l_Wd c_Wd z_Wd r_B o_B l_B c_B z_B r_K o_K l_K c_K z_K
  refine (count_any gb gw gf 64 1 wz _ B.out Wd.out l0.out (by decide) hx0.out).mono ?_
  rintro e w14 ⟨rfl, hb⟩
  have hbs : Below w13.heap.size w13 w14 := step_below (by first | exact Below.refl _ _ | exact (Below.refl _ _).drew | exact (Below.refl _ _).alloc (Nat.le_refl _) _ | exact ((Below.refl _ _).alloc (Nat.le_refl _) _).drew | exact ((Below.refl _ _).drew).alloc (Nat.le_refl _) _ | exact ((Below.refl _ _).alloc (Nat.le_refl _) _).alloc (by simp) _ | exact (((Below.refl _ _).alloc (Nat.le_refl _) _).alloc (by simp) _).drew | exact (((Below.refl _ _).alloc (Nat.le_refl _) _).alloc (by simp) _).alloc (by simp; omega) _) hb
  try clear HBz
  have HBz := HB.out.size
  replace HB := Lib.hid (step_below HB.out hbs)
  replace F := Lib.hid (F.out.below hbs F.out.lt)
  replace Wd := Lib.hid (Wd.out.below hbs Wd.out.lt)
  replace B := Lib.hid (B.out.below hbs B.out.lt)
  replace K := Lib.hid (K.out.below hbs K.out.lt)
  clear hbs
  clear hb
  rw [A7.out]
  have r_F := F.out.row
  have o_F := F.out.open
  have l_F := F.out.lt
  have c_F := F.out.cell
  have z_F := F.out.frozen
  have r_Wd := Wd.out.row
  have o_Wd := Wd.out.open
  have l_Wd := Wd.out.lt
  have c_Wd := Wd.out.cell
  have z_Wd := Wd.out.frozen
  have r_B := B.out.row
  have o_B := B.out.open
  have l_B := B.out.lt
  have c_B := B.out.cell
  have z_B := B.out.frozen
  have r_K := K.out.row
  have o_K := K.out.open
  have l_K := K.out.lt
  have c_K := K.out.cell
  have z_K := K.out.frozen
  go_wp2_with fail
  clear r_F o_F l_F c_F z_F r_Wd o_Wd l_Wd c_Wd z_Wd r_B o_B l_B c_B z_B r_K o_K l_K c_K z_K
  refine (has_nil k _).mono ?_
  rintro e w15 ⟨rfl, hb⟩
  have hbs : Below w14.heap.size w14 w15 := step_below (by first | exact Below.refl _ _ | exact (Below.refl _ _).drew | exact (Below.refl _ _).alloc (Nat.le_refl _) _ | exact ((Below.refl _ _).alloc (Nat.le_refl _) _).drew | exact ((Below.refl _ _).drew).alloc (Nat.le_refl _) _ | exact ((Below.refl _ _).alloc (Nat.le_refl _) _).alloc (by simp) _ | exact (((Below.refl _ _).alloc (Nat.le_refl _) _).alloc (by simp) _).drew | exact (((Below.refl _ _).alloc (Nat.le_refl _) _).alloc (by simp) _).alloc (by simp; omega) _) hb
  try clear HBz
  have HBz := HB.out.size
  replace HB := Lib.hid (step_below HB.out hbs)
  replace F := Lib.hid (F.out.below hbs F.out.lt)
  replace Wd := Lib.hid (Wd.out.below hbs Wd.out.lt)
  replace B := Lib.hid (B.out.below hbs B.out.lt)
  replace K := Lib.hid (K.out.below hbs K.out.lt)
  clear hbs
  clear hb
  have r_F := F.out.row
  have o_F := F.out.open
  have l_F := F.out.lt
  have c_F := F.out.cell
  have z_F := F.out.frozen
  have r_Wd := Wd.out.row
  have o_Wd := Wd.out.open
  have l_Wd := Wd.out.lt
  have c_Wd := Wd.out.cell
  have z_Wd := Wd.out.frozen
  have r_B := B.out.row
  have o_B := B.out.open
  have l_B := B.out.lt
  have c_B := B.out.cell
  have z_B := B.out.frozen
  have r_K := K.out.row
  have o_K := K.out.open
  have l_K := K.out.lt
  have c_K := K.out.cell
  have z_K := K.out.frozen
  go_wp2_with fail
  clear r_F o_F l_F c_F z_F r_Wd o_Wd l_Wd c_Wd z_Wd r_B o_B l_B c_B z_B r_K o_K l_K c_K z_K
  refine (count_nil _).mono ?_
  rintro e w_ ⟨rfl, hw_⟩
  obtain rfl := hw_.symm
  clear hw_
  have r_F := F.out.row
  have o_F := F.out.open
  have l_F := F.out.lt
  have c_F := F.out.cell
  have z_F := F.out.frozen
  have r_Wd := Wd.out.row
  have o_Wd := Wd.out.open
  have l_Wd := Wd.out.lt
  have c_Wd := Wd.out.cell
  have z_Wd := Wd.out.frozen
  have r_B := B.out.row
  have o_B := B.out.open
  have l_B := B.out.lt
  have c_B := B.out.cell
  have z_B := B.out.frozen
  have r_K := K.out.row
  have o_K := K.out.open
  have l_K := K.out.lt
  have c_K := K.out.cell
  have z_K := K.out.frozen
  go_wp2_with fail
  clear r_F o_F l_F c_F z_F r_Wd o_Wd l_Wd c_Wd z_Wd r_B o_B l_B c_B z_B r_K o_K l_K c_K z_K
  refine (insert_nil k _).mono ?_
  rintro e w16 ⟨rfl, hb⟩
  have hbs : Below w15.heap.size w15 w16 := step_below (by first | exact Below.refl _ _ | exact (Below.refl _ _).drew | exact (Below.refl _ _).alloc (Nat.le_refl _) _ | exact ((Below.refl _ _).alloc (Nat.le_refl _) _).drew | exact ((Below.refl _ _).drew).alloc (Nat.le_refl _) _ | exact ((Below.refl _ _).alloc (Nat.le_refl _) _).alloc (by simp) _ | exact (((Below.refl _ _).alloc (Nat.le_refl _) _).alloc (by simp) _).drew | exact (((Below.refl _ _).alloc (Nat.le_refl _) _).alloc (by simp) _).alloc (by simp; omega) _) hb
  try clear HBz
  have HBz := HB.out.size
  replace HB := Lib.hid (step_below HB.out hbs)
  replace F := Lib.hid (F.out.below hbs F.out.lt)
  replace Wd := Lib.hid (Wd.out.below hbs Wd.out.lt)
  replace B := Lib.hid (B.out.below hbs B.out.lt)
  replace K := Lib.hid (K.out.below hbs K.out.lt)
  clear hbs
  clear hb
  have r_F := F.out.row
  have o_F := F.out.open
  have l_F := F.out.lt
  have c_F := F.out.cell
  have z_F := F.out.frozen
  have r_Wd := Wd.out.row
  have o_Wd := Wd.out.open
  have l_Wd := Wd.out.lt
  have c_Wd := Wd.out.cell
  have z_Wd := Wd.out.frozen
  have r_B := B.out.row
  have o_B := B.out.open
  have l_B := B.out.lt
  have c_B := B.out.cell
  have z_B := B.out.frozen
  have r_K := K.out.row
  have o_K := K.out.open
  have l_K := K.out.lt
  have c_K := K.out.cell
  have z_K := K.out.frozen
  go_wp2_with fail
  clear r_F o_F l_F c_F z_F r_Wd o_Wd l_Wd c_Wd z_Wd r_B o_B l_B c_B z_B r_K o_K l_K c_K z_K
  go_ret
  exact ⟨rfl, HB.out⟩
end Go.Proofs.Ytjjadakjkkmjgaa
