/-
  BloomUnion: its walk.
-/
import Derived.Test.YtjjadakjkkmjgaaFBloomK
namespace Go.Proofs.Ytjjadakjkkmjgaa
open Go.RowKit
set_option maxRecDepth 100000 in
set_option maxHeartbeats 32000000 in
theorem union_law (a0 : Option Addr) (n0 c0 : Nat) (z0 : List Int) (a1 : Int) (a2 : Option Addr) (n2 c2 : Nat) (z2 : List Int) (a3 : Option Addr) (n3 c3 : Nat) (z3 : List Int) (w : World) (h0 : IsRow .i64 w a0 n0 c0 z0) (_ : (Lit.int .i64 a1).wf = true) (h2 : IsRow .i64 w a2 n2 c2 z2) (h3 : IsRow .i64 w a3 n3 c3 z3) :
    Calls Try.prog 9 #[.slice a0 n0 c0, .int .i64 a1, .slice a2 n2 c2, .slice a3 n3 c3] w fun e w' => e = .returned (.bool true) ∧ Below w.heap.size w w' := by
  obtain ⟨hI, hm, _⟩ := h0.ints
  have HI := Lib.hid hI
  have Y := Lib.hid h2.inI
  have V := Lib.hid h3.inI
  have hm2 := h2.ints.2.1
  have hm3 := h3.ints.2.1
  have HZ := Lib.hid h2.ints.1.1
  have HV := Lib.hid h3.ints.1.1
  clear h0 hI h2 h3
  unfold maxLen at hm hm2 hm3
  have hcase : 30 < n0 ∨ (n0 ≤ 30 ∧ 30 < n2) ∨ (n0 ≤ 30 ∧ n2 ≤ 30 ∧ 30 < n3) ∨ (n0 ≤ 30 ∧ n2 ≤ 30 ∧ n3 ≤ 30 ∧ a1 < 1) ∨ (n0 ≤ 30 ∧ n2 ≤ 30 ∧ n3 ≤ 30 ∧ 1 ≤ a1 ∧ 65536 < a1) ∨ (n0 ≤ 30 ∧ n2 ≤ 30 ∧ n3 ≤ 30 ∧ 1 ≤ a1 ∧ a1 ≤ 65536) := by omega
  rcases hcase with hn | ⟨hn, hn2⟩ | ⟨hn, hn2, hn3⟩ | ⟨hn, hn2, hn3, hn4⟩ | ⟨hn, hn2, hn3, hn4, hn5⟩ | ⟨hn, hn2, hn3, hn4, hn5⟩
  iterate 5
    · go_enter Try.func9, Try.ntmps9
      go_wp2_with fail
      refine (bawake_any _).mono ?_
      rintro e w1 ⟨rfl, hb⟩
      go_wp2_with fail
      go_ret
      exact ⟨rfl, hb⟩
  · obtain ⟨N, rfl⟩ : ∃ N : Nat, a1 = N := ⟨a1.toNat, by omega⟩
    have hN1 : 1 ≤ N := by omega
    have hN2 : N ≤ 65536 := by omega
    clear hn4 hn5
    obtain ⟨c, hc⟩ : ∃ c, c = config (z0.take n0) := ⟨_, rfl⟩
    have KC := Lib.hid (fun (w : World) (h : Ints w a0 n0 (z0.take n0)) => config_any a0 n0 c0 (z0.take n0) w h (by omega))
    rw [← hc] at KC
    have OK := Lib.hid (show cok c = true by rw [hc]; exact cok_config _)
    have FC := Lib.hid (fits_of OK.out)
    clear hc
    have KK := Lib.hid (fun a w => key_any a true true w)
    have e5 : Hid (0 ≤ c.hashes ∧ c.hashes ≤ 80) := Lib.hid (by have := FC.out.ha; omega)
    have e7 : Hid (1 ≤ c.bloom) := Lib.hid (by have := FC.out.bl; omega)
    obtain ⟨I, hIe⟩ : ∃ I, I = z2.take n2 := ⟨_, rfl⟩
    obtain ⟨J, hJe⟩ : ∃ J, J = z3.take n3 := ⟨_, rfl⟩
    rw [← hIe] at Y HZ
    rw [← hJe] at V HV
    clear hIe hJe
    obtain ⟨n, hne⟩ : ∃ n, n = nw N := ⟨_, rfl⟩
    have NW := Lib.hid hne
    have hn64 : N ≤ n * 64 := by rw [hne]; unfold nw; omega
    have hn1k : n ≤ 1024 ∧ 1 ≤ n := by rw [hne]; unfold nw; omega
    obtain ⟨Z, hZe⟩ : ∃ Z, Z = List.replicate n 0 := ⟨_, rfl⟩
    have ZE := Lib.hid hZe
    have ZL := Lib.hid (show Z.length = n by rw [hZe]; simp)
    have ZX := Lib.hid (show ∀ x ∈ Z, x < 18446744073709551616 by rw [hZe]; exact lt_of_rep n)
    have ZB := Lib.hid (show ∀ p, bt Z p = false by intro p; rw [hZe]; exact bt_zero n p)
    clear hne hZe
    obtain ⟨ZI, hZI⟩ : ∃ ZI, ZI = fill akT c N Z I := ⟨_, rfl⟩
    have FL := Lib.hid (fun L => (fill_length akT c N L Z).trans ZL.out)
    have FX := Lib.hid (fun L => fill_lt akT c N L Z ZX.out)
    have IL := Lib.hid (show ZI.length = n by rw [hZI]; exact FL.out I)
    have IX := Lib.hid (show ∀ x ∈ ZI, x < 18446744073709551616 by rw [hZI]; exact FX.out I)
    have FL2 := Lib.hid (fun L => (fill_length akT c N L ZI).trans IL.out)
    have FX2 := Lib.hid (fun L => fill_lt akT c N L ZI IX.out)
    have UB := Lib.hid (union_bits c N hN1 Z (by rw [ZL.out]; exact hn64) ZB.out I J)
    rw [← hZI] at UB
    have ZIE := Lib.hid hZI.symm
    clear hZI
    have RL := Lib.hid (show I.reverse.length = n2 by rw [List.length_reverse]; exact HZ.out)
    go_enter Try.func9, Try.ntmps9
    have HB := Lib.hid (Below.refl w.heap.size w)
    
    
    go_wp2_with fail
    refine (KC.out _ HI.out).mono ?_
    rintro e w1 ⟨rfl, hb⟩
    have hbs : Below w.heap.size w w1 := step_below (by first | exact Below.refl _ _ | exact (Below.refl _ _).drew | exact (Below.refl _ _).alloc (Nat.le_refl _) _ | exact ((Below.refl _ _).alloc (Nat.le_refl _) _).drew | exact ((Below.refl _ _).drew).alloc (Nat.le_refl _) _ | exact ((Below.refl _ _).alloc (Nat.le_refl _) _).alloc (by simp) _ | exact (((Below.refl _ _).alloc (Nat.le_refl _) _).alloc (by simp) _).drew | exact (((Below.refl _ _).alloc (Nat.le_refl _) _).alloc (by simp) _).alloc (by simp; omega) _) hb
    try clear HBz
    have HBz := HB.out.size
    replace HB := Lib.hid (step_below HB.out hbs)
    replace Y := Lib.hid (Y.out.below hbs)
    replace V := Lib.hid (V.out.below hbs)
    clear hbs
    clear hb
    go_wp2_with fail
    refine (new_ok c _ OK.out).mono ?_
    rintro e w2 ⟨gf, rfl, hgf, hF, hb⟩
    have hbs : Below w1.heap.size w1 w2 := step_below (by first | exact Below.refl _ _ | exact (Below.refl _ _).drew | exact (Below.refl _ _).alloc (Nat.le_refl _) _ | exact ((Below.refl _ _).alloc (Nat.le_refl _) _).drew | exact ((Below.refl _ _).drew).alloc (Nat.le_refl _) _ | exact ((Below.refl _ _).alloc (Nat.le_refl _) _).alloc (by simp) _ | exact (((Below.refl _ _).alloc (Nat.le_refl _) _).alloc (by simp) _).drew | exact (((Below.refl _ _).alloc (Nat.le_refl _) _).alloc (by simp) _).alloc (by simp; omega) _) hb
    try clear HBz
    have HBz := HB.out.size
    replace HB := Lib.hid (step_below HB.out hbs)
    replace Y := Lib.hid (Y.out.below hbs)
    replace V := Lib.hid (V.out.below hbs)
    clear hbs
    clear hb
    have F := Lib.hid hF
    clear hF hgf
    
    go_wp2_with fail
    refine (bnew_ok gf N hN1 hN2 _).mono ?_
    rintro e w_ ⟨rfl, rfl⟩
    rw [← NW.out, ← ZE.out]
    have HBp := HB
    have Wx := at_new w2 86 (wd Z) (w2.heap.size) rfl
    replace HB := Lib.hid (HB.out.alloc HB.out.size (.cells (wd Z) 86))
    have Yp := Y
    replace Y := Lib.hid (Y.out.below ((Below.refl _ _).alloc (Nat.le_refl _) (.cells (wd Z) 86)))
    have Vp := V
    replace V := Lib.hid (V.out.below ((Below.refl _ _).alloc (Nat.le_refl _) (.cells (wd Z) 86)))
    have Fp := F
    replace F := Lib.hid (F.out.alloc (.cells (wd Z) 86))
    obtain ⟨gwx, hg⟩ : ∃ g, g = w2.heap.size := ⟨_, rfl⟩
    have hgs : gwx = w2.heap.size := by rw [hg]
    have b_gwx : w.heap.size ≤ gwx := by rw [hgs]; exact HBp.out.size
    have S_w3 := Lib.hid (show (w2.alloc (.cells (wd Z) 86)).heap.size = gwx + 1 by rw [World.size_alloc, hgs])
    rw [← hg] at Wx
    try rw [← hg]
    have ne_F_Wx : gf ≠ gwx := by have := Fp.out.lt; omega
    have ne_Wx_F : gwx ≠ gf := fun h => ne_F_Wx h.symm
    clear hg hgs HBp Yp Vp Fp
    replace Wx := Lib.hid Wx
    generalize w2.alloc (.cells (wd Z) 86) = w3 at *
    have HBp := HB
    have Bx := at_new w3 92 (bcs gf N gwx n) (gwx + 1) (S_w3.out.symm)
    replace HB := Lib.hid (HB.out.alloc HB.out.size (.cells (bcs gf N gwx n) 92))
    have Yp := Y
    replace Y := Lib.hid (Y.out.below ((Below.refl _ _).alloc (Nat.le_refl _) (.cells (bcs gf N gwx n) 92)))
    have Vp := V
    replace V := Lib.hid (V.out.below ((Below.refl _ _).alloc (Nat.le_refl _) (.cells (bcs gf N gwx n) 92)))
    have Fp := F
    replace F := Lib.hid (F.out.alloc (.cells (bcs gf N gwx n) 92))
    have Wxp := Wx
    replace Wx := Lib.hid (Wx.out.alloc (.cells (bcs gf N gwx n) 92))
    obtain ⟨gbx, hg⟩ : ∃ g, g = gwx + 1 := ⟨_, rfl⟩
    have hgs : gbx = w3.heap.size := by rw [hg, S_w3.out]
    have b_gbx : w.heap.size ≤ gbx := by rw [hgs]; exact HBp.out.size
    have S_w4 := Lib.hid (show (w3.alloc (.cells (bcs gf N gwx n) 92)).heap.size = gbx + 1 by rw [World.size_alloc, hgs])
    rw [← hg] at Bx
    try rw [← hg]
    have ne_F_Bx : gf ≠ gbx := by have := Fp.out.lt; omega
    have ne_Bx_F : gbx ≠ gf := fun h => ne_F_Bx h.symm
    have ne_Wx_Bx : gwx ≠ gbx := by have := Wxp.out.lt; omega
    have ne_Bx_Wx : gbx ≠ gwx := fun h => ne_Wx_Bx h.symm
    clear hg hgs HBp Yp Vp Fp Wxp
    replace Bx := Lib.hid Bx
    generalize w3.alloc (.cells (bcs gf N gwx n) 92) = w4 at *
    go_wp2_with fail
    refine (bnew_ok gf N hN1 hN2 _).mono ?_
    rintro e w_ ⟨rfl, rfl⟩
    rw [← NW.out, ← ZE.out]
    have HBp := HB
    have Wy := at_new w4 86 (wd Z) (w4.heap.size) rfl
    replace HB := Lib.hid (HB.out.alloc HB.out.size (.cells (wd Z) 86))
    have Yp := Y
    replace Y := Lib.hid (Y.out.below ((Below.refl _ _).alloc (Nat.le_refl _) (.cells (wd Z) 86)))
    have Vp := V
    replace V := Lib.hid (V.out.below ((Below.refl _ _).alloc (Nat.le_refl _) (.cells (wd Z) 86)))
    have Fp := F
    replace F := Lib.hid (F.out.alloc (.cells (wd Z) 86))
    have Wxp := Wx
    replace Wx := Lib.hid (Wx.out.alloc (.cells (wd Z) 86))
    have Bxp := Bx
    replace Bx := Lib.hid (Bx.out.alloc (.cells (wd Z) 86))
    obtain ⟨gwy, hg⟩ : ∃ g, g = w4.heap.size := ⟨_, rfl⟩
    have hgs : gwy = w4.heap.size := by rw [hg]
    have b_gwy : w.heap.size ≤ gwy := by rw [hgs]; exact HBp.out.size
    have S_w5 := Lib.hid (show (w4.alloc (.cells (wd Z) 86)).heap.size = gwy + 1 by rw [World.size_alloc, hgs])
    rw [← hg] at Wy
    try rw [← hg]
    have ne_F_Wy : gf ≠ gwy := by have := Fp.out.lt; omega
    have ne_Wy_F : gwy ≠ gf := fun h => ne_F_Wy h.symm
    have ne_Wx_Wy : gwx ≠ gwy := by have := Wxp.out.lt; omega
    have ne_Wy_Wx : gwy ≠ gwx := fun h => ne_Wx_Wy h.symm
    have ne_Bx_Wy : gbx ≠ gwy := by have := Bxp.out.lt; omega
    have ne_Wy_Bx : gwy ≠ gbx := fun h => ne_Bx_Wy h.symm
    clear hg hgs HBp Yp Vp Fp Wxp Bxp
    replace Wy := Lib.hid Wy
    generalize w4.alloc (.cells (wd Z) 86) = w5 at *
    have HBp := HB
    have By := at_new w5 92 (bcs gf N gwy n) (gwy + 1) (S_w5.out.symm)
    replace HB := Lib.hid (HB.out.alloc HB.out.size (.cells (bcs gf N gwy n) 92))
    have Yp := Y
    replace Y := Lib.hid (Y.out.below ((Below.refl _ _).alloc (Nat.le_refl _) (.cells (bcs gf N gwy n) 92)))
    have Vp := V
    replace V := Lib.hid (V.out.below ((Below.refl _ _).alloc (Nat.le_refl _) (.cells (bcs gf N gwy n) 92)))
    have Fp := F
    replace F := Lib.hid (F.out.alloc (.cells (bcs gf N gwy n) 92))
    have Wxp := Wx
    replace Wx := Lib.hid (Wx.out.alloc (.cells (bcs gf N gwy n) 92))
    have Bxp := Bx
    replace Bx := Lib.hid (Bx.out.alloc (.cells (bcs gf N gwy n) 92))
    have Wyp := Wy
    replace Wy := Lib.hid (Wy.out.alloc (.cells (bcs gf N gwy n) 92))
    obtain ⟨gby, hg⟩ : ∃ g, g = gwy + 1 := ⟨_, rfl⟩
    have hgs : gby = w5.heap.size := by rw [hg, S_w5.out]
    have b_gby : w.heap.size ≤ gby := by rw [hgs]; exact HBp.out.size
    have S_w6 := Lib.hid (show (w5.alloc (.cells (bcs gf N gwy n) 92)).heap.size = gby + 1 by rw [World.size_alloc, hgs])
    rw [← hg] at By
    try rw [← hg]
    have ne_F_By : gf ≠ gby := by have := Fp.out.lt; omega
    have ne_By_F : gby ≠ gf := fun h => ne_F_By h.symm
    have ne_Wx_By : gwx ≠ gby := by have := Wxp.out.lt; omega
    have ne_By_Wx : gby ≠ gwx := fun h => ne_Wx_By h.symm
    have ne_Bx_By : gbx ≠ gby := by have := Bxp.out.lt; omega
    have ne_By_Bx : gby ≠ gbx := fun h => ne_Bx_By h.symm
    have ne_Wy_By : gwy ≠ gby := by have := Wyp.out.lt; omega
    have ne_By_Wy : gby ≠ gwy := fun h => ne_Wy_By h.symm
    clear hg hgs HBp Yp Vp Fp Wxp Bxp Wyp
    replace By := Lib.hid By
    generalize w5.alloc (.cells (bcs gf N gwy n) 92) = w6 at *
    go_wp2_with fail
    refine (bnew_ok gf N hN1 hN2 _).mono ?_
    rintro e w_ ⟨rfl, rfl⟩
    rw [← NW.out, ← ZE.out]
    have HBp := HB
    have Wz := at_new w6 86 (wd Z) (w6.heap.size) rfl
    replace HB := Lib.hid (HB.out.alloc HB.out.size (.cells (wd Z) 86))
    have Yp := Y
    replace Y := Lib.hid (Y.out.below ((Below.refl _ _).alloc (Nat.le_refl _) (.cells (wd Z) 86)))
    have Vp := V
    replace V := Lib.hid (V.out.below ((Below.refl _ _).alloc (Nat.le_refl _) (.cells (wd Z) 86)))
    have Fp := F
    replace F := Lib.hid (F.out.alloc (.cells (wd Z) 86))
    have Wxp := Wx
    replace Wx := Lib.hid (Wx.out.alloc (.cells (wd Z) 86))
    have Bxp := Bx
    replace Bx := Lib.hid (Bx.out.alloc (.cells (wd Z) 86))
    have Wyp := Wy
    replace Wy := Lib.hid (Wy.out.alloc (.cells (wd Z) 86))
    have Byp := By
    replace By := Lib.hid (By.out.alloc (.cells (wd Z) 86))
    obtain ⟨gwz, hg⟩ : ∃ g, g = w6.heap.size := ⟨_, rfl⟩
    have hgs : gwz = w6.heap.size := by rw [hg]
    have b_gwz : w.heap.size ≤ gwz := by rw [hgs]; exact HBp.out.size
    have S_w7 := Lib.hid (show (w6.alloc (.cells (wd Z) 86)).heap.size = gwz + 1 by rw [World.size_alloc, hgs])
    rw [← hg] at Wz
    try rw [← hg]
    have ne_F_Wz : gf ≠ gwz := by have := Fp.out.lt; omega
    have ne_Wz_F : gwz ≠ gf := fun h => ne_F_Wz h.symm
    have ne_Wx_Wz : gwx ≠ gwz := by have := Wxp.out.lt; omega
    have ne_Wz_Wx : gwz ≠ gwx := fun h => ne_Wx_Wz h.symm
    have ne_Bx_Wz : gbx ≠ gwz := by have := Bxp.out.lt; omega
    have ne_Wz_Bx : gwz ≠ gbx := fun h => ne_Bx_Wz h.symm
    have ne_Wy_Wz : gwy ≠ gwz := by have := Wyp.out.lt; omega
    have ne_Wz_Wy : gwz ≠ gwy := fun h => ne_Wy_Wz h.symm
    have ne_By_Wz : gby ≠ gwz := by have := Byp.out.lt; omega
    have ne_Wz_By : gwz ≠ gby := fun h => ne_By_Wz h.symm
    clear hg hgs HBp Yp Vp Fp Wxp Bxp Wyp Byp
    replace Wz := Lib.hid Wz
    generalize w6.alloc (.cells (wd Z) 86) = w7 at *
    have HBp := HB
    have Bz := at_new w7 92 (bcs gf N gwz n) (gwz + 1) (S_w7.out.symm)
    replace HB := Lib.hid (HB.out.alloc HB.out.size (.cells (bcs gf N gwz n) 92))
    have Yp := Y
    replace Y := Lib.hid (Y.out.below ((Below.refl _ _).alloc (Nat.le_refl _) (.cells (bcs gf N gwz n) 92)))
    have Vp := V
    replace V := Lib.hid (V.out.below ((Below.refl _ _).alloc (Nat.le_refl _) (.cells (bcs gf N gwz n) 92)))
    have Fp := F
    replace F := Lib.hid (F.out.alloc (.cells (bcs gf N gwz n) 92))
    have Wxp := Wx
    replace Wx := Lib.hid (Wx.out.alloc (.cells (bcs gf N gwz n) 92))
    have Bxp := Bx
    replace Bx := Lib.hid (Bx.out.alloc (.cells (bcs gf N gwz n) 92))
    have Wyp := Wy
    replace Wy := Lib.hid (Wy.out.alloc (.cells (bcs gf N gwz n) 92))
    have Byp := By
    replace By := Lib.hid (By.out.alloc (.cells (bcs gf N gwz n) 92))
    have Wzp := Wz
    replace Wz := Lib.hid (Wz.out.alloc (.cells (bcs gf N gwz n) 92))
    obtain ⟨gbz, hg⟩ : ∃ g, g = gwz + 1 := ⟨_, rfl⟩
    have hgs : gbz = w7.heap.size := by rw [hg, S_w7.out]
    have b_gbz : w.heap.size ≤ gbz := by rw [hgs]; exact HBp.out.size
    have S_w8 := Lib.hid (show (w7.alloc (.cells (bcs gf N gwz n) 92)).heap.size = gbz + 1 by rw [World.size_alloc, hgs])
    rw [← hg] at Bz
    try rw [← hg]
    have ne_F_Bz : gf ≠ gbz := by have := Fp.out.lt; omega
    have ne_Bz_F : gbz ≠ gf := fun h => ne_F_Bz h.symm
    have ne_Wx_Bz : gwx ≠ gbz := by have := Wxp.out.lt; omega
    have ne_Bz_Wx : gbz ≠ gwx := fun h => ne_Wx_Bz h.symm
    have ne_Bx_Bz : gbx ≠ gbz := by have := Bxp.out.lt; omega
    have ne_Bz_Bx : gbz ≠ gbx := fun h => ne_Bx_Bz h.symm
    have ne_Wy_Bz : gwy ≠ gbz := by have := Wyp.out.lt; omega
    have ne_Bz_Wy : gbz ≠ gwy := fun h => ne_Wy_Bz h.symm
    have ne_By_Bz : gby ≠ gbz := by have := Byp.out.lt; omega
    have ne_Bz_By : gbz ≠ gby := fun h => ne_By_Bz h.symm
    have ne_Wz_Bz : gwz ≠ gbz := by have := Wzp.out.lt; omega
    have ne_Bz_Wz : gbz ≠ gwz := fun h => ne_Wz_Bz h.symm
    clear hg hgs HBp Yp Vp Fp Wxp Bxp Wyp Byp Wzp
    replace Bz := Lib.hid Bz
    generalize w7.alloc (.cells (bcs gf N gwz n) 92) = w8 at *
    go_wp2_with fail
    
    
    
    go_loopw [17] (fun i wr => ∃ t : Nat, t ≤ n2 ∧ i = .int .i64 ((n2 : Int) - 1 - (t : Int)) ∧ InI w.heap.size wr a2 n2 I ∧ InI w.heap.size wr a3 n3 J ∧ At wr gf 80 (fc c) ∧ At wr gwx 86 (wd (fill akT c N Z (I.reverse.take t))) ∧ At wr gbx 92 (bcs gf N gwx n) ∧ At wr gwy 86 (wd Z) ∧ At wr gby 92 (bcs gf N gwy n) ∧ At wr gwz 86 (wd (fill akT c N Z (I.take t))) ∧ At wr gbz 92 (bcs gf N gwz n) ∧ Below w.heap.size w wr) (fun i _ => (intOf i + 1).toNat)
    case atStart => exact ⟨0, Nat.zero_le _, by simp, Y.out, V.out, F.out, Wx.out, Bx.out, Wy.out, By.out, Wz.out, Bz.out, HB.out⟩
    case round =>
      obtain ⟨t, ht, rfl, hY_, hV_, hF_, hWx_, hBx_, hWy_, hBy_, hWz_, hBz_, hBel_⟩ := hrel
      have Y := Lib.hid hY_
      have V := Lib.hid hV_
      have F := Lib.hid hF_
      have Wx := Lib.hid hWx_
      have Bx := Lib.hid hBx_
      have Wy := Lib.hid hWy_
      have By := Lib.hid hBy_
      have Wz := Lib.hid hWz_
      have Bz := Lib.hid hBz_
      have HB := Lib.hid hBel_
      clear hY_ hV_ hF_ hWx_ hBx_ hWy_ hBy_ hWz_ hBz_ hBel_
      
      by_cases hlt : t < n2
      · obtain ⟨b, o, hab⟩ := Y.out.addr (by omega)
        subst hab
        
        have htl : t < I.length := by rw [HZ.out]; exact hlt
        have htr : t < I.reverse.length := by rw [RL.out]; exact hlt
        obtain ⟨u, hu⟩ : ∃ u : Nat, (n2 : Int) - 1 - (t : Int) = (u : Int) := ⟨n2 - 1 - t, by omega⟩
        have hun : u < n2 := by omega
        have FT1 := fill_take akT c N Z I.reverse t htr
        rw [rev_getD I t htl, show I.length - 1 - t = u by rw [HZ.out]; omega] at FT1
        have FT2 := fill_take akT c N Z I t htl
        obtain ⟨x, hx⟩ : ∃ x, x = I.getD u 0 := ⟨_, rfl⟩
        obtain ⟨y, hy⟩ : ∃ y, y = I.getD t 0 := ⟨_, rfl⟩
        obtain ⟨wa, hwa⟩ : ∃ ws, ws = fill akT c N Z (I.reverse.take t) := ⟨_, rfl⟩
        obtain ⟨wb, hwb⟩ : ∃ ws, ws = fill akT c N Z (I.take t) := ⟨_, rfl⟩
        have L1 := Lib.hid (show wa.length = n by rw [hwa]; exact FL.out _)
        have X1 := Lib.hid (show ∀ x ∈ wa, x < 18446744073709551616 by rw [hwa]; exact FX.out _)
        have L2 := Lib.hid (show wb.length = n by rw [hwb]; exact FL.out _)
        have X2 := Lib.hid (show ∀ x ∈ wb, x < 18446744073709551616 by rw [hwb]; exact FX.out _)
        rw [← hx, ← hwa] at FT1
        rw [← hy, ← hwb] at FT2
        have F1 := Lib.hid (show insAll wa (pN c (akey x true true) N) = _ from FT1)
        have F2 := Lib.hid (show insAll wb (pN c (akey y true true) N) = _ from FT2)
        have HX := Lib.hid hx
        have HY := Lib.hid hy
        have HU := Lib.hid hu
        rw [← hwa] at Wx
        rw [← hwb] at Wz
        have q1 : (n2 : Int) - 1 - (u : Int) = (t : Int) := by omega
        rw [hu]
        clear FT1 FT2 hx hy hwa hwb hu
        have x0 := Y.out.get u hun
        rw [← HX.out] at x0
        go_wp2_with fail
        clear x0
        refine (KK.out x _).mono ?_
        rintro e w9 ⟨rfl, hb⟩
        have hbs : Below wr.heap.size wr w9 := step_below (by first | exact Below.refl _ _ | exact (Below.refl _ _).drew | exact (Below.refl _ _).alloc (Nat.le_refl _) _ | exact ((Below.refl _ _).alloc (Nat.le_refl _) _).drew | exact ((Below.refl _ _).drew).alloc (Nat.le_refl _) _ | exact ((Below.refl _ _).alloc (Nat.le_refl _) _).alloc (by simp) _ | exact (((Below.refl _ _).alloc (Nat.le_refl _) _).alloc (by simp) _).drew | exact (((Below.refl _ _).alloc (Nat.le_refl _) _).alloc (by simp) _).alloc (by simp; omega) _) hb
        try clear HBz
        have HBz := HB.out.size
        replace HB := Lib.hid (step_below HB.out hbs)
        replace Y := Lib.hid (Y.out.below hbs)
        replace V := Lib.hid (V.out.below hbs)
        replace F := Lib.hid (F.out.below hbs F.out.lt)
        replace Wx := Lib.hid (Wx.out.below hbs Wx.out.lt)
        replace Bx := Lib.hid (Bx.out.below hbs Bx.out.lt)
        replace Wy := Lib.hid (Wy.out.below hbs Wy.out.lt)
        replace By := Lib.hid (By.out.below hbs By.out.lt)
        replace Wz := Lib.hid (Wz.out.below hbs Wz.out.lt)
        replace Bz := Lib.hid (Bz.out.below hbs Bz.out.lt)
        clear hbs
        clear hb
        go_wp2_with fail
        refine (insert_any gbx gwx gf c (akey x true true) N n wa _ Bx.out Wx.out F.out ne_Bx_Wx hN1 hN2 NW.out L1.out X1.out e5.out.1 e5.out.2 e7.out).mono ?_
        rintro e w10 ⟨rfl, hA, hm⟩
        replace HB := Lib.hid (HB.out.trans (mod_below hm HB.out.size (fun i hi => by rw [hi]; exact b_gwx)))
        replace Y := Lib.hid (Y.out.modb hm (fun i hi => by rw [hi]; exact b_gwx))
        replace V := Lib.hid (V.out.modb hm (fun i hi => by rw [hi]; exact b_gwx))
        replace F := Lib.hid (F.out.mod hm ne_F_Wx)
        replace Bx := Lib.hid (Bx.out.mod hm ne_Bx_Wx)
        replace Wy := Lib.hid (Wy.out.mod hm ne_Wy_Wx)
        replace By := Lib.hid (By.out.mod hm ne_By_Wx)
        replace Wz := Lib.hid (Wz.out.mod hm ne_Wz_Wx)
        replace Bz := Lib.hid (Bz.out.mod hm ne_Bz_Wx)
        replace Wx := Lib.hid hA
        clear hA
        clear hm
        rw [F1.out] at Wx
        have x0 := Y.out.get t hlt
        rw [← HY.out] at x0
        go_wp2_with fail
        clear x0
        refine (KK.out y _).mono ?_
        rintro e w11 ⟨rfl, hb⟩
        have hbs : Below w10.heap.size w10 w11 := step_below (by first | exact Below.refl _ _ | exact (Below.refl _ _).drew | exact (Below.refl _ _).alloc (Nat.le_refl _) _ | exact ((Below.refl _ _).alloc (Nat.le_refl _) _).drew | exact ((Below.refl _ _).drew).alloc (Nat.le_refl _) _ | exact ((Below.refl _ _).alloc (Nat.le_refl _) _).alloc (by simp) _ | exact (((Below.refl _ _).alloc (Nat.le_refl _) _).alloc (by simp) _).drew | exact (((Below.refl _ _).alloc (Nat.le_refl _) _).alloc (by simp) _).alloc (by simp; omega) _) hb
        try clear HBz
        have HBz := HB.out.size
        replace HB := Lib.hid (step_below HB.out hbs)
        replace Y := Lib.hid (Y.out.below hbs)
        replace V := Lib.hid (V.out.below hbs)
        replace F := Lib.hid (F.out.below hbs F.out.lt)
        replace Wx := Lib.hid (Wx.out.below hbs Wx.out.lt)
        replace Bx := Lib.hid (Bx.out.below hbs Bx.out.lt)
        replace Wy := Lib.hid (Wy.out.below hbs Wy.out.lt)
        replace By := Lib.hid (By.out.below hbs By.out.lt)
        replace Wz := Lib.hid (Wz.out.below hbs Wz.out.lt)
        replace Bz := Lib.hid (Bz.out.below hbs Bz.out.lt)
        clear hbs
        clear hb
        go_wp2_with fail
        refine (insert_any gbz gwz gf c (akey y true true) N n wb _ Bz.out Wz.out F.out ne_Bz_Wz hN1 hN2 NW.out L2.out X2.out e5.out.1 e5.out.2 e7.out).mono ?_
        rintro e w12 ⟨rfl, hA, hm⟩
        replace HB := Lib.hid (HB.out.trans (mod_below hm HB.out.size (fun i hi => by rw [hi]; exact b_gwz)))
        replace Y := Lib.hid (Y.out.modb hm (fun i hi => by rw [hi]; exact b_gwz))
        replace V := Lib.hid (V.out.modb hm (fun i hi => by rw [hi]; exact b_gwz))
        replace F := Lib.hid (F.out.mod hm ne_F_Wz)
        replace Wx := Lib.hid (Wx.out.mod hm ne_Wx_Wz)
        replace Bx := Lib.hid (Bx.out.mod hm ne_Bx_Wz)
        replace Wy := Lib.hid (Wy.out.mod hm ne_Wy_Wz)
        replace By := Lib.hid (By.out.mod hm ne_By_Wz)
        replace Bz := Lib.hid (Bz.out.mod hm ne_Bz_Wz)
        replace Wz := Lib.hid hA
        clear hA
        clear hm
        rw [F2.out] at Wz
        go_wp2_with fail
        go_roundw
        case rel => exact ⟨t + 1, by omega, by congr 1; omega, Y.out, V.out, F.out, Wx.out, Bx.out, Wy.out, By.out, Wz.out, Bz.out, HB.out⟩
        case measure => simp [intOf] <;> omega
      · obtain rfl : n2 = t := by omega
        
        rw [show (n2 : Int) - 1 - (n2 : Int) = -1 by omega]
        rw [List.take_of_length_le (Nat.le_of_eq RL.out)] at Wx
        rw [List.take_of_length_le (Nat.le_of_eq HZ.out), ZIE.out] at Wz
        obtain ⟨wX, hwX⟩ : ∃ ws, ws = fill akT c N Z I.reverse := ⟨_, rfl⟩
        have LX := Lib.hid (show wX.length = n by rw [hwX]; exact FL.out _)
        have XX := Lib.hid (show ∀ x ∈ wX, x < 18446744073709551616 by rw [hwX]; exact FX.out _)
        rw [← hwX] at Wx UB
        clear hwX
        
        
        
        go_wp2_with fail
        go_loopw [18] (fun i wr => ∃ s : Nat, s ≤ n3 ∧ i = .int .i64 s ∧ InI w.heap.size wr a2 n2 I ∧ InI w.heap.size wr a3 n3 J ∧ At wr gf 80 (fc c) ∧ At wr gwx 86 (wd wX) ∧ At wr gbx 92 (bcs gf N gwx n) ∧ At wr gwy 86 (wd (fill akT c N Z (J.take s))) ∧ At wr gby 92 (bcs gf N gwy n) ∧ At wr gwz 86 (wd (fill akT c N ZI (J.take s))) ∧ At wr gbz 92 (bcs gf N gwz n) ∧ Below w.heap.size w wr) (fun i _ => n3 - (intOf i).toNat)
        case atStart => exact ⟨0, Nat.zero_le _, rfl, Y.out, V.out, F.out, Wx.out, Bx.out, Wy.out, By.out, Wz.out, Bz.out, HB.out⟩
        case round =>
          obtain ⟨s, hs, rfl, hY_, hV_, hF_, hWx_, hBx_, hWy_, hBy_, hWz_, hBz_, hBel_⟩ := hrel
          have Y := Lib.hid hY_
          have V := Lib.hid hV_
          have F := Lib.hid hF_
          have Wx := Lib.hid hWx_
          have Bx := Lib.hid hBx_
          have Wy := Lib.hid hWy_
          have By := Lib.hid hBy_
          have Wz := Lib.hid hWz_
          have Bz := Lib.hid hBz_
          have HB := Lib.hid hBel_
          clear hY_ hV_ hF_ hWx_ hBx_ hWy_ hBy_ hWz_ hBz_ hBel_
          
          by_cases hsl : s < n3
          · obtain ⟨b, o, hab⟩ := V.out.addr (by omega)
            subst hab
            
            have hsI : s < J.length := by rw [HV.out]; exact hsl
            have FT1 := fill_take akT c N Z J s hsI
            have FT2 := fill_take akT c N ZI J s hsI
            obtain ⟨x, hx⟩ : ∃ x, x = J.getD s 0 := ⟨_, rfl⟩
            obtain ⟨wa, hwa⟩ : ∃ ws, ws = fill akT c N Z (J.take s) := ⟨_, rfl⟩
            obtain ⟨wb, hwb⟩ : ∃ ws, ws = fill akT c N ZI (J.take s) := ⟨_, rfl⟩
            have L1 := Lib.hid (show wa.length = n by rw [hwa]; exact FL.out _)
            have X1 := Lib.hid (show ∀ x ∈ wa, x < 18446744073709551616 by rw [hwa]; exact FX.out _)
            have L2 := Lib.hid (show wb.length = n by rw [hwb]; exact FL2.out _)
            have X2 := Lib.hid (show ∀ x ∈ wb, x < 18446744073709551616 by rw [hwb]; exact FX2.out _)
            rw [← hx, ← hwa] at FT1
            rw [← hx, ← hwb] at FT2
            have F1 := Lib.hid (show insAll wa (pN c (akey x true true) N) = _ from FT1)
            have F2 := Lib.hid (show insAll wb (pN c (akey x true true) N) = _ from FT2)
            have HX := Lib.hid hx
            rw [← hwa] at Wy
            rw [← hwb] at Wz
            clear FT1 FT2 hx hwa hwb
            have x0 := V.out.get s hsl
            rw [← HX.out] at x0
            go_wp2_with fail
            clear x0
            refine (KK.out x _).mono ?_
            rintro e w13 ⟨rfl, hb⟩
            have hbs : Below wr.heap.size wr w13 := step_below (by first | exact Below.refl _ _ | exact (Below.refl _ _).drew | exact (Below.refl _ _).alloc (Nat.le_refl _) _ | exact ((Below.refl _ _).alloc (Nat.le_refl _) _).drew | exact ((Below.refl _ _).drew).alloc (Nat.le_refl _) _ | exact ((Below.refl _ _).alloc (Nat.le_refl _) _).alloc (by simp) _ | exact (((Below.refl _ _).alloc (Nat.le_refl _) _).alloc (by simp) _).drew | exact (((Below.refl _ _).alloc (Nat.le_refl _) _).alloc (by simp) _).alloc (by simp; omega) _) hb
            try clear HBz
            have HBz := HB.out.size
            replace HB := Lib.hid (step_below HB.out hbs)
            replace Y := Lib.hid (Y.out.below hbs)
            replace V := Lib.hid (V.out.below hbs)
            replace F := Lib.hid (F.out.below hbs F.out.lt)
            replace Wx := Lib.hid (Wx.out.below hbs Wx.out.lt)
            replace Bx := Lib.hid (Bx.out.below hbs Bx.out.lt)
            replace Wy := Lib.hid (Wy.out.below hbs Wy.out.lt)
            replace By := Lib.hid (By.out.below hbs By.out.lt)
            replace Wz := Lib.hid (Wz.out.below hbs Wz.out.lt)
            replace Bz := Lib.hid (Bz.out.below hbs Bz.out.lt)
            clear hbs
            clear hb
            go_wp2_with fail
            refine (insert_any gby gwy gf c (akey x true true) N n wa _ By.out Wy.out F.out ne_By_Wy hN1 hN2 NW.out L1.out X1.out e5.out.1 e5.out.2 e7.out).mono ?_
            rintro e w14 ⟨rfl, hA, hm⟩
            replace HB := Lib.hid (HB.out.trans (mod_below hm HB.out.size (fun i hi => by rw [hi]; exact b_gwy)))
            replace Y := Lib.hid (Y.out.modb hm (fun i hi => by rw [hi]; exact b_gwy))
            replace V := Lib.hid (V.out.modb hm (fun i hi => by rw [hi]; exact b_gwy))
            replace F := Lib.hid (F.out.mod hm ne_F_Wy)
            replace Wx := Lib.hid (Wx.out.mod hm ne_Wx_Wy)
            replace Bx := Lib.hid (Bx.out.mod hm ne_Bx_Wy)
            replace By := Lib.hid (By.out.mod hm ne_By_Wy)
            replace Wz := Lib.hid (Wz.out.mod hm ne_Wz_Wy)
            replace Bz := Lib.hid (Bz.out.mod hm ne_Bz_Wy)
            replace Wy := Lib.hid hA
            clear hA
            clear hm
            rw [F1.out] at Wy
            have x0 := V.out.get s hsl
            rw [← HX.out] at x0
            go_wp2_with fail
            clear x0
            refine (KK.out x _).mono ?_
            rintro e w15 ⟨rfl, hb⟩
            have hbs : Below w14.heap.size w14 w15 := step_below (by first | exact Below.refl _ _ | exact (Below.refl _ _).drew | exact (Below.refl _ _).alloc (Nat.le_refl _) _ | exact ((Below.refl _ _).alloc (Nat.le_refl _) _).drew | exact ((Below.refl _ _).drew).alloc (Nat.le_refl _) _ | exact ((Below.refl _ _).alloc (Nat.le_refl _) _).alloc (by simp) _ | exact (((Below.refl _ _).alloc (Nat.le_refl _) _).alloc (by simp) _).drew | exact (((Below.refl _ _).alloc (Nat.le_refl _) _).alloc (by simp) _).alloc (by simp; omega) _) hb
            try clear HBz
            have HBz := HB.out.size
            replace HB := Lib.hid (step_below HB.out hbs)
            replace Y := Lib.hid (Y.out.below hbs)
            replace V := Lib.hid (V.out.below hbs)
            replace F := Lib.hid (F.out.below hbs F.out.lt)
            replace Wx := Lib.hid (Wx.out.below hbs Wx.out.lt)
            replace Bx := Lib.hid (Bx.out.below hbs Bx.out.lt)
            replace Wy := Lib.hid (Wy.out.below hbs Wy.out.lt)
            replace By := Lib.hid (By.out.below hbs By.out.lt)
            replace Wz := Lib.hid (Wz.out.below hbs Wz.out.lt)
            replace Bz := Lib.hid (Bz.out.below hbs Bz.out.lt)
            clear hbs
            clear hb
            go_wp2_with fail
            refine (insert_any gbz gwz gf c (akey x true true) N n wb _ Bz.out Wz.out F.out ne_Bz_Wz hN1 hN2 NW.out L2.out X2.out e5.out.1 e5.out.2 e7.out).mono ?_
            rintro e w16 ⟨rfl, hA, hm⟩
            replace HB := Lib.hid (HB.out.trans (mod_below hm HB.out.size (fun i hi => by rw [hi]; exact b_gwz)))
            replace Y := Lib.hid (Y.out.modb hm (fun i hi => by rw [hi]; exact b_gwz))
            replace V := Lib.hid (V.out.modb hm (fun i hi => by rw [hi]; exact b_gwz))
            replace F := Lib.hid (F.out.mod hm ne_F_Wz)
            replace Wx := Lib.hid (Wx.out.mod hm ne_Wx_Wz)
            replace Bx := Lib.hid (Bx.out.mod hm ne_Bx_Wz)
            replace Wy := Lib.hid (Wy.out.mod hm ne_Wy_Wz)
            replace By := Lib.hid (By.out.mod hm ne_By_Wz)
            replace Bz := Lib.hid (Bz.out.mod hm ne_Bz_Wz)
            replace Wz := Lib.hid hA
            clear hA
            clear hm
            rw [F2.out] at Wz
            go_wp2_with fail
            go_roundw
            case rel => exact ⟨s + 1, by omega, by go_num, Y.out, V.out, F.out, Wx.out, Bx.out, Wy.out, By.out, Wz.out, Bz.out, HB.out⟩
            case measure => simp [intOf] <;> omega
          · obtain rfl : n3 = s := by omega
            
            rw [List.take_of_length_le (Nat.le_of_eq HV.out)] at Wy Wz
            obtain ⟨wY, hwY⟩ : ∃ ws, ws = fill akT c N Z J := ⟨_, rfl⟩
            obtain ⟨wZ, hwZ⟩ : ∃ ws, ws = fill akT c N ZI J := ⟨_, rfl⟩
            have LY := Lib.hid (show wY.length = n by rw [hwY]; exact FL.out _)
            have XY := Lib.hid (show ∀ x ∈ wY, x < 18446744073709551616 by rw [hwY]; exact FX.out _)
            have LZ := Lib.hid (show wZ.length = n by rw [hwZ]; exact FL2.out _)
            have XZ := Lib.hid (show ∀ x ∈ wZ, x < 18446744073709551616 by rw [hwZ]; exact FX2.out _)
            rw [← hwY] at Wy UB
            rw [← hwZ] at Wz UB
            clear hwY hwZ
            
            
            obtain ⟨P, hP⟩ : ∃ P, P = onesTo wX N := ⟨_, rfl⟩
            obtain ⟨Q, hQ⟩ : ∃ P, P = onesTo wY N := ⟨_, rfl⟩
            obtain ⟨R, hR⟩ : ∃ P, P = onesTo wZ N := ⟨_, rfl⟩
            have MG := Lib.hid (show mg P Q = R by rw [hP, hQ, hR]; exact mg_ones wX wY wZ N UB.out)
            have PL : P.length ≤ 65536 := by rw [hP]; exact Nat.le_trans (onesTo_length _ _) hN2
            have QL : Q.length ≤ 65536 := by rw [hQ]; exact Nat.le_trans (onesTo_length _ _) hN2
            have RLL : R.length ≤ 65536 := by rw [hR]; exact Nat.le_trans (onesTo_length _ _) hN2
            have HP := Lib.hid hP.symm
            have HQ := Lib.hid hQ.symm
            have HR := Lib.hid hR.symm
            clear hP hQ hR
            go_wp2_with fail
            refine (onesl_any gbx gwx gf N n wX (-1) _ hN2 NW.out LX.out XX.out Bx.out Wx.out).mono ?_
            rintro e w17 ⟨v, rfl, ho, hb⟩
            have hbs : Below wr.heap.size wr w17 := step_below (by first | exact Below.refl _ _ | exact (Below.refl _ _).drew | exact (Below.refl _ _).alloc (Nat.le_refl _) _ | exact ((Below.refl _ _).alloc (Nat.le_refl _) _).drew | exact ((Below.refl _ _).drew).alloc (Nat.le_refl _) _ | exact ((Below.refl _ _).alloc (Nat.le_refl _) _).alloc (by simp) _ | exact (((Below.refl _ _).alloc (Nat.le_refl _) _).alloc (by simp) _).drew | exact (((Below.refl _ _).alloc (Nat.le_refl _) _).alloc (by simp) _).alloc (by simp; omega) _) hb
            try clear HBz
            have HBz := HB.out.size
            replace HB := Lib.hid (step_below HB.out hbs)
            replace Y := Lib.hid (Y.out.below hbs)
            replace V := Lib.hid (V.out.below hbs)
            replace F := Lib.hid (F.out.below hbs F.out.lt)
            replace Wx := Lib.hid (Wx.out.below hbs Wx.out.lt)
            replace Bx := Lib.hid (Bx.out.below hbs Bx.out.lt)
            replace Wy := Lib.hid (Wy.out.below hbs Wy.out.lt)
            replace By := Lib.hid (By.out.below hbs By.out.lt)
            replace Wz := Lib.hid (Wz.out.below hbs Wz.out.lt)
            replace Bz := Lib.hid (Bz.out.below hbs Bz.out.lt)
            clear hbs
            clear hb
            rw [cutN_all, HP.out] at ho
            obtain ⟨b1, m1, q1, rfl, hm1, hy1, _⟩ := ho.parts
            have PP := Lib.hid hy1
            have M1 := Lib.hid (show m1 = P.length by rw [hm1]; simp)
            clear ho hm1 hy1
            go_wp2_with fail
            refine (onesl_any gby gwy gf N n wY (-1) _ hN2 NW.out LY.out XY.out By.out Wy.out).mono ?_
            rintro e w18 ⟨v, rfl, ho, hb⟩
            have hbs : Below w17.heap.size w17 w18 := step_below (by first | exact Below.refl _ _ | exact (Below.refl _ _).drew | exact (Below.refl _ _).alloc (Nat.le_refl _) _ | exact ((Below.refl _ _).alloc (Nat.le_refl _) _).drew | exact ((Below.refl _ _).drew).alloc (Nat.le_refl _) _ | exact ((Below.refl _ _).alloc (Nat.le_refl _) _).alloc (by simp) _ | exact (((Below.refl _ _).alloc (Nat.le_refl _) _).alloc (by simp) _).drew | exact (((Below.refl _ _).alloc (Nat.le_refl _) _).alloc (by simp) _).alloc (by simp; omega) _) hb
            try clear HBz
            have HBz := HB.out.size
            replace HB := Lib.hid (step_below HB.out hbs)
            replace Y := Lib.hid (Y.out.below hbs)
            replace V := Lib.hid (V.out.below hbs)
            replace F := Lib.hid (F.out.below hbs F.out.lt)
            replace Wx := Lib.hid (Wx.out.below hbs Wx.out.lt)
            replace Bx := Lib.hid (Bx.out.below hbs Bx.out.lt)
            replace Wy := Lib.hid (Wy.out.below hbs Wy.out.lt)
            replace By := Lib.hid (By.out.below hbs By.out.lt)
            replace Wz := Lib.hid (Wz.out.below hbs Wz.out.lt)
            replace Bz := Lib.hid (Bz.out.below hbs Bz.out.lt)
            replace PP := Lib.hid (PP.out.below hbs)
            clear hbs
            clear hb
            rw [cutN_all, HQ.out] at ho
            obtain ⟨b2, m2, q2, rfl, hm1, hy1, _⟩ := ho.parts
            have QQ := Lib.hid hy1
            have M2 := Lib.hid (show m2 = Q.length by rw [hm1]; simp)
            clear ho hm1 hy1
            go_wp2_with fail
            refine (onesl_any gbz gwz gf N n wZ (-1) _ hN2 NW.out LZ.out XZ.out Bz.out Wz.out).mono ?_
            rintro e w19 ⟨v, rfl, ho, hb⟩
            have hbs : Below w18.heap.size w18 w19 := step_below (by first | exact Below.refl _ _ | exact (Below.refl _ _).drew | exact (Below.refl _ _).alloc (Nat.le_refl _) _ | exact ((Below.refl _ _).alloc (Nat.le_refl _) _).drew | exact ((Below.refl _ _).drew).alloc (Nat.le_refl _) _ | exact ((Below.refl _ _).alloc (Nat.le_refl _) _).alloc (by simp) _ | exact (((Below.refl _ _).alloc (Nat.le_refl _) _).alloc (by simp) _).drew | exact (((Below.refl _ _).alloc (Nat.le_refl _) _).alloc (by simp) _).alloc (by simp; omega) _) hb
            try clear HBz
            have HBz := HB.out.size
            replace HB := Lib.hid (step_below HB.out hbs)
            replace Y := Lib.hid (Y.out.below hbs)
            replace V := Lib.hid (V.out.below hbs)
            replace F := Lib.hid (F.out.below hbs F.out.lt)
            replace Wx := Lib.hid (Wx.out.below hbs Wx.out.lt)
            replace Bx := Lib.hid (Bx.out.below hbs Bx.out.lt)
            replace Wy := Lib.hid (Wy.out.below hbs Wy.out.lt)
            replace By := Lib.hid (By.out.below hbs By.out.lt)
            replace Wz := Lib.hid (Wz.out.below hbs Wz.out.lt)
            replace Bz := Lib.hid (Bz.out.below hbs Bz.out.lt)
            replace PP := Lib.hid (PP.out.below hbs)
            replace QQ := Lib.hid (QQ.out.below hbs)
            clear hbs
            clear hb
            rw [cutN_all, HR.out] at ho
            obtain ⟨b3, m3, q3, rfl, hm1, hy1, _⟩ := ho.parts
            have RR := Lib.hid hy1
            have M3 := Lib.hid (show m3 = R.length by rw [hm1]; simp)
            clear ho hm1 hy1
            go_wp2_with fail
            obtain ⟨W0, rfl⟩ : ∃ W0 : World, W0 = w19 := ⟨_, rfl⟩
            go_loopw [22, 23, 24] (fun i k v wr => ∃ a b : Nat, ∃ acc : List Nat, (a ≤ m1 ∧ b ≤ m2) ∧ (i = .int .i64 a ∧ k = .int .i64 b) ∧ (acc.length ≤ a + b ∧ acc ++ mg (P.drop a) (Q.drop b) = R) ∧ OI wr W0.heap.size v (acc.map fun p : Nat => (p : Int)) ∧ Below W0.heap.size W0 wr) (fun i k _ _ => (m1 - (intOf i).toNat) + (m2 - (intOf k).toNat))
            case atStart => exact ⟨0, 0, [], ⟨by omega, by omega⟩, ⟨rfl, rfl⟩, ⟨by simp, by simpa using MG.out⟩, OI.nil _ _, Below.refl _ _⟩
            case round =>
              obtain ⟨a, b, acc, ⟨ha, hb0⟩, ⟨rfl, rfl⟩, ⟨hal, hacc⟩, ho, hbw⟩ := hrel
              have HA := Lib.hid hacc
              have HO := Lib.hid ho
              have HBW := Lib.hid hbw
              have l1 : m1 ≤ 65536 := by rw [M1.out]; exact PL
              have l2 : m2 ≤ 65536 := by rw [M2.out]; exact QL
              clear hacc ho hbw
              
              rcases (show (a = m1 ∧ b = m2) ∨ (a < m1 ∧ b = m2) ∨ (a = m1 ∧ b < m2) ∨ (a < m1 ∧ b < m2) by omega) with ⟨hx1, hx2⟩ | ⟨h1, hx2⟩ | ⟨hx1, h2⟩ | ⟨h1, h2⟩
              · have hR : acc = R := by
                  have := HA.out
                  rw [List.drop_of_length_le (by rw [hx1, M1.out]; exact Nat.le_refl _), mg_nil, List.drop_of_length_le (by rw [hx2, M2.out]; exact Nat.le_refl _), List.append_nil] at this
                  exact this
                subst hx1
                subst hx2
                obtain ⟨a4, m4, q4, hv, hm4, hy4, _⟩ := HO.out.parts
                subst hv
                have HY4 := Lib.hid hy4
                have hm5 : m4 ≤ 1000000 := by rw [hm4, List.length_map]; omega
                have hm6 : m3 ≤ 1000000 := by rw [M3.out]; omega
                have BE := Lib.hid (show ((acc.map fun p : Nat => (p : Int)) == (R.map fun p : Nat => (p : Int))) = true by rw [hR]; simp)
                clear hy4 hm4 hR
                go_wp2_with fail
                refine (ints_any a4 m4 q4 _ b3 m3 q3 _ _ HY4.out (RR.out.below HBW.out) hm5 hm6).mono ?_
                rintro e wf ⟨rfl, hb⟩
                rw [BE.out]
                have HB2 := Lib.hid (step_below (step_below HB.out HBW.out) hb)
                clear hb
                go_wp2_with fail
                refine (bawake_any _).mono ?_
                rintro e wg ⟨rfl, hb2⟩
                go_wp2_with fail
                go_ret
                exact ⟨rfl, step_below HB2.out hb2⟩
              · subst hx2
                have ST0 := mg_step HA.out (mgA P Q a b (by rw [← M1.out]; omega) (by rw [← M2.out]; exact Nat.le_refl _))
                obtain ⟨bp, op, hap⟩ := PP.out.addr (by omega)
                subst hap
                obtain ⟨x, hx⟩ : ∃ x, x = P.getD a 0 := ⟨_, rfl⟩
                rw [← hx] at ST0
                have HX := Lib.hid hx.symm
                clear hx
                have ST := Lib.hid ST0
                clear ST0
                
                go_wp2_with fail
                have x0 := (PP.out.below HBW.out).get a (by omega)
                rw [cast_get, HX.out] at x0
                have lx := (PP.out.below HBW.out).lt (by omega)
                refine region_sq (fun _ => False) [(0, true), (1, true), (2, true), (3, true), (4, true), (5, true), (6, true), (7, true), (8, true), (9, true), (10, true), (11, true), (12, true), (13, true), (14, true), (15, true), (16, true), (17, true), (18, true), (19, true), (20, true), (21, true)] (by kernel_rfl) (by kernel_rfl) (fun _ _ d _ _ h => by cases d <;> exact h) ?_
                repeat (first
                  | (refine sq_yes rfl (by rfl) (fun w' hM => by ((try replace hM := hM.of_drew); obtain ⟨hR1, hR2, hR3⟩ := hM.rules; clear hM; go_simp; with_reducible rfl)) ?_; simp only [Act.put, List.setIfInBounds_toArray, List.set_cons_zero, List.set_cons_succ])
                  | (refine sq_no rfl (by rfl) ?_; simp only [Act.put, List.setIfInBounds_toArray, List.set_cons_zero, List.set_cons_succ]))
                replace HO := Lib.hid HO.out.drew
                replace HBW := Lib.hid HBW.out.drew
                replace HB := Lib.hid HB.out.drew
                generalize wr.drew = w20 at *
                refine sq_end ?_
                clear x0 lx
                have x0 := (PP.out.below HBW.out).get a (by omega)
                rw [cast_get, HX.out] at x0
                have lx := (PP.out.below HBW.out).lt (by omega)
                go_wp2_with (at_builtin; refine wpList_appi W0.heap.size (acc.map fun p : Nat => (p : Int)) ((x : Nat) : Int) _ HO.out (by rw [List.length_map]; omega) HBW.out.size rfl _ _ rfl rfl rfl rfl ?_; intro v' w' ho' hb'; have HO2 := Lib.hid ho'; have HB2 := Lib.hid hb'; clear ho' hb')
                go_roundw
                case rel => exact ⟨a + 1, b, acc ++ [x], ⟨by omega, by omega⟩, ⟨by go_num, by go_num⟩, ⟨by rw [List.length_append]; simp; omega, ST.out⟩, by rw [List.map_append]; exact HO2.out, HBW.out.trans HB2.out⟩
                case measure => simp [intOf] <;> omega
              · subst hx1
                have ST0 := mg_step HA.out (mgB P Q a b (by rw [← M1.out]; exact Nat.le_refl _) (by rw [← M2.out]; omega))
                obtain ⟨bq, oq, haq⟩ := QQ.out.addr (by omega)
                subst haq
                obtain ⟨y, hy⟩ : ∃ y, y = Q.getD b 0 := ⟨_, rfl⟩
                rw [← hy] at ST0
                have nb : (b == m2) = false := by simp; omega
                have nb2 : ((b : Int) == (m2 : Int)) = false := by simp; omega
                have HY := Lib.hid hy.symm
                clear hy
                have ST := Lib.hid ST0
                clear ST0
                
                go_wp2_with fail
                have y0 := (QQ.out.below HBW.out).get b (by omega)
                rw [cast_get, HY.out] at y0
                have ly := (QQ.out.below HBW.out).lt (by omega)
                refine region_sq (fun _ => False) [(0, true), (1, true), (2, true), (3, true), (4, true), (5, true), (6, true), (7, true), (8, true), (9, true), (10, true), (11, true), (12, true), (13, true), (14, true), (15, true), (16, true), (17, true), (18, true), (19, true), (20, true), (21, true)] (by kernel_rfl) (by kernel_rfl) (fun _ _ d _ _ h => by cases d <;> exact h) ?_
                repeat (first
                  | (refine sq_yes rfl (by rfl) (fun w' hM => by ((try replace hM := hM.of_drew); obtain ⟨hR1, hR2, hR3⟩ := hM.rules; clear hM; go_simp; with_reducible rfl)) ?_; simp only [Act.put, List.setIfInBounds_toArray, List.set_cons_zero, List.set_cons_succ])
                  | (refine sq_no rfl (by rfl) ?_; simp only [Act.put, List.setIfInBounds_toArray, List.set_cons_zero, List.set_cons_succ]))
                replace HO := Lib.hid HO.out.drew
                replace HBW := Lib.hid HBW.out.drew
                replace HB := Lib.hid HB.out.drew
                generalize wr.drew = w21 at *
                refine sq_end ?_
                clear y0 ly
                go_wp2_with fail
                have y0 := (QQ.out.below HBW.out).get b (by omega)
                rw [cast_get, HY.out] at y0
                have ly := (QQ.out.below HBW.out).lt (by omega)
                refine region_sq (fun _ => False) [(0, true), (1, true), (2, true), (3, true), (4, true), (5, true), (6, true), (7, true), (8, true), (9, true), (10, true), (11, true), (12, true), (13, true), (14, true), (15, true)] (by kernel_rfl) (by kernel_rfl) (fun _ _ d _ _ h => by cases d <;> exact h) ?_
                repeat (first
                  | (refine sq_yes rfl (by rfl) (fun w' hM => by ((try replace hM := hM.of_drew); obtain ⟨hR1, hR2, hR3⟩ := hM.rules; clear hM; go_simp; with_reducible rfl)) ?_; simp only [Act.put, List.setIfInBounds_toArray, List.set_cons_zero, List.set_cons_succ])
                  | (refine sq_no rfl (by rfl) ?_; simp only [Act.put, List.setIfInBounds_toArray, List.set_cons_zero, List.set_cons_succ]))
                replace HO := Lib.hid HO.out.drew
                replace HBW := Lib.hid HBW.out.drew
                replace HB := Lib.hid HB.out.drew
                generalize w21.drew = w22 at *
                refine sq_end ?_
                clear y0 ly
                have y0 := (QQ.out.below HBW.out).get b (by omega)
                rw [cast_get, HY.out] at y0
                have ly := (QQ.out.below HBW.out).lt (by omega)
                go_wp2_with (at_builtin; refine wpList_appi W0.heap.size (acc.map fun p : Nat => (p : Int)) ((y : Nat) : Int) _ HO.out (by rw [List.length_map]; omega) HBW.out.size rfl _ _ rfl rfl rfl rfl ?_; intro v' w' ho' hb'; have HO2 := Lib.hid ho'; have HB2 := Lib.hid hb'; clear ho' hb')
                go_roundw
                case rel => exact ⟨a, b + 1, acc ++ [y], ⟨by omega, by omega⟩, ⟨by go_num, by go_num⟩, ⟨by rw [List.length_append]; simp; omega, ST.out⟩, by rw [List.map_append]; exact HO2.out, HBW.out.trans HB2.out⟩
                case measure => simp [intOf] <;> omega
              · rcases Nat.lt_trichotomy (P.getD a 0) (Q.getD b 0) with hlt | heq | hgt
                · have ST0 := mg_step HA.out (mgL P Q a b (by rw [← M1.out]; omega) (by rw [← M2.out]; omega) hlt)
                  obtain ⟨bp, op, hap⟩ := PP.out.addr (by omega)
                  subst hap
                  obtain ⟨x, hx⟩ : ∃ x, x = P.getD a 0 := ⟨_, rfl⟩
                  obtain ⟨bq, oq, haq⟩ := QQ.out.addr (by omega)
                  subst haq
                  obtain ⟨y, hy⟩ : ∃ y, y = Q.getD b 0 := ⟨_, rfl⟩
                  rw [← hx] at ST0
                  rw [← hx, ← hy] at hlt
                  have nb : (b == m2) = false := by simp; omega
                  have nb2 : ((b : Int) == (m2 : Int)) = false := by simp; omega
                  have c1 : decide (x < y) = true := by simp; omega
                  have c2 : decide ((x : Int) < (y : Int)) = true := by simp; omega
                  have c3 : decide (y < x) = false := by simp; omega
                  have c4 : decide ((y : Int) < (x : Int)) = false := by simp; omega
                  have HX := Lib.hid hx.symm
                  clear hx
                  have HY := Lib.hid hy.symm
                  clear hy
                  have ST := Lib.hid ST0
                  clear ST0
                  
                  go_wp2_with fail
                  have x0 := (PP.out.below HBW.out).get a (by omega)
                  rw [cast_get, HX.out] at x0
                  have lx := (PP.out.below HBW.out).lt (by omega)
                  have y0 := (QQ.out.below HBW.out).get b (by omega)
                  rw [cast_get, HY.out] at y0
                  have ly := (QQ.out.below HBW.out).lt (by omega)
                  refine region_sq (fun _ => False) [(0, true), (1, true), (2, true), (3, true), (4, true), (5, true), (6, true), (7, true), (8, true), (9, true), (10, true), (11, true), (12, true), (13, true), (14, true), (15, true), (16, true), (17, true), (18, true), (19, true), (20, true), (21, true)] (by kernel_rfl) (by kernel_rfl) (fun _ _ d _ _ h => by cases d <;> exact h) ?_
                  repeat (first
                    | (refine sq_yes rfl (by rfl) (fun w' hM => by ((try replace hM := hM.of_drew); obtain ⟨hR1, hR2, hR3⟩ := hM.rules; clear hM; go_simp; with_reducible rfl)) ?_; simp only [Act.put, List.setIfInBounds_toArray, List.set_cons_zero, List.set_cons_succ])
                    | (refine sq_no rfl (by rfl) ?_; simp only [Act.put, List.setIfInBounds_toArray, List.set_cons_zero, List.set_cons_succ]))
                  replace HO := Lib.hid HO.out.drew
                  replace HBW := Lib.hid HBW.out.drew
                  replace HB := Lib.hid HB.out.drew
                  generalize wr.drew = w23 at *
                  refine sq_end ?_
                  clear x0 y0 lx ly
                  have x0 := (PP.out.below HBW.out).get a (by omega)
                  rw [cast_get, HX.out] at x0
                  have lx := (PP.out.below HBW.out).lt (by omega)
                  have y0 := (QQ.out.below HBW.out).get b (by omega)
                  rw [cast_get, HY.out] at y0
                  have ly := (QQ.out.below HBW.out).lt (by omega)
                  go_wp2_with (at_builtin; refine wpList_appi W0.heap.size (acc.map fun p : Nat => (p : Int)) ((x : Nat) : Int) _ HO.out (by rw [List.length_map]; omega) HBW.out.size rfl _ _ rfl rfl rfl rfl ?_; intro v' w' ho' hb'; have HO2 := Lib.hid ho'; have HB2 := Lib.hid hb'; clear ho' hb')
                  go_roundw
                  case rel => exact ⟨a + 1, b, acc ++ [x], ⟨by omega, by omega⟩, ⟨by go_num, by go_num⟩, ⟨by rw [List.length_append]; simp; omega, ST.out⟩, by rw [List.map_append]; exact HO2.out, HBW.out.trans HB2.out⟩
                  case measure => simp [intOf] <;> omega
                · have ST0 := mg_step HA.out (mgE P Q a b (by rw [← M1.out]; omega) (by rw [← M2.out]; omega) heq)
                  obtain ⟨bp, op, hap⟩ := PP.out.addr (by omega)
                  subst hap
                  obtain ⟨x, hx⟩ : ∃ x, x = P.getD a 0 := ⟨_, rfl⟩
                  obtain ⟨bq, oq, haq⟩ := QQ.out.addr (by omega)
                  subst haq
                  obtain ⟨y, hy⟩ : ∃ y, y = Q.getD b 0 := ⟨_, rfl⟩
                  rw [← hx] at ST0
                  rw [← hx, ← hy] at heq
                  have nb : (b == m2) = false := by simp; omega
                  have nb2 : ((b : Int) == (m2 : Int)) = false := by simp; omega
                  have na : (a == m1) = false := by simp; omega
                  have na2 : ((a : Int) == (m1 : Int)) = false := by simp; omega
                  have c1 : decide (x < y) = false := by simp; omega
                  have c2 : decide ((x : Int) < (y : Int)) = false := by simp; omega
                  have c3 : decide (y < x) = false := by simp; omega
                  have c4 : decide ((y : Int) < (x : Int)) = false := by simp; omega
                  clear heq
                  have HX := Lib.hid hx.symm
                  clear hx
                  have HY := Lib.hid hy.symm
                  clear hy
                  have ST := Lib.hid ST0
                  clear ST0
                  
                  go_wp2_with fail
                  have x0 := (PP.out.below HBW.out).get a (by omega)
                  rw [cast_get, HX.out] at x0
                  have lx := (PP.out.below HBW.out).lt (by omega)
                  have y0 := (QQ.out.below HBW.out).get b (by omega)
                  rw [cast_get, HY.out] at y0
                  have ly := (QQ.out.below HBW.out).lt (by omega)
                  refine region_sq (fun _ => False) [(0, true), (1, true), (2, true), (3, true), (4, true), (5, true), (6, true), (7, true), (8, true), (9, true), (10, true), (11, true), (12, true), (13, true), (14, true), (15, true), (16, true), (17, true), (18, true), (19, true), (20, true), (21, true)] (by kernel_rfl) (by kernel_rfl) (fun _ _ d _ _ h => by cases d <;> exact h) ?_
                  repeat (first
                    | (refine sq_yes rfl (by rfl) (fun w' hM => by ((try replace hM := hM.of_drew); obtain ⟨hR1, hR2, hR3⟩ := hM.rules; clear hM; go_simp; with_reducible rfl)) ?_; simp only [Act.put, List.setIfInBounds_toArray, List.set_cons_zero, List.set_cons_succ])
                    | (refine sq_no rfl (by rfl) ?_; simp only [Act.put, List.setIfInBounds_toArray, List.set_cons_zero, List.set_cons_succ]))
                  replace HO := Lib.hid HO.out.drew
                  replace HBW := Lib.hid HBW.out.drew
                  replace HB := Lib.hid HB.out.drew
                  generalize wr.drew = w24 at *
                  refine sq_end ?_
                  clear x0 y0 lx ly
                  go_wp2_with fail
                  have x0 := (PP.out.below HBW.out).get a (by omega)
                  rw [cast_get, HX.out] at x0
                  have lx := (PP.out.below HBW.out).lt (by omega)
                  have y0 := (QQ.out.below HBW.out).get b (by omega)
                  rw [cast_get, HY.out] at y0
                  have ly := (QQ.out.below HBW.out).lt (by omega)
                  refine region_sq (fun _ => False) [(0, true), (1, true), (2, true), (3, true), (4, true), (5, true), (6, true), (7, true), (8, true), (9, true), (10, true), (11, true), (12, true), (13, true), (14, true), (15, true)] (by kernel_rfl) (by kernel_rfl) (fun _ _ d _ _ h => by cases d <;> exact h) ?_
                  repeat (first
                    | (refine sq_yes rfl (by rfl) (fun w' hM => by ((try replace hM := hM.of_drew); obtain ⟨hR1, hR2, hR3⟩ := hM.rules; clear hM; go_simp; with_reducible rfl)) ?_; simp only [Act.put, List.setIfInBounds_toArray, List.set_cons_zero, List.set_cons_succ])
                    | (refine sq_no rfl (by rfl) ?_; simp only [Act.put, List.setIfInBounds_toArray, List.set_cons_zero, List.set_cons_succ]))
                  replace HO := Lib.hid HO.out.drew
                  replace HBW := Lib.hid HBW.out.drew
                  replace HB := Lib.hid HB.out.drew
                  generalize w24.drew = w25 at *
                  refine sq_end ?_
                  clear x0 y0 lx ly
                  have x0 := (PP.out.below HBW.out).get a (by omega)
                  rw [cast_get, HX.out] at x0
                  have lx := (PP.out.below HBW.out).lt (by omega)
                  have y0 := (QQ.out.below HBW.out).get b (by omega)
                  rw [cast_get, HY.out] at y0
                  have ly := (QQ.out.below HBW.out).lt (by omega)
                  go_wp2_with (at_builtin; refine wpList_appi W0.heap.size (acc.map fun p : Nat => (p : Int)) ((x : Nat) : Int) _ HO.out (by rw [List.length_map]; omega) HBW.out.size rfl _ _ rfl rfl rfl rfl ?_; intro v' w' ho' hb'; have HO2 := Lib.hid ho'; have HB2 := Lib.hid hb'; clear ho' hb')
                  go_roundw
                  case rel => exact ⟨a + 1, b + 1, acc ++ [x], ⟨by omega, by omega⟩, ⟨by go_num, by go_num⟩, ⟨by rw [List.length_append]; simp; omega, ST.out⟩, by rw [List.map_append]; exact HO2.out, HBW.out.trans HB2.out⟩
                  case measure => simp [intOf] <;> omega
                · have ST0 := mg_step HA.out (mgG P Q a b (by rw [← M1.out]; omega) (by rw [← M2.out]; omega) hgt)
                  obtain ⟨bp, op, hap⟩ := PP.out.addr (by omega)
                  subst hap
                  obtain ⟨x, hx⟩ : ∃ x, x = P.getD a 0 := ⟨_, rfl⟩
                  obtain ⟨bq, oq, haq⟩ := QQ.out.addr (by omega)
                  subst haq
                  obtain ⟨y, hy⟩ : ∃ y, y = Q.getD b 0 := ⟨_, rfl⟩
                  rw [← hy] at ST0
                  rw [← hx, ← hy] at hgt
                  have nb : (b == m2) = false := by simp; omega
                  have nb2 : ((b : Int) == (m2 : Int)) = false := by simp; omega
                  have na : (a == m1) = false := by simp; omega
                  have na2 : ((a : Int) == (m1 : Int)) = false := by simp; omega
                  have c1 : decide (x < y) = false := by simp; omega
                  have c2 : decide ((x : Int) < (y : Int)) = false := by simp; omega
                  have c3 : decide (y < x) = true := by simp; omega
                  have c4 : decide ((y : Int) < (x : Int)) = true := by simp; omega
                  have HX := Lib.hid hx.symm
                  clear hx
                  have HY := Lib.hid hy.symm
                  clear hy
                  have ST := Lib.hid ST0
                  clear ST0
                  
                  go_wp2_with fail
                  have x0 := (PP.out.below HBW.out).get a (by omega)
                  rw [cast_get, HX.out] at x0
                  have lx := (PP.out.below HBW.out).lt (by omega)
                  have y0 := (QQ.out.below HBW.out).get b (by omega)
                  rw [cast_get, HY.out] at y0
                  have ly := (QQ.out.below HBW.out).lt (by omega)
                  refine region_sq (fun _ => False) [(0, true), (1, true), (2, true), (3, true), (4, true), (5, true), (6, true), (7, true), (8, true), (9, true), (10, true), (11, true), (12, true), (13, true), (14, true), (15, true), (16, true), (17, true), (18, true), (19, true), (20, true), (21, true)] (by kernel_rfl) (by kernel_rfl) (fun _ _ d _ _ h => by cases d <;> exact h) ?_
                  repeat (first
                    | (refine sq_yes rfl (by rfl) (fun w' hM => by ((try replace hM := hM.of_drew); obtain ⟨hR1, hR2, hR3⟩ := hM.rules; clear hM; go_simp; with_reducible rfl)) ?_; simp only [Act.put, List.setIfInBounds_toArray, List.set_cons_zero, List.set_cons_succ])
                    | (refine sq_no rfl (by rfl) ?_; simp only [Act.put, List.setIfInBounds_toArray, List.set_cons_zero, List.set_cons_succ]))
                  replace HO := Lib.hid HO.out.drew
                  replace HBW := Lib.hid HBW.out.drew
                  replace HB := Lib.hid HB.out.drew
                  generalize wr.drew = w26 at *
                  refine sq_end ?_
                  clear x0 y0 lx ly
                  go_wp2_with fail
                  have x0 := (PP.out.below HBW.out).get a (by omega)
                  rw [cast_get, HX.out] at x0
                  have lx := (PP.out.below HBW.out).lt (by omega)
                  have y0 := (QQ.out.below HBW.out).get b (by omega)
                  rw [cast_get, HY.out] at y0
                  have ly := (QQ.out.below HBW.out).lt (by omega)
                  refine region_sq (fun _ => False) [(0, true), (1, true), (2, true), (3, true), (4, true), (5, true), (6, true), (7, true), (8, true), (9, true), (10, true), (11, true), (12, true), (13, true), (14, true), (15, true)] (by kernel_rfl) (by kernel_rfl) (fun _ _ d _ _ h => by cases d <;> exact h) ?_
                  repeat (first
                    | (refine sq_yes rfl (by rfl) (fun w' hM => by ((try replace hM := hM.of_drew); obtain ⟨hR1, hR2, hR3⟩ := hM.rules; clear hM; go_simp; with_reducible rfl)) ?_; simp only [Act.put, List.setIfInBounds_toArray, List.set_cons_zero, List.set_cons_succ])
                    | (refine sq_no rfl (by rfl) ?_; simp only [Act.put, List.setIfInBounds_toArray, List.set_cons_zero, List.set_cons_succ]))
                  replace HO := Lib.hid HO.out.drew
                  replace HBW := Lib.hid HBW.out.drew
                  replace HB := Lib.hid HB.out.drew
                  generalize w26.drew = w27 at *
                  refine sq_end ?_
                  clear x0 y0 lx ly
                  have x0 := (PP.out.below HBW.out).get a (by omega)
                  rw [cast_get, HX.out] at x0
                  have lx := (PP.out.below HBW.out).lt (by omega)
                  have y0 := (QQ.out.below HBW.out).get b (by omega)
                  rw [cast_get, HY.out] at y0
                  have ly := (QQ.out.below HBW.out).lt (by omega)
                  go_wp2_with (at_builtin; refine wpList_appi W0.heap.size (acc.map fun p : Nat => (p : Int)) ((y : Nat) : Int) _ HO.out (by rw [List.length_map]; omega) HBW.out.size rfl _ _ rfl rfl rfl rfl ?_; intro v' w' ho' hb'; have HO2 := Lib.hid ho'; have HB2 := Lib.hid hb'; clear ho' hb')
                  go_roundw
                  case rel => exact ⟨a, b + 1, acc ++ [y], ⟨by omega, by omega⟩, ⟨by go_num, by go_num⟩, ⟨by rw [List.length_append]; simp; omega, ST.out⟩, by rw [List.map_append]; exact HO2.out, HBW.out.trans HB2.out⟩
                  case measure => simp [intOf] <;> omega
end Go.Proofs.Ytjjadakjkkmjgaa
