/-
  BloomTells: its walk.
-/
import Derived.Test.YtjjadakjkkmjgaaFBloomW
namespace Go.Proofs.Ytjjadakjkkmjgaa
open Go.RowKit
attribute [local go_sem ↓] exec_bldK exec_bldF
/-- A row of ones, as a fact that is carried. -/
def OIx (w : World) (B : Nat) (v : Value) (l : List Int) : Prop := OI w B v l
theorem rhB_eq (ws : List Nat) (c : Cf) (k : Ky) (N : Nat) (hN : 1 ≤ N) (hk : kvld k = true) (hh : 1 ≤ c.hashes) : rhB (ci (onesTo ws N)) c k N = hasB ws (pN c k N) := by
  rw [hasB_eq c k N ws hk hh]
  unfold rhB
  rw [hk, Bool.and_true, Bool.eq_iff_iff, List.all_eq_true, List.all_eq_true]
  constructor
  · intro h p hp
    rw [← inL_ones ws p N (pN_lt c k N hN p hp)]; exact h p hp
  · intro h p hp
    rw [inL_ones ws p N (pN_lt c k N hN p hp)]; exact h p hp
set_option maxRecDepth 100000 in
set_option maxHeartbeats 32000000 in
theorem tells_in (a0 : Option Addr) (n0 c0 : Nat) (z0 : List Int) (N : Nat) (a2 : Option Addr) (n2 c2 : Nat) (I2 : List Int) (a3 : Option Addr) (n3 c3 : Nat) (I3 : List Int) (a4 : Int) (w : World) (hI : Ints w a0 n0 (z0.take n0)) (hn0 : n0 ≤ 30) (hn2 : n2 ≤ 40) (hn3 : n3 ≤ 40) (hN1 : 1 ≤ N) (hN2 : N ≤ 65536)
    (hY2 : InI w.heap.size w a2 n2 I2) (hY3 : InI w.heap.size w a3 n3 I3) :
    Calls Try.prog 7 #[.slice a0 n0 c0, .int .i64 (N : Int), .slice a2 n2 c2, .slice a3 n3 c3, .int .i64 a4] w fun e w' => e = .returned (.bool true) ∧ Below w.heap.size w w' := by
  have HI := Lib.hid hI
  have Y2 := Lib.hid hY2
  have Y3 := Lib.hid hY3
  have HZ2 := Lib.hid hY2.1.1
  have HZ3 := Lib.hid hY3.1.1
  clear hI hY2 hY3
  obtain ⟨c, hc⟩ : ∃ c, c = config (z0.take n0) := ⟨_, rfl⟩
  have KC := Lib.hid (fun (w : World) (h : Ints w a0 n0 (z0.take n0)) => config_any a0 n0 c0 (z0.take n0) w h (by omega))
  rw [← hc] at KC
  have OK := Lib.hid (show cok c = true by rw [hc]; exact cok_config _)
  have FC := Lib.hid (fits_of OK.out)
  clear hc
  have hbf := build_rcs c N
  have hst0 := fun (w : World) (n : Nat) (Z : Array Value) (hn : n = w.heap.size) (hZ : Z.size = 48) => store_new (P := Try.prog) sizeC w n Z (cc c) hn hZ (cc_size _) (cc_one _)
  have e5 : Hid (0 ≤ c.hashes ∧ c.hashes ≤ 80) := Lib.hid (by have := FC.out.ha; omega)
  have e7 : Hid (1 ≤ c.bloom) := Lib.hid (by have := FC.out.bl; omega)
  obtain ⟨n, hne⟩ : ∃ n, n = nw N := ⟨_, rfl⟩
  have NW := Lib.hid hne
  have hn64 : N ≤ n * 64 := by rw [hne]; unfold nw; omega
  have hn1k : n ≤ 1024 ∧ 1 ≤ n := by rw [hne]; unfold nw; omega
  obtain ⟨Z, hZe⟩ : ∃ Z, Z = List.replicate n 0 := ⟨_, rfl⟩
  have ZE := Lib.hid hZe
  have ZL := Lib.hid (show Z.length = n by rw [hZe]; simp)
  have ZX := Lib.hid (show ∀ x ∈ Z, x < 18446744073709551616 by rw [hZe]; exact lt_of_rep n)
  have ZC := Lib.hid (show cntW Z = (onesTo Z N).length by rw [hZe, cnt_zero, ones_zero]; rfl)
  have ZO := Lib.hid (show ci (onesTo Z N) = [] by rw [hZe, ones_zero]; rfl)
  clear hne hZe
  go_enter Try.func7, Try.ntmps7
  have HB := Lib.hid (Below.refl w.heap.size w)
  
  
  go_wp2_with fail
  refine (KC.out _ HI.out).mono ?_
  rintro e w1 ⟨rfl, hb⟩
  have hbs : Below w.heap.size w w1 := step_below (by first | exact Below.refl _ _ | exact (Below.refl _ _).drew | exact (Below.refl _ _).alloc (Nat.le_refl _) _ | exact ((Below.refl _ _).alloc (Nat.le_refl _) _).drew | exact ((Below.refl _ _).drew).alloc (Nat.le_refl _) _ | exact ((Below.refl _ _).alloc (Nat.le_refl _) _).alloc (by simp) _ | exact (((Below.refl _ _).alloc (Nat.le_refl _) _).alloc (by simp) _).drew | exact (((Below.refl _ _).alloc (Nat.le_refl _) _).alloc (by simp) _).alloc (by simp; omega) _) hb
  try clear HBz
  have HBz := HB.out.size
  replace HB := Lib.hid (step_below HB.out hbs)
  replace Y2 := Lib.hid (Y2.out.below hbs)
  replace Y3 := Lib.hid (Y3.out.below hbs)
  clear hbs
  clear hb
  go_wp2_with fail
  have HBp := HB
  have C := at_new w1 29 (cc c) (w1.heap.size) rfl
  replace HB := Lib.hid (HB.out.alloc HB.out.size (.cells (cc c) 29))
  have Y2p := Y2
  replace Y2 := Lib.hid (Y2.out.below ((Below.refl _ _).alloc (Nat.le_refl _) (.cells (cc c) 29)))
  have Y3p := Y3
  replace Y3 := Lib.hid (Y3.out.below ((Below.refl _ _).alloc (Nat.le_refl _) (.cells (cc c) 29)))
  obtain ⟨gc, hg⟩ : ∃ g, g = w1.heap.size := ⟨_, rfl⟩
  have hgs : gc = w1.heap.size := by rw [hg]
  have b_gc : w.heap.size ≤ gc := by rw [hgs]; exact HBp.out.size
  have e_gc := Lib.hid hgs
  have S_w2 := Lib.hid (show (w1.alloc (.cells (cc c) 29)).heap.size = gc + 1 by rw [World.size_alloc, hgs])
  rw [← hg] at C
  try rw [← hg]
  clear hg hgs HBp Y2p Y3p
  replace C := Lib.hid C
  generalize w1.alloc (.cells (cc c) 29) = w2 at *
  have r_C := C.out.row
  have o_C := C.out.open
  have l_C := C.out.lt
  have c_C := C.out.cell
  have z_C := C.out.frozen
  go_wp2_with fail
  clear r_C o_C l_C c_C z_C
  refine (new_ok c _ OK.out).mono ?_
  rintro e w3 ⟨gf, rfl, hgf, hF, hb⟩
  have hbs : Below w2.heap.size w2 w3 := step_below (by first | exact Below.refl _ _ | exact (Below.refl _ _).drew | exact (Below.refl _ _).alloc (Nat.le_refl _) _ | exact ((Below.refl _ _).alloc (Nat.le_refl _) _).drew | exact ((Below.refl _ _).drew).alloc (Nat.le_refl _) _ | exact ((Below.refl _ _).alloc (Nat.le_refl _) _).alloc (by simp) _ | exact (((Below.refl _ _).alloc (Nat.le_refl _) _).alloc (by simp) _).drew | exact (((Below.refl _ _).alloc (Nat.le_refl _) _).alloc (by simp) _).alloc (by simp; omega) _) hb
  try clear HBz
  have HBz := HB.out.size
  replace HB := Lib.hid (step_below HB.out hbs)
  replace Y2 := Lib.hid (Y2.out.below hbs)
  replace Y3 := Lib.hid (Y3.out.below hbs)
  replace C := Lib.hid (C.out.below hbs C.out.lt)
  clear hbs
  clear hb
  have F := Lib.hid hF
  clear hF hgf
  
  have r_C := C.out.row
  have o_C := C.out.open
  have l_C := C.out.lt
  have c_C := C.out.cell
  have z_C := C.out.frozen
  have r_F := F.out.row
  have o_F := F.out.open
  have l_F := F.out.lt
  have c_F := F.out.cell
  have z_F := F.out.frozen
  go_wp2_with fail
  clear r_C o_C l_C c_C z_C r_F o_F l_F c_F z_F
  refine (bnew_ok gf N hN1 hN2 _).mono ?_
  rintro e w_ ⟨rfl, rfl⟩
  rw [← NW.out, ← ZE.out]
  have HBp := HB
  have Wd := at_new w3 86 (wd Z) (w3.heap.size) rfl
  replace HB := Lib.hid (HB.out.alloc HB.out.size (.cells (wd Z) 86))
  have Y2p := Y2
  replace Y2 := Lib.hid (Y2.out.below ((Below.refl _ _).alloc (Nat.le_refl _) (.cells (wd Z) 86)))
  have Y3p := Y3
  replace Y3 := Lib.hid (Y3.out.below ((Below.refl _ _).alloc (Nat.le_refl _) (.cells (wd Z) 86)))
  have Cp := C
  replace C := Lib.hid (C.out.alloc (.cells (wd Z) 86))
  have Fp := F
  replace F := Lib.hid (F.out.alloc (.cells (wd Z) 86))
  obtain ⟨gw, hg⟩ : ∃ g, g = w3.heap.size := ⟨_, rfl⟩
  have hgs : gw = w3.heap.size := by rw [hg]
  have b_gw : w.heap.size ≤ gw := by rw [hgs]; exact HBp.out.size
  have e_gw := Lib.hid hgs
  have S_w4 := Lib.hid (show (w3.alloc (.cells (wd Z) 86)).heap.size = gw + 1 by rw [World.size_alloc, hgs])
  rw [← hg] at Wd
  try rw [← hg]
  have ne_C_Wd : gc ≠ gw := by have := Cp.out.lt; omega
  have ne_Wd_C : gw ≠ gc := fun h => ne_C_Wd h.symm
  have ne_F_Wd : gf ≠ gw := by have := Fp.out.lt; omega
  have ne_Wd_F : gw ≠ gf := fun h => ne_F_Wd h.symm
  clear hg hgs HBp Y2p Y3p Cp Fp
  replace Wd := Lib.hid Wd
  generalize w3.alloc (.cells (wd Z) 86) = w4 at *
  have HBp := HB
  have B := at_new w4 92 (bcs gf N gw n) (gw + 1) (S_w4.out.symm)
  replace HB := Lib.hid (HB.out.alloc HB.out.size (.cells (bcs gf N gw n) 92))
  have Y2p := Y2
  replace Y2 := Lib.hid (Y2.out.below ((Below.refl _ _).alloc (Nat.le_refl _) (.cells (bcs gf N gw n) 92)))
  have Y3p := Y3
  replace Y3 := Lib.hid (Y3.out.below ((Below.refl _ _).alloc (Nat.le_refl _) (.cells (bcs gf N gw n) 92)))
  have Cp := C
  replace C := Lib.hid (C.out.alloc (.cells (bcs gf N gw n) 92))
  have Fp := F
  replace F := Lib.hid (F.out.alloc (.cells (bcs gf N gw n) 92))
  have Wdp := Wd
  replace Wd := Lib.hid (Wd.out.alloc (.cells (bcs gf N gw n) 92))
  obtain ⟨gb, hg⟩ : ∃ g, g = gw + 1 := ⟨_, rfl⟩
  have hgs : gb = w4.heap.size := by rw [hg, S_w4.out]
  have b_gb : w.heap.size ≤ gb := by rw [hgs]; exact HBp.out.size
  have e_gb := Lib.hid hgs
  have S_w5 := Lib.hid (show (w4.alloc (.cells (bcs gf N gw n) 92)).heap.size = gb + 1 by rw [World.size_alloc, hgs])
  rw [← hg] at B
  try rw [← hg]
  have ne_C_B : gc ≠ gb := by have := Cp.out.lt; omega
  have ne_B_C : gb ≠ gc := fun h => ne_C_B h.symm
  have ne_F_B : gf ≠ gb := by have := Fp.out.lt; omega
  have ne_B_F : gb ≠ gf := fun h => ne_F_B h.symm
  have ne_Wd_B : gw ≠ gb := by have := Wdp.out.lt; omega
  have ne_B_Wd : gb ≠ gw := fun h => ne_Wd_B h.symm
  clear hg hgs HBp Y2p Y3p Cp Fp Wdp
  replace B := Lib.hid B
  generalize w4.alloc (.cells (bcs gf N gw n) 92) = w5 at *
  have r_C := C.out.row
  have o_C := C.out.open
  have l_C := C.out.lt
  have c_C := C.out.cell
  have z_C := C.out.frozen
  have r_F := F.out.row
  have o_F := F.out.open
  have l_F := F.out.lt
  have c_F := F.out.cell
  have z_F := F.out.frozen
  have r_Wd := Wd.out.row
  have o_Wd := Wd.out.open
  have l_Wd := Wd.out.lt
  have c_Wd := Wd.out.cell
  have z_Wd := Wd.out.frozen
  have r_B := B.out.row
  have o_B := B.out.open
  have l_B := B.out.lt
  have c_B := B.out.cell
  have z_B := B.out.frozen
  go_wp2_with fail
  clear r_C o_C l_C c_C z_C r_F o_F l_F c_F z_F r_Wd o_Wd l_Wd c_Wd z_Wd r_B o_B l_B c_B z_B
  have HBp := HB
  have M := at_new w5 66 (rcs c N (.slice none 0 0)) (w5.heap.size) rfl
  replace HB := Lib.hid (HB.out.alloc HB.out.size (.cells (rcs c N (.slice none 0 0)) 66))
  have Y2p := Y2
  replace Y2 := Lib.hid (Y2.out.below ((Below.refl _ _).alloc (Nat.le_refl _) (.cells (rcs c N (.slice none 0 0)) 66)))
  have Y3p := Y3
  replace Y3 := Lib.hid (Y3.out.below ((Below.refl _ _).alloc (Nat.le_refl _) (.cells (rcs c N (.slice none 0 0)) 66)))
  have Cp := C
  replace C := Lib.hid (C.out.alloc (.cells (rcs c N (.slice none 0 0)) 66))
  have Fp := F
  replace F := Lib.hid (F.out.alloc (.cells (rcs c N (.slice none 0 0)) 66))
  have Wdp := Wd
  replace Wd := Lib.hid (Wd.out.alloc (.cells (rcs c N (.slice none 0 0)) 66))
  have Bp := B
  replace B := Lib.hid (B.out.alloc (.cells (rcs c N (.slice none 0 0)) 66))
  obtain ⟨gm, hg⟩ : ∃ g, g = w5.heap.size := ⟨_, rfl⟩
  have hgs : gm = w5.heap.size := by rw [hg]
  have b_gm : w.heap.size ≤ gm := by rw [hgs]; exact HBp.out.size
  have e_gm := Lib.hid hgs
  have S_w6 := Lib.hid (show (w5.alloc (.cells (rcs c N (.slice none 0 0)) 66)).heap.size = gm + 1 by rw [World.size_alloc, hgs])
  rw [← hg] at M
  try rw [← hg]
  have ne_C_M : gc ≠ gm := by have := Cp.out.lt; omega
  have ne_M_C : gm ≠ gc := fun h => ne_C_M h.symm
  have ne_F_M : gf ≠ gm := by have := Fp.out.lt; omega
  have ne_M_F : gm ≠ gf := fun h => ne_F_M h.symm
  have ne_Wd_M : gw ≠ gm := by have := Wdp.out.lt; omega
  have ne_M_Wd : gm ≠ gw := fun h => ne_Wd_M h.symm
  have ne_B_M : gb ≠ gm := by have := Bp.out.lt; omega
  have ne_M_B : gm ≠ gb := fun h => ne_B_M h.symm
  clear hg hgs HBp Y2p Y3p Cp Fp Wdp Bp
  replace M := Lib.hid M
  generalize w5.alloc (.cells (rcs c N (.slice none 0 0)) 66) = w6 at *
  have O := Lib.hid (show OI _ (gm + 1) (.slice none 0 0) (ci (onesTo Z N)) by rw [ZO.out]; exact OI.nil w6 _)
  clear hbf hst0
  have LT1 : gw < gm := by have h1 := e_gm.out; have h2 := S_w5.out; have h3 := e_gb.out; have h4 := S_w4.out; omega
  
  
  
  clear C
  go_wp2_with fail
  
  go_loopw [17, 18] (fun i _ wr => ∃ (t : Nat) (ws : List Nat) (v : Value), t ≤ n2 ∧ i = .int .i64 t ∧ ws.length = n ∧ (∀ x ∈ ws, x < 18446744073709551616) ∧ cntW ws = (onesTo ws N).length ∧ InI w.heap.size wr a2 n2 I2 ∧ InI w.heap.size wr a3 n3 I3 ∧ At wr gf 80 (fc c) ∧ At wr gw 86 (wd ws) ∧ At wr gb 92 (bcs gf N gw n) ∧ At wr gm 66 (rcs c N v) ∧ OI wr (gm + 1) v (ci (onesTo ws N)) ∧ Below w.heap.size w wr) (fun i _ _ => n2 - (intOf i).toNat)
  case atStart => exact ⟨0, Z, _, Nat.zero_le _, rfl, ZL.out, ZX.out, ZC.out, Y2.out, Y3.out, F.out, Wd.out, B.out, M.out, O.out, HB.out⟩
  case round =>
    clear HB Y2 Y3 F Wd B M O
    obtain ⟨t, ws, v, ht, rfl, hl_, hx_, hc_, hY2_, hY3_, hF_, hWd_, hB_, hM_, hO_, hBel_⟩ := hrel
    have Y2 := Lib.hid hY2_
    have Y3 := Lib.hid hY3_
    have F := Lib.hid hF_
    have Wd := Lib.hid hWd_
    have B := Lib.hid hB_
    have M := Lib.hid hM_
    have O := Lib.hid hO_
    have HB := Lib.hid hBel_
    clear hY2_ hY3_ hF_ hWd_ hB_ hM_ hO_ hBel_
    have L1 := Lib.hid hl_
    have X1 := Lib.hid hx_
    have C1 := Lib.hid hc_
    clear hl_ hx_ hc_
    
    by_cases hlt : t < n2
    · obtain ⟨bI, oI, hab⟩ := Y2.out.addr (by omega)
      subst hab
      
      obtain ⟨x, hx⟩ : ∃ x, x = I2.getD t 0 := ⟨_, rfl⟩
      have HX := Lib.hid hx
      clear hx
      go_upto_if 82 with (fail)
      go_cut [84] (fun _s wx => ∃ (ws : List Nat) (v : Value), ws.length = n ∧ (∀ x ∈ ws, x < 18446744073709551616) ∧ cntW ws = (onesTo ws N).length ∧ InI w.heap.size wx (some ⟨bI, oI, none⟩) n2 I2 ∧ InI w.heap.size wx a3 n3 I3 ∧ At wx gf 80 (fc c) ∧ At wx gw 86 (wd ws) ∧ At wx gb 92 (bcs gf N gw n) ∧ At wx gm 66 (rcs c N v) ∧ OI wx (gm + 1) v (ci (onesTo ws N)) ∧ Below w.heap.size w wx)
      case first =>
        as_aux_lemma => -- ok
          by_cases hcl : (t : Int) = a4
          · have hb4 : ((t : Int) == a4) = true := by simpa using hcl
            clear hcl
            have r_M := M.out.row
            have o_M := M.out.open
            have l_M := M.out.lt
            have c_M := M.out.cell
            have z_M := M.out.frozen
            go_wp2_with fail
            clear r_M o_M l_M c_M z_M
            refine (clear_any gb gw gf N n ws _ B.out Wd.out L1.out hn1k.2).mono ?_
            rintro e wC ⟨⟨vv, rfl⟩, hA, hm⟩
            rw [← ZE.out] at hA
            replace Y2 := Lib.hid (Y2.out.modb hm (fun i hi => by rw [hi]; exact b_gw))
            replace Y3 := Lib.hid (Y3.out.modb hm (fun i hi => by rw [hi]; exact b_gw))
            replace F := Lib.hid (F.out.mod hm ne_F_Wd)
            replace B := Lib.hid (B.out.mod hm ne_B_Wd)
            replace M := Lib.hid (M.out.mod hm ne_M_Wd)
            replace HB := Lib.hid (HB.out.trans (mod_below hm HB.out.size (fun i hi => by rw [hi]; exact b_gw)))
            clear Wd
            have Wd := Lib.hid hA
            clear hA hm
            have c49 := M.out.cell 49
            rw [rcs_49] at c49
            have f49 := M.out.frozen 49
            have l49 := M.out.lt
            go_wp2_with fail
            go_meet
            have hml : Mod (fun i => i = gm) wC (wC.setCell ⟨gm, 49, none⟩ (.slice none 0 0)) := (Mod.refl _ _).setCell _ _ (fun _ => rfl)
            have M2 := M.out.set 49 (.slice none 0 0)
            rw [rcs_set] at M2
            exact ⟨Z, _, ZL.out, ZX.out, ZC.out, Y2.out.modb hml (fun i hi => by rw [hi]; exact b_gm), Y3.out.modb hml (fun i hi => by rw [hi]; exact b_gm), F.out.mod hml ne_F_M, Wd.out.mod hml ne_Wd_M, B.out.mod hml ne_B_M, M2, (by rw [ZO.out]; exact OI.nil _ _), HB.out.setCell b_gm _⟩
          · have hb4 : ((t : Int) == a4) = false := by simpa using hcl
            clear hcl
            go_wp2_with fail
            go_meet
            exact ⟨ws, v, L1.out, X1.out, C1.out, Y2.out, Y3.out, F.out, Wd.out, B.out, M.out, O.out, HB.out⟩
      case rest =>
        clear HB Y2 Y3 F Wd B M O
        obtain ⟨ws', v', hl_, hx_, hc_, hY2_, hY3_, hF_, hWd_, hB_, hM_, hO_, hBel_⟩ := hcut
        have Y2 := Lib.hid hY2_
        have Y3 := Lib.hid hY3_
        have F := Lib.hid hF_
        have Wd := Lib.hid hWd_
        have B := Lib.hid hB_
        have M := Lib.hid hM_
        have O := Lib.hid hO_
        have HB := Lib.hid hBel_
        clear hY2_ hY3_ hF_ hWd_ hB_ hM_ hO_ hBel_
        clear L1 X1 C1
        have L1 := Lib.hid hl_
        have X1 := Lib.hid hx_
        have C1 := Lib.hid hc_
        clear hl_ hx_ hc_
        
        
        
        have x0 := Y2.out.get t hlt
        rw [← HX.out] at x0
        go_upto_region 17 with fail
        obtain ⟨k, hk⟩ : ∃ k, k = akey x (x.tmod 3 == 0) (x.tmod 2 == 0) := ⟨_, rfl⟩
        have HK := Lib.hid hk.symm
        have KV := Lib.hid (show kvld k = true by rw [hk]; exact kvld_akey _ _ _)
        clear hk
        have hst := fun (w : World) (n : Nat) (Z : Array Value) (hn : n = w.heap.size) (hZ : Z.size = 37) => store_new (P := Try.prog) sizeK w n Z (kc k) hn hZ (kc_size _) (kc_one _)
        go_cut [18] (fun sk wx => ∃ gk : Nat, sk = .pointer (some ⟨gk, 0, none⟩) ∧ gm < gk ∧ At wx gk 40 (kc k) ∧ InI w.heap.size wx (some ⟨bI, oI, none⟩) n2 I2 ∧ InI w.heap.size wx a3 n3 I3 ∧ At wx gf 80 (fc c) ∧ At wx gw 86 (wd ws') ∧ At wx gb 92 (bcs gf N gw n) ∧ At wx gm 66 (rcs c N v') ∧ OI wx (gm + 1) v' (ci (onesTo ws' N)) ∧ Below w.heap.size w wx)
        case first =>
          as_aux_lemma => -- ok
            have hbI : bI < wc.heap.size := by have h1 := Y2.out.2 (by omega) _ _ rfl; have h2 := HB.out.size; omega
            have hbI2 : ¬ wc.heap.size ≤ bI := by omega
            have hgm_ : gm < wc.heap.size := M.out.lt
            have r_M := M.out.row
            have o_M := M.out.open
            have l_M := M.out.lt
            have c_M := M.out.cell
            have z_M := M.out.frozen
            refine region_sq_till (fun i => wc.heap.size ≤ i) [(0, true), (1, true), (2, true), (3, true), (4, true), (5, true), (6, true), (7, true), (8, true), (9, true), (10, true), (11, true), (12, true), (13, true), (14, true), (15, true)] 3 (by kernel_rfl) (by kernel_rfl) (fun _ _ d _ _ h => by cases d <;> exact h) ?_
            repeat (first
              | (refine sq_yes rfl (by rfl) (fun w' hM => by ((try replace hM := hM.of_drew); obtain ⟨hR1, hR2, hR3⟩ := hM.rules; clear hM; go_simp; with_reducible rfl)) ?_; simp only [Act.put, List.setIfInBounds_toArray, List.set_cons_zero, List.set_cons_succ])
              | (refine sq_no rfl (by rfl) ?_; simp only [Act.put, List.setIfInBounds_toArray, List.set_cons_zero, List.set_cons_succ]))
            clear r_M o_M l_M c_M z_M
            refine sq_end ?_
            clear hbI hbI2 x0
            obtain ⟨Zk, hZk⟩ : ∃ Z : Array Value, Z = #[.int .u8 0, .bool false, .int .u8 0, .int .u8 0, .int .u8 0, .int .u8 0, .int .u8 0, .int .u8 0, .int .u8 0, .int .u8 0, .int .u8 0, .int .u8 0, .int .u8 0, .int .u8 0, .int .u8 0, .int .u8 0, .int .u8 0, .int .u8 0, .bool false, .int .u8 0, .int .u8 0, .int .u8 0, .int .u8 0, .int .u8 0, .int .u8 0, .int .u8 0, .int .u8 0, .int .u8 0, .int .u8 0, .int .u8 0, .int .u8 0, .int .u8 0, .int .u8 0, .int .u8 0, .int .u8 0, .int .u16 0, .int .u16 0] := ⟨_, rfl⟩
            have hZs : Zk.size = 37 := by rw [hZk]; rfl
            have HZK := Lib.hid hZk
            clear hZk
            refine any_two (n := 2) 16 17 (by kernel_rfl) ?_ ?_
            · refine sq_do_yes rfl (by rfl) (fun K_ hK_ => ?_)
              go_wp2_with fail
              refine (key_any x _ _ _).mono ?_
              rintro e wq ⟨rfl, hb⟩
              rw [HK.out]
              have HBQ := Lib.hid (step_below ((Below.refl wc.heap.size wc).drew) hb)
              go_wp2_with fail
              refine ⟨Mod.of_below hb, ?_⟩
              try clear hK_
              try clear K_
              clear hb
              refine sq_end ?_
              refine any_sq (n := 0) [(17, false), (18, false)] (by kernel_rfl) (fun _ _ d _ _ h => by cases d <;> exact h) ?_
              refine sq_do_yes rfl (by rfl) (fun K_ hK_ => ?_)
              go_wp2_with fail
              rw [← HZK.out]
              refine ⟨(Mod.refl _ _).alloc _, ?_⟩
              try clear hK_
              try clear K_
              refine sq_do_yes rfl (by rfl) (fun K_ hK_ => ?_)
              go_wp2_with fail
              refine ⟨Mod.realloc2 HBQ.out.size, ?_⟩
              try clear hK_
              try clear K_
              refine sq_end (any_end (by kernel_rfl) ?_)
              have HBT := Lib.hid (HBQ.out.alloc HBQ.out.size (.cells (kc k) 40))
              have hgt_ : gm < wq.heap.size := Nat.lt_of_lt_of_le hgm_ HBQ.out.size
              have hAt_ := At.new wq 40 (kc k)
              clear hst hgm_
              go_wp2_with fail
              go_meet
              exact ⟨_, rfl, hgt_, hAt_, Y2.out.below HBT.out, Y3.out.below HBT.out, F.out.below HBT.out F.out.lt, Wd.out.below HBT.out Wd.out.lt, B.out.below HBT.out B.out.lt, M.out.below HBT.out M.out.lt, O.out.below HBT.out, HB.out.trans (HBT.out.mono HB.out.size)⟩
            · refine sq_do_yes rfl (by rfl) (fun K_ hK_ => ?_)
              go_wp2_with fail
              rw [← HZK.out]
              refine ⟨(Mod.refl _ _).alloc _, ?_⟩
              try clear hK_
              try clear K_
              refine sq_end ?_
              have hAz := (at_new wc 40 Zk wc.heap.size rfl).drew
              have hB0 := ((Below.refl wc.heap.size wc).alloc (Nat.le_refl _) (.cells Zk 40)).drew
              obtain ⟨gk, hgk⟩ : ∃ g, g = wc.heap.size := ⟨_, rfl⟩
              obtain ⟨wz, hwz⟩ : ∃ w, w = (wc.alloc (.cells Zk 40)).drew := ⟨_, rfl⟩
              rw [← hwz] at hAz hB0 ⊢
              rw [← hgk] at hAz ⊢
              have hgkW : wc.heap.size ≤ gk := by rw [hgk]; exact Nat.le_refl _
              clear hwz hgk hst
              refine any_sq (n := 0) [(16, false), (18, false)] (by kernel_rfl) (fun _ _ d _ _ h => by cases d <;> exact h) ?_
              refine sq_do_yes rfl (by rfl) (fun K_ hK_ => ?_)
              go_wp2_with fail
              refine (key_any x _ _ _).mono ?_
              rintro e wq ⟨rfl, hb⟩
              rw [HK.out]
              have HBQ := Lib.hid (step_below hB0 hb)
              have hAq := hAz.below hb hAz.lt
              have hst := store_at (P := Try.prog) wq gk 0 40 Zk (kc k) hAq (by rw [kc_size, hZs]; omega) (kc_one _)
              go_wp2_with fail
              refine ⟨Mod.of_below hb, ?_⟩
              try clear hK_
              try clear K_
              clear hb hB0 hAz
              refine sq_do_yes rfl (by rfl) (fun K_ hK_ => ?_)
              go_wp2_with fail
              refine ⟨Mod.setCells (g := gk) (Nat.le_refl gk) _ _ _, ?_⟩
              try clear hK_
              try clear K_
              refine sq_end (any_end (by kernel_rfl) ?_)
              have hms_ := Mod.setCells (M := fun i => i = gk) (g := gk) rfl (kc k).toList 0 wq
              have HBT := Lib.hid (HBQ.out.trans (mod_below hms_ HBQ.out.size (fun i hi => by rw [hi]; exact hgkW)))
              have hAt_ := At.setCells (kc k).toList 0 wq Zk hAq
              rw [splice_all _ _ (by rw [kc_size, hZs])] at hAt_
              have hgt_ : gm < gk := Nat.lt_of_lt_of_le hgm_ hgkW
              clear hst hgm_ hms_ hAq
              go_wp2_with fail
              go_meet
              exact ⟨_, rfl, hgt_, hAt_, Y2.out.below HBT.out, Y3.out.below HBT.out, F.out.below HBT.out F.out.lt, Wd.out.below HBT.out Wd.out.lt, B.out.below HBT.out B.out.lt, M.out.below HBT.out M.out.lt, O.out.below HBT.out, HB.out.trans (HBT.out.mono HB.out.size)⟩
        case rest =>
          as_aux_lemma => -- ok
            clear HB Y2 Y3 F Wd B M O
            obtain ⟨gk, rfl, hgk, hK_, hY2_, hY3_, hF_, hWd_, hB_, hM_, hO_, hBel_⟩ := hcut
            have Y2 := Lib.hid hY2_
            have Y3 := Lib.hid hY3_
            have F := Lib.hid hF_
            have Wd := Lib.hid hWd_
            have B := Lib.hid hB_
            have M := Lib.hid hM_
            have O := Lib.hid hO_
            have HB := Lib.hid hBel_
            clear hY2_ hY3_ hF_ hWd_ hB_ hM_ hO_ hBel_
            have K := Lib.hid hK_
            clear hK_ hst
            
            have ngkm : gk ≠ gm := by omega
            have ngkw : gk ≠ gw := by omega
            have IA := Lib.hid (insAll_lt (pN c k N) ws' X1.out)
            have IL := Lib.hid (show (insAll ws' (pN c k N)).length = n by rw [insAll_length]; exact L1.out)
            have IC := Lib.hid (cnt_ones (pN c k N) ws' N (pN_lt c k N hN1) (by rw [L1.out]; exact hn64) X1.out C1.out)
            obtain ⟨β, hβ⟩ : ∃ β, β = !((pN c k N).all (bt ws')) := ⟨_, rfl⟩
            have HBT := Lib.hid hβ
            clear hβ x0
            have r_K := K.out.row
            have o_K := K.out.open
            have l_K := K.out.lt
            have c_K := K.out.cell
            have z_K := K.out.frozen
            go_upto_region 18 with fail
            refine region_sq (fun i => i = gw ∨ i = gm) [(0, true), (1, true), (3, true), (4, true), (2, false), (5, false), (6, true)] (by kernel_rfl) (by kernel_rfl) (fun _ _ d _ _ h => by cases d <;> exact h) ?_
            have nkk : ¬ (gk = gw ∨ gk = gm) := by omega
            repeat (first
              | (refine sq_yes rfl (by rfl) (fun w' hM => by ((try replace hM := hM.of_drew); obtain ⟨hR1, hR2, hR3⟩ := hM.rules; clear hM; go_simp; with_reducible rfl)) ?_; simp only [Act.put, List.setIfInBounds_toArray, List.set_cons_zero, List.set_cons_succ])
              | (refine sq_no rfl (by rfl) ?_; simp only [Act.put, List.setIfInBounds_toArray, List.set_cons_zero, List.set_cons_succ]))
            clear r_K o_K l_K c_K z_K
            refine sq_do_yes rfl (by rfl) (fun K_ hK_ => ?_)
            go_wp2_with fail
            refine (insert_any gb gw gf c k N n ws' _ B.out.drew Wd.out.drew F.out.drew ne_B_Wd hN1 hN2 NW.out L1.out X1.out e5.out.1 e5.out.2 e7.out).mono ?_
            rintro e wI ⟨rfl, hA, hm⟩
            rw [← HBT.out]
            replace Y2 := Lib.hid (Y2.out.drew.modb hm (fun i hi => by rw [hi]; exact b_gw))
            replace Y3 := Lib.hid (Y3.out.drew.modb hm (fun i hi => by rw [hi]; exact b_gw))
            replace F := Lib.hid (F.out.drew.mod hm ne_F_Wd)
            replace B := Lib.hid (B.out.drew.mod hm ne_B_Wd)
            replace M := Lib.hid (M.out.drew.mod hm ne_M_Wd)
            replace K := Lib.hid (K.out.drew.mod hm ngkw)
            replace O := Lib.hid ((show OI wc.drew _ _ _ from O.out).modlt hm (fun i hi => by rw [hi]; omega))
            replace HB := Lib.hid (HB.out.drew.trans (mod_below hm HB.out.size (fun i hi => by rw [hi]; exact b_gw)))
            clear Wd
            have Wd := Lib.hid hA
            clear hA
            go_wp2_with fail
            refine ⟨hm.mono (fun i _ hi => .inl hi), ?_⟩
            try clear hK_
            try clear K_
            clear hm
            have r_K := K.out.row
            have o_K := K.out.open
            have l_K := K.out.lt
            have c_K := K.out.cell
            have z_K := K.out.frozen
            repeat (first
              | (refine sq_yes rfl (by rfl) (fun w' hM => by ((try replace hM := hM.of_drew); obtain ⟨hR1, hR2, hR3⟩ := hM.rules; clear hM; go_simp; with_reducible rfl)) ?_; simp only [Act.put, List.setIfInBounds_toArray, List.set_cons_zero, List.set_cons_succ])
              | (refine sq_no rfl (by rfl) ?_; simp only [Act.put, List.setIfInBounds_toArray, List.set_cons_zero, List.set_cons_succ]))
            clear r_K o_K l_K c_K z_K
            refine sq_do_yes rfl (by rfl) (fun K_ hK_ => ?_)
            go_wp2_with fail
            refine (rInsert_any gm c N _ ws' k _ M.out O.out hN1 hN2 (by rw [L1.out]; exact hn64) e5.out.1 e5.out.2 e7.out).mono ?_
            rintro e wJ ⟨rfl, ⟨vJ, hM2, hO2⟩, hm⟩
            rw [← HBT.out]
            replace Y2 := Lib.hid (Y2.out.modb hm (fun i hi => by rw [hi]; exact b_gm))
            replace Y3 := Lib.hid (Y3.out.modb hm (fun i hi => by rw [hi]; exact b_gm))
            replace F := Lib.hid (F.out.mod hm ne_F_M)
            replace B := Lib.hid (B.out.mod hm ne_B_M)
            replace Wd := Lib.hid (Wd.out.mod hm ne_Wd_M)
            replace HB := Lib.hid (HB.out.trans (mod_below hm HB.out.size (fun i hi => by rw [hi]; exact b_gm)))
            clear M O K
            have M := Lib.hid hM2
            have O := Lib.hid hO2
            clear hM2 hO2
            go_wp2_with fail
            refine ⟨hm.mono (fun i _ hi => .inr hi), ?_⟩
            try clear hK_
            try clear K_
            clear hm
            repeat (first
              | (refine sq_yes rfl (by rfl) (fun w' hM => by ((try replace hM := hM.of_drew); obtain ⟨hR1, hR2, hR3⟩ := hM.rules; clear hM; go_simp; with_reducible rfl)) ?_; simp only [Act.put, List.setIfInBounds_toArray, List.set_cons_zero, List.set_cons_succ])
              | (refine sq_no rfl (by rfl) ?_; simp only [Act.put, List.setIfInBounds_toArray, List.set_cons_zero, List.set_cons_succ]))
            refine sq_end ?_
            go_wp2_with fail
            go_roundw
            case rel => exact ⟨t + 1, _, _, by omega, by go_num, IL.out, IA.out, IC.out, Y2.out, Y3.out, F.out, Wd.out, B.out, M.out, O.out, HB.out⟩
            case measure => simp [intOf] <;> omega
    · obtain rfl : n2 = t := by omega
      
      
      obtain ⟨aO, m, q, rfl, hm, hiO, hmq⟩ := O.out.parts
      have HO := Lib.hid hiO
      have HM := Lib.hid hm
      have hm6 : m ≤ 65536 := by
        rw [hm, ci_length]
        unfold onesTo
        exact Nat.le_trans (List.length_filter_le _ _) (by rw [List.length_range]; exact hN2)
      clear hm hiO
      
      
      
      have RH := Lib.hid (fun k hk => rhB_eq ws c k N hN1 hk FC.out.ha.1)
      go_wp2_with fail
      go_loopw [19, 20] (fun i _ wr => ∃ (t : Nat), t ≤ n3 ∧ i = .int .i64 t ∧ InI w.heap.size wr a2 n2 I2 ∧ InI w.heap.size wr a3 n3 I3 ∧ At wr gf 80 (fc c) ∧ At wr gw 86 (wd ws) ∧ At wr gb 92 (bcs gf N gw n) ∧ At wr gm 66 (rcs c N (.slice aO m q)) ∧ OI wr (gm + 1) (.slice aO m q) (ci (onesTo ws N)) ∧ Ints wr aO m (ci (onesTo ws N)) ∧ Below w.heap.size w wr) (fun i _ _ => n3 - (intOf i).toNat)
      case atStart => exact ⟨0, Nat.zero_le _, rfl, Y2.out, Y3.out, F.out, Wd.out, B.out, M.out, O.out, HO.out, HB.out⟩
      case round =>
        clear HB Y2 Y3 F Wd B M O HO
        obtain ⟨t, ht, rfl, hY2_, hY3_, hF_, hWd_, hB_, hM_, hO_, hHO_, hBel_⟩ := hrel
        have Y2 := Lib.hid hY2_
        have Y3 := Lib.hid hY3_
        have F := Lib.hid hF_
        have Wd := Lib.hid hWd_
        have B := Lib.hid hB_
        have M := Lib.hid hM_
        have O := Lib.hid hO_
        have HO := Lib.hid hHO_
        have HB := Lib.hid hBel_
        clear hY2_ hY3_ hF_ hWd_ hB_ hM_ hO_ hHO_ hBel_
        
        by_cases hlt : t < n3
        · obtain ⟨bI, oI, hab⟩ := Y3.out.addr (by omega)
          subst hab
          
          obtain ⟨x, hx⟩ : ∃ x, x = I3.getD t 0 := ⟨_, rfl⟩
          have HX := Lib.hid hx
          clear hx
          have x0 := Y3.out.get t hlt
          rw [← HX.out] at x0
          go_upto_region 23 with fail
          obtain ⟨k, hk⟩ : ∃ k, k = akey x (x.tmod 3 == 0) (x.tmod 2 == 0) := ⟨_, rfl⟩
          have HK := Lib.hid hk.symm
          have KV := Lib.hid (show kvld k = true by rw [hk]; exact kvld_akey _ _ _)
          clear hk
          have hst := fun (w : World) (n : Nat) (Z : Array Value) (hn : n = w.heap.size) (hZ : Z.size = 37) => store_new (P := Try.prog) sizeK w n Z (kc k) hn hZ (kc_size _) (kc_one _)
          go_cut [20] (fun sk wx => ∃ gk : Nat, sk = .pointer (some ⟨gk, 0, none⟩) ∧ gm < gk ∧ At wx gk 40 (kc k) ∧ InI w.heap.size wx a2 n2 I2 ∧ InI w.heap.size wx (some ⟨bI, oI, none⟩) n3 I3 ∧ At wx gf 80 (fc c) ∧ At wx gw 86 (wd ws) ∧ At wx gb 92 (bcs gf N gw n) ∧ At wx gm 66 (rcs c N (.slice aO m q)) ∧ OI wx (gm + 1) (.slice aO m q) (ci (onesTo ws N)) ∧ Ints wx aO m (ci (onesTo ws N)) ∧ Below w.heap.size w wx)
          case first =>
            as_aux_lemma => -- ok
              have hbI : bI < wr.heap.size := by have h1 := Y3.out.2 (by omega) _ _ rfl; have h2 := HB.out.size; omega
              have hbI2 : ¬ wr.heap.size ≤ bI := by omega
              have hgm_ : gm < wr.heap.size := M.out.lt
              have r_M := M.out.row
              have o_M := M.out.open
              have l_M := M.out.lt
              have c_M := M.out.cell
              have z_M := M.out.frozen
              refine region_sq_till (fun i => wr.heap.size ≤ i) [(0, true), (1, true), (2, true), (3, true), (4, true), (5, true), (6, true), (7, true), (8, true), (9, true), (10, true), (11, true), (12, true), (13, true), (14, true), (15, true)] 3 (by kernel_rfl) (by kernel_rfl) (fun _ _ d _ _ h => by cases d <;> exact h) ?_
              repeat (first
                | (refine sq_yes rfl (by rfl) (fun w' hM => by ((try replace hM := hM.of_drew); obtain ⟨hR1, hR2, hR3⟩ := hM.rules; clear hM; go_simp; with_reducible rfl)) ?_; simp only [Act.put, List.setIfInBounds_toArray, List.set_cons_zero, List.set_cons_succ])
                | (refine sq_no rfl (by rfl) ?_; simp only [Act.put, List.setIfInBounds_toArray, List.set_cons_zero, List.set_cons_succ]))
              clear r_M o_M l_M c_M z_M
              refine sq_end ?_
              clear hbI hbI2 x0
              obtain ⟨Zk, hZk⟩ : ∃ Z : Array Value, Z = #[.int .u8 0, .bool false, .int .u8 0, .int .u8 0, .int .u8 0, .int .u8 0, .int .u8 0, .int .u8 0, .int .u8 0, .int .u8 0, .int .u8 0, .int .u8 0, .int .u8 0, .int .u8 0, .int .u8 0, .int .u8 0, .int .u8 0, .int .u8 0, .bool false, .int .u8 0, .int .u8 0, .int .u8 0, .int .u8 0, .int .u8 0, .int .u8 0, .int .u8 0, .int .u8 0, .int .u8 0, .int .u8 0, .int .u8 0, .int .u8 0, .int .u8 0, .int .u8 0, .int .u8 0, .int .u8 0, .int .u16 0, .int .u16 0] := ⟨_, rfl⟩
              have hZs : Zk.size = 37 := by rw [hZk]; rfl
              have HZK := Lib.hid hZk
              clear hZk
              refine any_two (n := 2) 16 17 (by kernel_rfl) ?_ ?_
              · refine sq_do_yes rfl (by rfl) (fun K_ hK_ => ?_)
                go_wp2_with fail
                refine (key_any x _ _ _).mono ?_
                rintro e wq ⟨rfl, hb⟩
                rw [HK.out]
                have HBQ := Lib.hid (step_below ((Below.refl wr.heap.size wr).drew) hb)
                go_wp2_with fail
                refine ⟨Mod.of_below hb, ?_⟩
                try clear hK_
                try clear K_
                clear hb
                refine sq_end ?_
                refine any_sq (n := 0) [(17, false), (18, false)] (by kernel_rfl) (fun _ _ d _ _ h => by cases d <;> exact h) ?_
                refine sq_do_yes rfl (by rfl) (fun K_ hK_ => ?_)
                go_wp2_with fail
                rw [← HZK.out]
                refine ⟨(Mod.refl _ _).alloc _, ?_⟩
                try clear hK_
                try clear K_
                refine sq_do_yes rfl (by rfl) (fun K_ hK_ => ?_)
                go_wp2_with fail
                refine ⟨Mod.realloc2 HBQ.out.size, ?_⟩
                try clear hK_
                try clear K_
                refine sq_end (any_end (by kernel_rfl) ?_)
                have HBT := Lib.hid (HBQ.out.alloc HBQ.out.size (.cells (kc k) 40))
                have hgt_ : gm < wq.heap.size := Nat.lt_of_lt_of_le hgm_ HBQ.out.size
                have hAt_ := At.new wq 40 (kc k)
                clear hst hgm_
                go_wp2_with fail
                go_meet
                exact ⟨_, rfl, hgt_, hAt_, Y2.out.below HBT.out, Y3.out.below HBT.out, F.out.below HBT.out F.out.lt, Wd.out.below HBT.out Wd.out.lt, B.out.below HBT.out B.out.lt, M.out.below HBT.out M.out.lt, O.out.below HBT.out, HO.out.below HBT.out, HB.out.trans (HBT.out.mono HB.out.size)⟩
              · refine sq_do_yes rfl (by rfl) (fun K_ hK_ => ?_)
                go_wp2_with fail
                rw [← HZK.out]
                refine ⟨(Mod.refl _ _).alloc _, ?_⟩
                try clear hK_
                try clear K_
                refine sq_end ?_
                have hAz := (at_new wr 40 Zk wr.heap.size rfl).drew
                have hB0 := ((Below.refl wr.heap.size wr).alloc (Nat.le_refl _) (.cells Zk 40)).drew
                obtain ⟨gk, hgk⟩ : ∃ g, g = wr.heap.size := ⟨_, rfl⟩
                obtain ⟨wz, hwz⟩ : ∃ w, w = (wr.alloc (.cells Zk 40)).drew := ⟨_, rfl⟩
                rw [← hwz] at hAz hB0 ⊢
                rw [← hgk] at hAz ⊢
                have hgkW : wr.heap.size ≤ gk := by rw [hgk]; exact Nat.le_refl _
                clear hwz hgk hst
                refine any_sq (n := 0) [(16, false), (18, false)] (by kernel_rfl) (fun _ _ d _ _ h => by cases d <;> exact h) ?_
                refine sq_do_yes rfl (by rfl) (fun K_ hK_ => ?_)
                go_wp2_with fail
                refine (key_any x _ _ _).mono ?_
                rintro e wq ⟨rfl, hb⟩
                rw [HK.out]
                have HBQ := Lib.hid (step_below hB0 hb)
                have hAq := hAz.below hb hAz.lt
                have hst := store_at (P := Try.prog) wq gk 0 40 Zk (kc k) hAq (by rw [kc_size, hZs]; omega) (kc_one _)
                go_wp2_with fail
                refine ⟨Mod.of_below hb, ?_⟩
                try clear hK_
                try clear K_
                clear hb hB0 hAz
                refine sq_do_yes rfl (by rfl) (fun K_ hK_ => ?_)
                go_wp2_with fail
                refine ⟨Mod.setCells (g := gk) (Nat.le_refl gk) _ _ _, ?_⟩
                try clear hK_
                try clear K_
                refine sq_end (any_end (by kernel_rfl) ?_)
                have hms_ := Mod.setCells (M := fun i => i = gk) (g := gk) rfl (kc k).toList 0 wq
                have HBT := Lib.hid (HBQ.out.trans (mod_below hms_ HBQ.out.size (fun i hi => by rw [hi]; exact hgkW)))
                have hAt_ := At.setCells (kc k).toList 0 wq Zk hAq
                rw [splice_all _ _ (by rw [kc_size, hZs])] at hAt_
                have hgt_ : gm < gk := Nat.lt_of_lt_of_le hgm_ hgkW
                clear hst hgm_ hms_ hAq
                go_wp2_with fail
                go_meet
                exact ⟨_, rfl, hgt_, hAt_, Y2.out.below HBT.out, Y3.out.below HBT.out, F.out.below HBT.out F.out.lt, Wd.out.below HBT.out Wd.out.lt, B.out.below HBT.out B.out.lt, M.out.below HBT.out M.out.lt, O.out.below HBT.out, HO.out.below HBT.out, HB.out.trans (HBT.out.mono HB.out.size)⟩
          case rest =>
            as_aux_lemma => -- ok
              clear HB Y2 Y3 F Wd B M O HO
              obtain ⟨gk, rfl, hgk, hK_, hY2_, hY3_, hF_, hWd_, hB_, hM_, hO_, hHO_, hBel_⟩ := hcut
              have Y2 := Lib.hid hY2_
              have Y3 := Lib.hid hY3_
              have F := Lib.hid hF_
              have Wd := Lib.hid hWd_
              have B := Lib.hid hB_
              have M := Lib.hid hM_
              have O := Lib.hid hO_
              have HO := Lib.hid hHO_
              have HB := Lib.hid hBel_
              clear hY2_ hY3_ hF_ hWd_ hB_ hM_ hO_ hHO_ hBel_
              have K := Lib.hid hK_
              clear hK_ hst
              
              have HH1 := Lib.hid (RH.out k KV.out)
              have r_K := K.out.row
              have o_K := K.out.open
              have l_K := K.out.lt
              have c_K := K.out.cell
              have z_K := K.out.frozen
              go_upto_region 24 with fail
              clear r_K o_K l_K c_K z_K
              have r_F := F.out.row
              have o_F := F.out.open
              have l_F := F.out.lt
              have c_F := F.out.cell
              have z_F := F.out.frozen
              have r_Wd := Wd.out.row
              have o_Wd := Wd.out.open
              have l_Wd := Wd.out.lt
              have c_Wd := Wd.out.cell
              have z_Wd := Wd.out.frozen
              have r_B := B.out.row
              have o_B := B.out.open
              have l_B := B.out.lt
              have c_B := B.out.cell
              have z_B := B.out.frozen
              have r_M := M.out.row
              have o_M := M.out.open
              have l_M := M.out.lt
              have c_M := M.out.cell
              have z_M := M.out.frozen
              have r_K := K.out.row
              have o_K := K.out.open
              have l_K := K.out.lt
              have c_K := K.out.cell
              have z_K := K.out.frozen
              refine region_sq (fun _ => False) [(0, true), (1, true), (3, true), (4, true), (2, false), (5, false), (6, true)] (by kernel_rfl) (by kernel_rfl) (fun _ _ d _ _ h => by cases d <;> exact h) ?_
              repeat (first
                | (refine sq_yes rfl (by rfl) (fun w' hM => by ((try replace hM := hM.of_drew); obtain ⟨hR1, hR2, hR3⟩ := hM.rules; clear hM; go_simp; with_reducible rfl)) ?_; simp only [Act.put, List.setIfInBounds_toArray, List.set_cons_zero, List.set_cons_succ])
                | (refine sq_no rfl (by rfl) ?_; simp only [Act.put, List.setIfInBounds_toArray, List.set_cons_zero, List.set_cons_succ]))
              clear r_F o_F l_F c_F z_F r_Wd o_Wd l_Wd c_Wd z_Wd r_B o_B l_B c_B z_B r_M o_M l_M c_M z_M r_K o_K l_K c_K z_K
              replace Y2 := Lib.hid Y2.out.drew
              replace Y3 := Lib.hid Y3.out.drew
              replace F := Lib.hid F.out.drew
              replace Wd := Lib.hid Wd.out.drew
              replace B := Lib.hid B.out.drew
              replace M := Lib.hid M.out.drew
              replace O := Lib.hid O.out.drew
              replace HO := Lib.hid HO.out.drew
              replace K := Lib.hid K.out.drew
              replace HB := Lib.hid HB.out.drew
              generalize wc.drew = w7 at *
              refine sq_do_yes rfl (by rfl) (fun K_ hK_ => ?_)
              go_wp2_with fail
              refine (has_any gb gw gf c k N n ws _ B.out Wd.out F.out hN1 hN2 NW.out L1.out X1.out e5.out.1 e5.out.2 e7.out).mono ?_
              rintro e w8 ⟨rfl, hb⟩
              have hbs : Below w7.heap.size w7 w8 := step_below (by first | exact Below.refl _ _ | exact (Below.refl _ _).drew | exact (Below.refl _ _).alloc (Nat.le_refl _) _ | exact ((Below.refl _ _).alloc (Nat.le_refl _) _).drew | exact ((Below.refl _ _).drew).alloc (Nat.le_refl _) _ | exact ((Below.refl _ _).alloc (Nat.le_refl _) _).alloc (by simp) _ | exact (((Below.refl _ _).alloc (Nat.le_refl _) _).alloc (by simp) _).drew | exact (((Below.refl _ _).alloc (Nat.le_refl _) _).alloc (by simp) _).alloc (by simp; omega) _) hb
              try clear HBz
              have HBz := HB.out.size
              replace HB := Lib.hid (step_below HB.out hbs)
              replace Y2 := Lib.hid (Y2.out.below hbs)
              replace Y3 := Lib.hid (Y3.out.below hbs)
              replace F := Lib.hid (F.out.below hbs F.out.lt)
              replace Wd := Lib.hid (Wd.out.below hbs Wd.out.lt)
              replace B := Lib.hid (B.out.below hbs B.out.lt)
              replace M := Lib.hid (M.out.below hbs M.out.lt)
              replace O := Lib.hid (O.out.below hbs)
              replace HO := Lib.hid (HO.out.below hbs)
              replace K := Lib.hid (K.out.below hbs K.out.lt)
              clear hbs
              go_wp2_with fail
              refine ⟨Mod.of_below hb, ?_⟩
              clear hb
              have r_F := F.out.row
              have o_F := F.out.open
              have l_F := F.out.lt
              have c_F := F.out.cell
              have z_F := F.out.frozen
              have r_Wd := Wd.out.row
              have o_Wd := Wd.out.open
              have l_Wd := Wd.out.lt
              have c_Wd := Wd.out.cell
              have z_Wd := Wd.out.frozen
              have r_B := B.out.row
              have o_B := B.out.open
              have l_B := B.out.lt
              have c_B := B.out.cell
              have z_B := B.out.frozen
              have r_M := M.out.row
              have o_M := M.out.open
              have l_M := M.out.lt
              have c_M := M.out.cell
              have z_M := M.out.frozen
              have r_K := K.out.row
              have o_K := K.out.open
              have l_K := K.out.lt
              have c_K := K.out.cell
              have z_K := K.out.frozen
              repeat (first
                | (refine sq_yes rfl (by rfl) (fun w' hM => by ((try replace hM := hM.of_drew); obtain ⟨hR1, hR2, hR3⟩ := hM.rules; clear hM; go_simp; with_reducible rfl)) ?_; simp only [Act.put, List.setIfInBounds_toArray, List.set_cons_zero, List.set_cons_succ])
                | (refine sq_no rfl (by rfl) ?_; simp only [Act.put, List.setIfInBounds_toArray, List.set_cons_zero, List.set_cons_succ]))
              clear r_F o_F l_F c_F z_F r_Wd o_Wd l_Wd c_Wd z_Wd r_B o_B l_B c_B z_B r_M o_M l_M c_M z_M r_K o_K l_K c_K z_K
              refine sq_do_yes rfl (by rfl) (fun K_ hK_ => ?_)
              go_wp2_with fail
              refine (rHas_any gm c N aO m q _ k _ M.out HO.out (by omega) hN1 hN2 e5.out.1 e5.out.2 e7.out).mono ?_
              rintro e w9 ⟨rfl, hb⟩
              have hbs : Below w8.heap.size w8 w9 := step_below (by first | exact Below.refl _ _ | exact (Below.refl _ _).drew | exact (Below.refl _ _).alloc (Nat.le_refl _) _ | exact ((Below.refl _ _).alloc (Nat.le_refl _) _).drew | exact ((Below.refl _ _).drew).alloc (Nat.le_refl _) _ | exact ((Below.refl _ _).alloc (Nat.le_refl _) _).alloc (by simp) _ | exact (((Below.refl _ _).alloc (Nat.le_refl _) _).alloc (by simp) _).drew | exact (((Below.refl _ _).alloc (Nat.le_refl _) _).alloc (by simp) _).alloc (by simp; omega) _) hb
              try clear HBz
              have HBz := HB.out.size
              replace HB := Lib.hid (step_below HB.out hbs)
              replace Y2 := Lib.hid (Y2.out.below hbs)
              replace Y3 := Lib.hid (Y3.out.below hbs)
              replace F := Lib.hid (F.out.below hbs F.out.lt)
              replace Wd := Lib.hid (Wd.out.below hbs Wd.out.lt)
              replace B := Lib.hid (B.out.below hbs B.out.lt)
              replace M := Lib.hid (M.out.below hbs M.out.lt)
              replace O := Lib.hid (O.out.below hbs)
              replace HO := Lib.hid (HO.out.below hbs)
              replace K := Lib.hid (K.out.below hbs K.out.lt)
              clear hbs
              rw [HH1.out]
              go_wp2_with fail
              refine ⟨Mod.of_below hb, ?_⟩
              clear hb
              have r_F := F.out.row
              have o_F := F.out.open
              have l_F := F.out.lt
              have c_F := F.out.cell
              have z_F := F.out.frozen
              have r_Wd := Wd.out.row
              have o_Wd := Wd.out.open
              have l_Wd := Wd.out.lt
              have c_Wd := Wd.out.cell
              have z_Wd := Wd.out.frozen
              have r_B := B.out.row
              have o_B := B.out.open
              have l_B := B.out.lt
              have c_B := B.out.cell
              have z_B := B.out.frozen
              have r_M := M.out.row
              have o_M := M.out.open
              have l_M := M.out.lt
              have c_M := M.out.cell
              have z_M := M.out.frozen
              have r_K := K.out.row
              have o_K := K.out.open
              have l_K := K.out.lt
              have c_K := K.out.cell
              have z_K := K.out.frozen
              repeat (first
                | (refine sq_yes rfl (by rfl) (fun w' hM => by ((try replace hM := hM.of_drew); obtain ⟨hR1, hR2, hR3⟩ := hM.rules; clear hM; go_simp; with_reducible rfl)) ?_; simp only [Act.put, List.setIfInBounds_toArray, List.set_cons_zero, List.set_cons_succ])
                | (refine sq_no rfl (by rfl) ?_; simp only [Act.put, List.setIfInBounds_toArray, List.set_cons_zero, List.set_cons_succ]))
              clear r_F o_F l_F c_F z_F r_Wd o_Wd l_Wd c_Wd z_Wd r_B o_B l_B c_B z_B r_M o_M l_M c_M z_M r_K o_K l_K c_K z_K
              refine sq_end ?_
              cases hasB ws (pN c k N)
              all_goals
                go_wp2_with fail
                clear K
                go_roundw
                case rel => exact ⟨t + 1, by omega, by go_num, Y2.out, Y3.out, F.out, Wd.out, B.out, M.out, O.out, HO.out, HB.out⟩
                case measure => simp [intOf] <;> omega
        · obtain rfl : n3 = t := by omega
          
          have r_M := M.out.row
          have o_M := M.out.open
          have l_M := M.out.lt
          have c_M := M.out.cell
          have z_M := M.out.frozen
          go_upto_region 26 with fail
          go_wp2_with fail
          clear r_M o_M l_M c_M z_M
          obtain ⟨h, hh⟩ : ∃ h : Nat, (m : Int) / 2 = (h : Int) := ⟨m / 2, by omega⟩
          rw [hh]
          have hhm : h ≤ m := by omega
          have hhq : h ≤ q := by omega
          clear hh
          have CU1 := Lib.hid (show (cutN (-1) (onesTo ws N)).map (fun p : Nat => (p : Int)) = ci (onesTo ws N) by unfold cutN; rw [if_pos (by omega)]; rfl)
          have CU2 := Lib.hid (show (cutN (h : Int) (onesTo ws N)).map (fun p : Nat => (p : Int)) = (ci (onesTo ws N)).take h by unfold cutN ci; rw [if_neg (by omega), Int.toNat_natCast, List.map_take])
          have EQ1 := Lib.hid (show (ci (onesTo ws N) == ci (onesTo ws N)) = true from beq_self_eq_true _)
          have EQ2 := Lib.hid (show ((ci (onesTo ws N)).take h == (ci (onesTo ws N)).take h) = true from beq_self_eq_true _)
          have CC := Lib.hid (show cntW ws = m by rw [C1.out, HM.out, ci_length])
          
          rcases O.out.sl.cases with ⟨hv, hW0⟩ | ⟨g, c_, cur, hv, hgB, hgA, hgc, _, hgs, _⟩
          · simp only [Value.slice.injEq] at hv
            clear hW0
            obtain ⟨rfl, rfl, rfl⟩ := hv
            have hh0 : h = 0 := by omega
            subst hh0
            clear CU2 EQ2 hhm hhq hmq
            rw [show ((0 : Nat) : Int) = 0 from rfl]
            have CU2 := Lib.hid (show (cutN 0 (onesTo ws N)).map (fun p : Nat => (p : Int)) = (ci (onesTo ws N)).take 0 by unfold cutN ci; rw [if_neg (by omega)]; rfl)
            have EQ2 := Lib.hid (show ((ci (onesTo ws N)).take 0 == (ci (onesTo ws N)).take 0) = true from beq_self_eq_true _)
            have r_F := F.out.row
            have o_F := F.out.open
            have l_F := F.out.lt
            have c_F := F.out.cell
            have z_F := F.out.frozen
            have r_Wd := Wd.out.row
            have o_Wd := Wd.out.open
            have l_Wd := Wd.out.lt
            have c_Wd := Wd.out.cell
            have z_Wd := Wd.out.frozen
            have r_B := B.out.row
            have o_B := B.out.open
            have l_B := B.out.lt
            have c_B := B.out.cell
            have z_B := B.out.frozen
            have r_M := M.out.row
            have o_M := M.out.open
            have l_M := M.out.lt
            have c_M := M.out.cell
            have z_M := M.out.frozen
            refine region_sq (fun _ => False) [(0, true), (2, true), (3, true), (4, true), (5, true), (1, false), (6, false), (7, true), (8, true), (9, true), (11, true), (12, true), (13, true), (14, true), (15, true), (16, true), (10, false), (17, false), (18, true), (19, true), (20, true), (22, true), (23, true), (24, true), (25, true), (26, true), (21, false), (27, true), (28, true), (29, true), (30, false), (31, true), (32, true)] (by kernel_rfl) (by kernel_rfl) (fun _ _ d _ _ h => by cases d <;> exact h) ?_
            repeat (first
              | (refine sq_yes rfl (by rfl) (fun w' hM => by ((try replace hM := hM.of_drew); obtain ⟨hR1, hR2, hR3⟩ := hM.rules; clear hM; go_simp; with_reducible rfl)) ?_; simp only [Act.put, List.setIfInBounds_toArray, List.set_cons_zero, List.set_cons_succ])
              | (refine sq_no rfl (by rfl) ?_; simp only [Act.put, List.setIfInBounds_toArray, List.set_cons_zero, List.set_cons_succ]))
            clear r_F o_F l_F c_F z_F r_Wd o_Wd l_Wd c_Wd z_Wd r_B o_B l_B c_B z_B r_M o_M l_M c_M z_M
            replace Y2 := Lib.hid Y2.out.drew
            replace Y3 := Lib.hid Y3.out.drew
            replace F := Lib.hid F.out.drew
            replace Wd := Lib.hid Wd.out.drew
            replace B := Lib.hid B.out.drew
            replace M := Lib.hid M.out.drew
            replace O := Lib.hid O.out.drew
            replace HO := Lib.hid HO.out.drew
            replace HB := Lib.hid HB.out.drew
            generalize wr.drew = w10 at *
            refine sq_do_yes rfl (by rfl) (fun K_ hK_ => ?_)
            go_wp2_with fail
            refine (onesl_any gb gw gf N n ws (-1) _ hN2 NW.out L1.out X1.out B.out Wd.out).mono ?_
            rintro e w11 ⟨v1, rfl, ho, hb⟩
            have hbs : Below w10.heap.size w10 w11 := step_below (by first | exact Below.refl _ _ | exact (Below.refl _ _).drew | exact (Below.refl _ _).alloc (Nat.le_refl _) _ | exact ((Below.refl _ _).alloc (Nat.le_refl _) _).drew | exact ((Below.refl _ _).drew).alloc (Nat.le_refl _) _ | exact ((Below.refl _ _).alloc (Nat.le_refl _) _).alloc (by simp) _ | exact (((Below.refl _ _).alloc (Nat.le_refl _) _).alloc (by simp) _).drew | exact (((Below.refl _ _).alloc (Nat.le_refl _) _).alloc (by simp) _).alloc (by simp; omega) _) hb
            try clear HBz
            have HBz := HB.out.size
            replace HB := Lib.hid (step_below HB.out hbs)
            replace Y2 := Lib.hid (Y2.out.below hbs)
            replace Y3 := Lib.hid (Y3.out.below hbs)
            replace F := Lib.hid (F.out.below hbs F.out.lt)
            replace Wd := Lib.hid (Wd.out.below hbs Wd.out.lt)
            replace B := Lib.hid (B.out.below hbs B.out.lt)
            replace M := Lib.hid (M.out.below hbs M.out.lt)
            replace O := Lib.hid (O.out.below hbs)
            replace HO := Lib.hid (HO.out.below hbs)
            clear hbs
            rw [CU1.out] at ho
            obtain ⟨b1, m1, q1, rfl, hm1, hy1, hq1⟩ := ho.parts
            have S1 := Lib.hid hy1
            have M1 : m1 ≤ 1000000 := by have := HM.out; omega
            clear ho hm1 hy1 hq1
            go_wp2_with fail
            refine ⟨Mod.of_below hb, ?_⟩
            clear hb
            have r_F := F.out.row
            have o_F := F.out.open
            have l_F := F.out.lt
            have c_F := F.out.cell
            have z_F := F.out.frozen
            have r_Wd := Wd.out.row
            have o_Wd := Wd.out.open
            have l_Wd := Wd.out.lt
            have c_Wd := Wd.out.cell
            have z_Wd := Wd.out.frozen
            have r_B := B.out.row
            have o_B := B.out.open
            have l_B := B.out.lt
            have c_B := B.out.cell
            have z_B := B.out.frozen
            have r_M := M.out.row
            have o_M := M.out.open
            have l_M := M.out.lt
            have c_M := M.out.cell
            have z_M := M.out.frozen
            repeat (first
              | (refine sq_yes rfl (by rfl) (fun w' hM => by ((try replace hM := hM.of_drew); obtain ⟨hR1, hR2, hR3⟩ := hM.rules; clear hM; go_simp; with_reducible rfl)) ?_; simp only [Act.put, List.setIfInBounds_toArray, List.set_cons_zero, List.set_cons_succ])
              | (refine sq_no rfl (by rfl) ?_; simp only [Act.put, List.setIfInBounds_toArray, List.set_cons_zero, List.set_cons_succ]))
            clear r_F o_F l_F c_F z_F r_Wd o_Wd l_Wd c_Wd z_Wd r_B o_B l_B c_B z_B r_M o_M l_M c_M z_M
            refine sq_do_yes rfl (by rfl) (fun K_ hK_ => ?_)
            go_wp2_with fail
            refine (ints_any b1 m1 q1 _ _ _ _ _ _ S1.out HO.out M1 (by omega)).mono ?_
            rintro e w12 ⟨rfl, hb⟩
            have hbs : Below w11.heap.size w11 w12 := step_below (by first | exact Below.refl _ _ | exact (Below.refl _ _).drew | exact (Below.refl _ _).alloc (Nat.le_refl _) _ | exact ((Below.refl _ _).alloc (Nat.le_refl _) _).drew | exact ((Below.refl _ _).drew).alloc (Nat.le_refl _) _ | exact ((Below.refl _ _).alloc (Nat.le_refl _) _).alloc (by simp) _ | exact (((Below.refl _ _).alloc (Nat.le_refl _) _).alloc (by simp) _).drew | exact (((Below.refl _ _).alloc (Nat.le_refl _) _).alloc (by simp) _).alloc (by simp; omega) _) hb
            try clear HBz
            have HBz := HB.out.size
            replace HB := Lib.hid (step_below HB.out hbs)
            replace Y2 := Lib.hid (Y2.out.below hbs)
            replace Y3 := Lib.hid (Y3.out.below hbs)
            replace F := Lib.hid (F.out.below hbs F.out.lt)
            replace Wd := Lib.hid (Wd.out.below hbs Wd.out.lt)
            replace B := Lib.hid (B.out.below hbs B.out.lt)
            replace M := Lib.hid (M.out.below hbs M.out.lt)
            replace O := Lib.hid (O.out.below hbs)
            replace HO := Lib.hid (HO.out.below hbs)
            replace S1 := Lib.hid (S1.out.below hbs)
            clear hbs
            rw [EQ1.out]
            go_wp2_with fail
            refine ⟨Mod.of_below hb, ?_⟩
            clear hb
            have r_F := F.out.row
            have o_F := F.out.open
            have l_F := F.out.lt
            have c_F := F.out.cell
            have z_F := F.out.frozen
            have r_Wd := Wd.out.row
            have o_Wd := Wd.out.open
            have l_Wd := Wd.out.lt
            have c_Wd := Wd.out.cell
            have z_Wd := Wd.out.frozen
            have r_B := B.out.row
            have o_B := B.out.open
            have l_B := B.out.lt
            have c_B := B.out.cell
            have z_B := B.out.frozen
            have r_M := M.out.row
            have o_M := M.out.open
            have l_M := M.out.lt
            have c_M := M.out.cell
            have z_M := M.out.frozen
            repeat (first
              | (refine sq_yes rfl (by rfl) (fun w' hM => by ((try replace hM := hM.of_drew); obtain ⟨hR1, hR2, hR3⟩ := hM.rules; clear hM; go_simp; with_reducible rfl)) ?_; simp only [Act.put, List.setIfInBounds_toArray, List.set_cons_zero, List.set_cons_succ])
              | (refine sq_no rfl (by rfl) ?_; simp only [Act.put, List.setIfInBounds_toArray, List.set_cons_zero, List.set_cons_succ]))
            clear r_F o_F l_F c_F z_F r_Wd o_Wd l_Wd c_Wd z_Wd r_B o_B l_B c_B z_B r_M o_M l_M c_M z_M
            refine sq_do_yes rfl (by rfl) (fun K_ hK_ => ?_)
            go_wp2_with fail
            refine (onesl_any gb gw gf N n ws 0 _ hN2 NW.out L1.out X1.out B.out Wd.out).mono ?_
            rintro e w13 ⟨v2, rfl, ho, hb⟩
            have hbs : Below w12.heap.size w12 w13 := step_below (by first | exact Below.refl _ _ | exact (Below.refl _ _).drew | exact (Below.refl _ _).alloc (Nat.le_refl _) _ | exact ((Below.refl _ _).alloc (Nat.le_refl _) _).drew | exact ((Below.refl _ _).drew).alloc (Nat.le_refl _) _ | exact ((Below.refl _ _).alloc (Nat.le_refl _) _).alloc (by simp) _ | exact (((Below.refl _ _).alloc (Nat.le_refl _) _).alloc (by simp) _).drew | exact (((Below.refl _ _).alloc (Nat.le_refl _) _).alloc (by simp) _).alloc (by simp; omega) _) hb
            try clear HBz
            have HBz := HB.out.size
            replace HB := Lib.hid (step_below HB.out hbs)
            replace Y2 := Lib.hid (Y2.out.below hbs)
            replace Y3 := Lib.hid (Y3.out.below hbs)
            replace F := Lib.hid (F.out.below hbs F.out.lt)
            replace Wd := Lib.hid (Wd.out.below hbs Wd.out.lt)
            replace B := Lib.hid (B.out.below hbs B.out.lt)
            replace M := Lib.hid (M.out.below hbs M.out.lt)
            replace O := Lib.hid (O.out.below hbs)
            replace HO := Lib.hid (HO.out.below hbs)
            replace S1 := Lib.hid (S1.out.below hbs)
            clear hbs
            rw [CU2.out] at ho
            obtain ⟨b2, m2, q2, rfl, hm2, hy2, hq2⟩ := ho.parts
            have S2 := Lib.hid hy2
            have M2 : m2 ≤ 1000000 := by have := HM.out; rw [List.length_take] at hm2; omega
            clear ho hm2 hy2 hq2
            go_wp2_with fail
            refine ⟨Mod.of_below hb, ?_⟩
            clear hb
            have r_F := F.out.row
            have o_F := F.out.open
            have l_F := F.out.lt
            have c_F := F.out.cell
            have z_F := F.out.frozen
            have r_Wd := Wd.out.row
            have o_Wd := Wd.out.open
            have l_Wd := Wd.out.lt
            have c_Wd := Wd.out.cell
            have z_Wd := Wd.out.frozen
            have r_B := B.out.row
            have o_B := B.out.open
            have l_B := B.out.lt
            have c_B := B.out.cell
            have z_B := B.out.frozen
            have r_M := M.out.row
            have o_M := M.out.open
            have l_M := M.out.lt
            have c_M := M.out.cell
            have z_M := M.out.frozen
            repeat (first
              | (refine sq_yes rfl (by rfl) (fun w' hM => by ((try replace hM := hM.of_drew); obtain ⟨hR1, hR2, hR3⟩ := hM.rules; clear hM; go_simp; with_reducible rfl)) ?_; simp only [Act.put, List.setIfInBounds_toArray, List.set_cons_zero, List.set_cons_succ])
              | (refine sq_no rfl (by rfl) ?_; simp only [Act.put, List.setIfInBounds_toArray, List.set_cons_zero, List.set_cons_succ]))
            clear r_F o_F l_F c_F z_F r_Wd o_Wd l_Wd c_Wd z_Wd r_B o_B l_B c_B z_B r_M o_M l_M c_M z_M
            refine sq_do_yes rfl (by rfl) (fun K_ hK_ => ?_)
            go_wp2_with fail
            refine (ints_any b2 m2 q2 _ _ _ _ _ _ S2.out (HO.out.head 0 (Nat.zero_le _)) M2 (by omega)).mono ?_
            rintro e w14 ⟨rfl, hb⟩
            have hbs : Below w13.heap.size w13 w14 := step_below (by first | exact Below.refl _ _ | exact (Below.refl _ _).drew | exact (Below.refl _ _).alloc (Nat.le_refl _) _ | exact ((Below.refl _ _).alloc (Nat.le_refl _) _).drew | exact ((Below.refl _ _).drew).alloc (Nat.le_refl _) _ | exact ((Below.refl _ _).alloc (Nat.le_refl _) _).alloc (by simp) _ | exact (((Below.refl _ _).alloc (Nat.le_refl _) _).alloc (by simp) _).drew | exact (((Below.refl _ _).alloc (Nat.le_refl _) _).alloc (by simp) _).alloc (by simp; omega) _) hb
            try clear HBz
            have HBz := HB.out.size
            replace HB := Lib.hid (step_below HB.out hbs)
            replace Y2 := Lib.hid (Y2.out.below hbs)
            replace Y3 := Lib.hid (Y3.out.below hbs)
            replace F := Lib.hid (F.out.below hbs F.out.lt)
            replace Wd := Lib.hid (Wd.out.below hbs Wd.out.lt)
            replace B := Lib.hid (B.out.below hbs B.out.lt)
            replace M := Lib.hid (M.out.below hbs M.out.lt)
            replace O := Lib.hid (O.out.below hbs)
            replace HO := Lib.hid (HO.out.below hbs)
            replace S1 := Lib.hid (S1.out.below hbs)
            replace S2 := Lib.hid (S2.out.below hbs)
            clear hbs
            rw [EQ2.out]
            go_wp2_with fail
            refine ⟨Mod.of_below hb, ?_⟩
            clear hb
            have r_F := F.out.row
            have o_F := F.out.open
            have l_F := F.out.lt
            have c_F := F.out.cell
            have z_F := F.out.frozen
            have r_Wd := Wd.out.row
            have o_Wd := Wd.out.open
            have l_Wd := Wd.out.lt
            have c_Wd := Wd.out.cell
            have z_Wd := Wd.out.frozen
            have r_B := B.out.row
            have o_B := B.out.open
            have l_B := B.out.lt
            have c_B := B.out.cell
            have z_B := B.out.frozen
            have r_M := M.out.row
            have o_M := M.out.open
            have l_M := M.out.lt
            have c_M := M.out.cell
            have z_M := M.out.frozen
            repeat (first
              | (refine sq_yes rfl (by rfl) (fun w' hM => by ((try replace hM := hM.of_drew); obtain ⟨hR1, hR2, hR3⟩ := hM.rules; clear hM; go_simp; with_reducible rfl)) ?_; simp only [Act.put, List.setIfInBounds_toArray, List.set_cons_zero, List.set_cons_succ])
              | (refine sq_no rfl (by rfl) ?_; simp only [Act.put, List.setIfInBounds_toArray, List.set_cons_zero, List.set_cons_succ]))
            clear r_F o_F l_F c_F z_F r_Wd o_Wd l_Wd c_Wd z_Wd r_B o_B l_B c_B z_B r_M o_M l_M c_M z_M
            refine sq_do_yes rfl (by rfl) (fun K_ hK_ => ?_)
            go_wp2_with fail
            refine (count_any gb gw gf N n ws _ B.out Wd.out L1.out hn1k.1 X1.out).mono ?_
            rintro e w15 ⟨rfl, hb⟩
            have hbs : Below w14.heap.size w14 w15 := step_below (by first | exact Below.refl _ _ | exact (Below.refl _ _).drew | exact (Below.refl _ _).alloc (Nat.le_refl _) _ | exact ((Below.refl _ _).alloc (Nat.le_refl _) _).drew | exact ((Below.refl _ _).drew).alloc (Nat.le_refl _) _ | exact ((Below.refl _ _).alloc (Nat.le_refl _) _).alloc (by simp) _ | exact (((Below.refl _ _).alloc (Nat.le_refl _) _).alloc (by simp) _).drew | exact (((Below.refl _ _).alloc (Nat.le_refl _) _).alloc (by simp) _).alloc (by simp; omega) _) hb
            try clear HBz
            have HBz := HB.out.size
            replace HB := Lib.hid (step_below HB.out hbs)
            replace Y2 := Lib.hid (Y2.out.below hbs)
            replace Y3 := Lib.hid (Y3.out.below hbs)
            replace F := Lib.hid (F.out.below hbs F.out.lt)
            replace Wd := Lib.hid (Wd.out.below hbs Wd.out.lt)
            replace B := Lib.hid (B.out.below hbs B.out.lt)
            replace M := Lib.hid (M.out.below hbs M.out.lt)
            replace O := Lib.hid (O.out.below hbs)
            replace HO := Lib.hid (HO.out.below hbs)
            replace S1 := Lib.hid (S1.out.below hbs)
            replace S2 := Lib.hid (S2.out.below hbs)
            clear hbs
            rw [CC.out]
            go_wp2_with fail
            refine ⟨Mod.of_below hb, ?_⟩
            clear hb
            have r_F := F.out.row
            have o_F := F.out.open
            have l_F := F.out.lt
            have c_F := F.out.cell
            have z_F := F.out.frozen
            have r_Wd := Wd.out.row
            have o_Wd := Wd.out.open
            have l_Wd := Wd.out.lt
            have c_Wd := Wd.out.cell
            have z_Wd := Wd.out.frozen
            have r_B := B.out.row
            have o_B := B.out.open
            have l_B := B.out.lt
            have c_B := B.out.cell
            have z_B := B.out.frozen
            have r_M := M.out.row
            have o_M := M.out.open
            have l_M := M.out.lt
            have c_M := M.out.cell
            have z_M := M.out.frozen
            repeat (first
              | (refine sq_yes rfl (by rfl) (fun w' hM => by ((try replace hM := hM.of_drew); obtain ⟨hR1, hR2, hR3⟩ := hM.rules; clear hM; go_simp; with_reducible rfl)) ?_; simp only [Act.put, List.setIfInBounds_toArray, List.set_cons_zero, List.set_cons_succ])
              | (refine sq_no rfl (by rfl) ?_; simp only [Act.put, List.setIfInBounds_toArray, List.set_cons_zero, List.set_cons_succ]))
            clear r_F o_F l_F c_F z_F r_Wd o_Wd l_Wd c_Wd z_Wd r_B o_B l_B c_B z_B r_M o_M l_M c_M z_M
            refine sq_do_yes rfl (by rfl) (fun K_ hK_ => ?_)
            go_wp2_with fail
            refine (bawake_any _).mono ?_
            rintro e w16 ⟨rfl, hb⟩
            have hbs : Below w15.heap.size w15 w16 := step_below (by first | exact Below.refl _ _ | exact (Below.refl _ _).drew | exact (Below.refl _ _).alloc (Nat.le_refl _) _ | exact ((Below.refl _ _).alloc (Nat.le_refl _) _).drew | exact ((Below.refl _ _).drew).alloc (Nat.le_refl _) _ | exact ((Below.refl _ _).alloc (Nat.le_refl _) _).alloc (by simp) _ | exact (((Below.refl _ _).alloc (Nat.le_refl _) _).alloc (by simp) _).drew | exact (((Below.refl _ _).alloc (Nat.le_refl _) _).alloc (by simp) _).alloc (by simp; omega) _) hb
            try clear HBz
            have HBz := HB.out.size
            replace HB := Lib.hid (step_below HB.out hbs)
            replace Y2 := Lib.hid (Y2.out.below hbs)
            replace Y3 := Lib.hid (Y3.out.below hbs)
            replace F := Lib.hid (F.out.below hbs F.out.lt)
            replace Wd := Lib.hid (Wd.out.below hbs Wd.out.lt)
            replace B := Lib.hid (B.out.below hbs B.out.lt)
            replace M := Lib.hid (M.out.below hbs M.out.lt)
            replace O := Lib.hid (O.out.below hbs)
            replace HO := Lib.hid (HO.out.below hbs)
            replace S1 := Lib.hid (S1.out.below hbs)
            replace S2 := Lib.hid (S2.out.below hbs)
            clear hbs
            go_wp2_with fail
            refine ⟨Mod.of_below hb, ?_⟩
            clear hb
            have r_F := F.out.row
            have o_F := F.out.open
            have l_F := F.out.lt
            have c_F := F.out.cell
            have z_F := F.out.frozen
            have r_Wd := Wd.out.row
            have o_Wd := Wd.out.open
            have l_Wd := Wd.out.lt
            have c_Wd := Wd.out.cell
            have z_Wd := Wd.out.frozen
            have r_B := B.out.row
            have o_B := B.out.open
            have l_B := B.out.lt
            have c_B := B.out.cell
            have z_B := B.out.frozen
            have r_M := M.out.row
            have o_M := M.out.open
            have l_M := M.out.lt
            have c_M := M.out.cell
            have z_M := M.out.frozen
            repeat (first
              | (refine sq_yes rfl (by rfl) (fun w' hM => by ((try replace hM := hM.of_drew); obtain ⟨hR1, hR2, hR3⟩ := hM.rules; clear hM; go_simp; with_reducible rfl)) ?_; simp only [Act.put, List.setIfInBounds_toArray, List.set_cons_zero, List.set_cons_succ])
              | (refine sq_no rfl (by rfl) ?_; simp only [Act.put, List.setIfInBounds_toArray, List.set_cons_zero, List.set_cons_succ]))
            clear r_F o_F l_F c_F z_F r_Wd o_Wd l_Wd c_Wd z_Wd r_B o_B l_B c_B z_B r_M o_M l_M c_M z_M
            refine sq_end ?_
            go_wp2_with fail
            go_ret
            exact ⟨rfl, HB.out⟩
          · simp only [Value.slice.injEq] at hv
            obtain ⟨rfl, hmm_, rfl⟩ := hv
            clear hmm_ hgA hgs hgc
            
            have r_F := F.out.row
            have o_F := F.out.open
            have l_F := F.out.lt
            have c_F := F.out.cell
            have z_F := F.out.frozen
            have r_Wd := Wd.out.row
            have o_Wd := Wd.out.open
            have l_Wd := Wd.out.lt
            have c_Wd := Wd.out.cell
            have z_Wd := Wd.out.frozen
            have r_B := B.out.row
            have o_B := B.out.open
            have l_B := B.out.lt
            have c_B := B.out.cell
            have z_B := B.out.frozen
            have r_M := M.out.row
            have o_M := M.out.open
            have l_M := M.out.lt
            have c_M := M.out.cell
            have z_M := M.out.frozen
            refine region_sq (fun _ => False) [(0, true), (2, true), (3, true), (4, true), (5, true), (1, false), (6, false), (7, true), (8, true), (9, true), (11, true), (12, true), (13, true), (14, true), (15, true), (16, true), (10, false), (17, false), (18, true), (19, true), (20, true), (22, true), (23, true), (24, true), (25, true), (26, true), (21, false), (27, true), (28, true), (29, true), (30, false), (31, true), (32, true)] (by kernel_rfl) (by kernel_rfl) (fun _ _ d _ _ h => by cases d <;> exact h) ?_
            repeat (first
              | (refine sq_yes rfl (by rfl) (fun w' hM => by ((try replace hM := hM.of_drew); obtain ⟨hR1, hR2, hR3⟩ := hM.rules; clear hM; go_simp; with_reducible rfl)) ?_; simp only [Act.put, List.setIfInBounds_toArray, List.set_cons_zero, List.set_cons_succ])
              | (refine sq_no rfl (by rfl) ?_; simp only [Act.put, List.setIfInBounds_toArray, List.set_cons_zero, List.set_cons_succ]))
            clear r_F o_F l_F c_F z_F r_Wd o_Wd l_Wd c_Wd z_Wd r_B o_B l_B c_B z_B r_M o_M l_M c_M z_M
            replace Y2 := Lib.hid Y2.out.drew
            replace Y3 := Lib.hid Y3.out.drew
            replace F := Lib.hid F.out.drew
            replace Wd := Lib.hid Wd.out.drew
            replace B := Lib.hid B.out.drew
            replace M := Lib.hid M.out.drew
            replace O := Lib.hid O.out.drew
            replace HO := Lib.hid HO.out.drew
            replace HB := Lib.hid HB.out.drew
            generalize wr.drew = w17 at *
            refine sq_do_yes rfl (by rfl) (fun K_ hK_ => ?_)
            go_wp2_with fail
            refine (onesl_any gb gw gf N n ws (-1) _ hN2 NW.out L1.out X1.out B.out Wd.out).mono ?_
            rintro e w18 ⟨v1, rfl, ho, hb⟩
            have hbs : Below w17.heap.size w17 w18 := step_below (by first | exact Below.refl _ _ | exact (Below.refl _ _).drew | exact (Below.refl _ _).alloc (Nat.le_refl _) _ | exact ((Below.refl _ _).alloc (Nat.le_refl _) _).drew | exact ((Below.refl _ _).drew).alloc (Nat.le_refl _) _ | exact ((Below.refl _ _).alloc (Nat.le_refl _) _).alloc (by simp) _ | exact (((Below.refl _ _).alloc (Nat.le_refl _) _).alloc (by simp) _).drew | exact (((Below.refl _ _).alloc (Nat.le_refl _) _).alloc (by simp) _).alloc (by simp; omega) _) hb
            try clear HBz
            have HBz := HB.out.size
            replace HB := Lib.hid (step_below HB.out hbs)
            replace Y2 := Lib.hid (Y2.out.below hbs)
            replace Y3 := Lib.hid (Y3.out.below hbs)
            replace F := Lib.hid (F.out.below hbs F.out.lt)
            replace Wd := Lib.hid (Wd.out.below hbs Wd.out.lt)
            replace B := Lib.hid (B.out.below hbs B.out.lt)
            replace M := Lib.hid (M.out.below hbs M.out.lt)
            replace O := Lib.hid (O.out.below hbs)
            replace HO := Lib.hid (HO.out.below hbs)
            clear hbs
            rw [CU1.out] at ho
            obtain ⟨b1, m1, q1, rfl, hm1, hy1, hq1⟩ := ho.parts
            have S1 := Lib.hid hy1
            have M1 : m1 ≤ 1000000 := by have := HM.out; omega
            clear ho hm1 hy1 hq1
            go_wp2_with fail
            refine ⟨Mod.of_below hb, ?_⟩
            clear hb
            have r_F := F.out.row
            have o_F := F.out.open
            have l_F := F.out.lt
            have c_F := F.out.cell
            have z_F := F.out.frozen
            have r_Wd := Wd.out.row
            have o_Wd := Wd.out.open
            have l_Wd := Wd.out.lt
            have c_Wd := Wd.out.cell
            have z_Wd := Wd.out.frozen
            have r_B := B.out.row
            have o_B := B.out.open
            have l_B := B.out.lt
            have c_B := B.out.cell
            have z_B := B.out.frozen
            have r_M := M.out.row
            have o_M := M.out.open
            have l_M := M.out.lt
            have c_M := M.out.cell
            have z_M := M.out.frozen
            repeat (first
              | (refine sq_yes rfl (by rfl) (fun w' hM => by ((try replace hM := hM.of_drew); obtain ⟨hR1, hR2, hR3⟩ := hM.rules; clear hM; go_simp; with_reducible rfl)) ?_; simp only [Act.put, List.setIfInBounds_toArray, List.set_cons_zero, List.set_cons_succ])
              | (refine sq_no rfl (by rfl) ?_; simp only [Act.put, List.setIfInBounds_toArray, List.set_cons_zero, List.set_cons_succ]))
            clear r_F o_F l_F c_F z_F r_Wd o_Wd l_Wd c_Wd z_Wd r_B o_B l_B c_B z_B r_M o_M l_M c_M z_M
            refine sq_do_yes rfl (by rfl) (fun K_ hK_ => ?_)
            go_wp2_with fail
            refine (ints_any b1 m1 q1 _ _ _ _ _ _ S1.out HO.out M1 (by omega)).mono ?_
            rintro e w19 ⟨rfl, hb⟩
            have hbs : Below w18.heap.size w18 w19 := step_below (by first | exact Below.refl _ _ | exact (Below.refl _ _).drew | exact (Below.refl _ _).alloc (Nat.le_refl _) _ | exact ((Below.refl _ _).alloc (Nat.le_refl _) _).drew | exact ((Below.refl _ _).drew).alloc (Nat.le_refl _) _ | exact ((Below.refl _ _).alloc (Nat.le_refl _) _).alloc (by simp) _ | exact (((Below.refl _ _).alloc (Nat.le_refl _) _).alloc (by simp) _).drew | exact (((Below.refl _ _).alloc (Nat.le_refl _) _).alloc (by simp) _).alloc (by simp; omega) _) hb
            try clear HBz
            have HBz := HB.out.size
            replace HB := Lib.hid (step_below HB.out hbs)
            replace Y2 := Lib.hid (Y2.out.below hbs)
            replace Y3 := Lib.hid (Y3.out.below hbs)
            replace F := Lib.hid (F.out.below hbs F.out.lt)
            replace Wd := Lib.hid (Wd.out.below hbs Wd.out.lt)
            replace B := Lib.hid (B.out.below hbs B.out.lt)
            replace M := Lib.hid (M.out.below hbs M.out.lt)
            replace O := Lib.hid (O.out.below hbs)
            replace HO := Lib.hid (HO.out.below hbs)
            replace S1 := Lib.hid (S1.out.below hbs)
            clear hbs
            rw [EQ1.out]
            go_wp2_with fail
            refine ⟨Mod.of_below hb, ?_⟩
            clear hb
            have r_F := F.out.row
            have o_F := F.out.open
            have l_F := F.out.lt
            have c_F := F.out.cell
            have z_F := F.out.frozen
            have r_Wd := Wd.out.row
            have o_Wd := Wd.out.open
            have l_Wd := Wd.out.lt
            have c_Wd := Wd.out.cell
            have z_Wd := Wd.out.frozen
            have r_B := B.out.row
            have o_B := B.out.open
            have l_B := B.out.lt
            have c_B := B.out.cell
            have z_B := B.out.frozen
            have r_M := M.out.row
            have o_M := M.out.open
            have l_M := M.out.lt
            have c_M := M.out.cell
            have z_M := M.out.frozen
            repeat (first
              | (refine sq_yes rfl (by rfl) (fun w' hM => by ((try replace hM := hM.of_drew); obtain ⟨hR1, hR2, hR3⟩ := hM.rules; clear hM; go_simp; with_reducible rfl)) ?_; simp only [Act.put, List.setIfInBounds_toArray, List.set_cons_zero, List.set_cons_succ])
              | (refine sq_no rfl (by rfl) ?_; simp only [Act.put, List.setIfInBounds_toArray, List.set_cons_zero, List.set_cons_succ]))
            clear r_F o_F l_F c_F z_F r_Wd o_Wd l_Wd c_Wd z_Wd r_B o_B l_B c_B z_B r_M o_M l_M c_M z_M
            refine sq_do_yes rfl (by rfl) (fun K_ hK_ => ?_)
            go_wp2_with fail
            refine (onesl_any gb gw gf N n ws (h : Int) _ hN2 NW.out L1.out X1.out B.out Wd.out).mono ?_
            rintro e w20 ⟨v2, rfl, ho, hb⟩
            have hbs : Below w19.heap.size w19 w20 := step_below (by first | exact Below.refl _ _ | exact (Below.refl _ _).drew | exact (Below.refl _ _).alloc (Nat.le_refl _) _ | exact ((Below.refl _ _).alloc (Nat.le_refl _) _).drew | exact ((Below.refl _ _).drew).alloc (Nat.le_refl _) _ | exact ((Below.refl _ _).alloc (Nat.le_refl _) _).alloc (by simp) _ | exact (((Below.refl _ _).alloc (Nat.le_refl _) _).alloc (by simp) _).drew | exact (((Below.refl _ _).alloc (Nat.le_refl _) _).alloc (by simp) _).alloc (by simp; omega) _) hb
            try clear HBz
            have HBz := HB.out.size
            replace HB := Lib.hid (step_below HB.out hbs)
            replace Y2 := Lib.hid (Y2.out.below hbs)
            replace Y3 := Lib.hid (Y3.out.below hbs)
            replace F := Lib.hid (F.out.below hbs F.out.lt)
            replace Wd := Lib.hid (Wd.out.below hbs Wd.out.lt)
            replace B := Lib.hid (B.out.below hbs B.out.lt)
            replace M := Lib.hid (M.out.below hbs M.out.lt)
            replace O := Lib.hid (O.out.below hbs)
            replace HO := Lib.hid (HO.out.below hbs)
            replace S1 := Lib.hid (S1.out.below hbs)
            clear hbs
            rw [CU2.out] at ho
            obtain ⟨b2, m2, q2, rfl, hm2, hy2, hq2⟩ := ho.parts
            have S2 := Lib.hid hy2
            have M2 : m2 ≤ 1000000 := by have := HM.out; rw [List.length_take] at hm2; omega
            clear ho hm2 hy2 hq2
            go_wp2_with fail
            refine ⟨Mod.of_below hb, ?_⟩
            clear hb
            have r_F := F.out.row
            have o_F := F.out.open
            have l_F := F.out.lt
            have c_F := F.out.cell
            have z_F := F.out.frozen
            have r_Wd := Wd.out.row
            have o_Wd := Wd.out.open
            have l_Wd := Wd.out.lt
            have c_Wd := Wd.out.cell
            have z_Wd := Wd.out.frozen
            have r_B := B.out.row
            have o_B := B.out.open
            have l_B := B.out.lt
            have c_B := B.out.cell
            have z_B := B.out.frozen
            have r_M := M.out.row
            have o_M := M.out.open
            have l_M := M.out.lt
            have c_M := M.out.cell
            have z_M := M.out.frozen
            repeat (first
              | (refine sq_yes rfl (by rfl) (fun w' hM => by ((try replace hM := hM.of_drew); obtain ⟨hR1, hR2, hR3⟩ := hM.rules; clear hM; go_simp; with_reducible rfl)) ?_; simp only [Act.put, List.setIfInBounds_toArray, List.set_cons_zero, List.set_cons_succ])
              | (refine sq_no rfl (by rfl) ?_; simp only [Act.put, List.setIfInBounds_toArray, List.set_cons_zero, List.set_cons_succ]))
            clear r_F o_F l_F c_F z_F r_Wd o_Wd l_Wd c_Wd z_Wd r_B o_B l_B c_B z_B r_M o_M l_M c_M z_M
            refine sq_do_yes rfl (by rfl) (fun K_ hK_ => ?_)
            go_wp2_with fail
            refine (ints_any b2 m2 q2 _ _ _ _ _ _ S2.out (HO.out.head h hhm) M2 (by omega)).mono ?_
            rintro e w21 ⟨rfl, hb⟩
            have hbs : Below w20.heap.size w20 w21 := step_below (by first | exact Below.refl _ _ | exact (Below.refl _ _).drew | exact (Below.refl _ _).alloc (Nat.le_refl _) _ | exact ((Below.refl _ _).alloc (Nat.le_refl _) _).drew | exact ((Below.refl _ _).drew).alloc (Nat.le_refl _) _ | exact ((Below.refl _ _).alloc (Nat.le_refl _) _).alloc (by simp) _ | exact (((Below.refl _ _).alloc (Nat.le_refl _) _).alloc (by simp) _).drew | exact (((Below.refl _ _).alloc (Nat.le_refl _) _).alloc (by simp) _).alloc (by simp; omega) _) hb
            try clear HBz
            have HBz := HB.out.size
            replace HB := Lib.hid (step_below HB.out hbs)
            replace Y2 := Lib.hid (Y2.out.below hbs)
            replace Y3 := Lib.hid (Y3.out.below hbs)
            replace F := Lib.hid (F.out.below hbs F.out.lt)
            replace Wd := Lib.hid (Wd.out.below hbs Wd.out.lt)
            replace B := Lib.hid (B.out.below hbs B.out.lt)
            replace M := Lib.hid (M.out.below hbs M.out.lt)
            replace O := Lib.hid (O.out.below hbs)
            replace HO := Lib.hid (HO.out.below hbs)
            replace S1 := Lib.hid (S1.out.below hbs)
            replace S2 := Lib.hid (S2.out.below hbs)
            clear hbs
            rw [EQ2.out]
            go_wp2_with fail
            refine ⟨Mod.of_below hb, ?_⟩
            clear hb
            have r_F := F.out.row
            have o_F := F.out.open
            have l_F := F.out.lt
            have c_F := F.out.cell
            have z_F := F.out.frozen
            have r_Wd := Wd.out.row
            have o_Wd := Wd.out.open
            have l_Wd := Wd.out.lt
            have c_Wd := Wd.out.cell
            have z_Wd := Wd.out.frozen
            have r_B := B.out.row
            have o_B := B.out.open
            have l_B := B.out.lt
            have c_B := B.out.cell
            have z_B := B.out.frozen
            have r_M := M.out.row
            have o_M := M.out.open
            have l_M := M.out.lt
            have c_M := M.out.cell
            have z_M := M.out.frozen
            repeat (first
              | (refine sq_yes rfl (by rfl) (fun w' hM => by ((try replace hM := hM.of_drew); obtain ⟨hR1, hR2, hR3⟩ := hM.rules; clear hM; go_simp; with_reducible rfl)) ?_; simp only [Act.put, List.setIfInBounds_toArray, List.set_cons_zero, List.set_cons_succ])
              | (refine sq_no rfl (by rfl) ?_; simp only [Act.put, List.setIfInBounds_toArray, List.set_cons_zero, List.set_cons_succ]))
            clear r_F o_F l_F c_F z_F r_Wd o_Wd l_Wd c_Wd z_Wd r_B o_B l_B c_B z_B r_M o_M l_M c_M z_M
            refine sq_do_yes rfl (by rfl) (fun K_ hK_ => ?_)
            go_wp2_with fail
            refine (count_any gb gw gf N n ws _ B.out Wd.out L1.out hn1k.1 X1.out).mono ?_
            rintro e w22 ⟨rfl, hb⟩
            have hbs : Below w21.heap.size w21 w22 := step_below (by first | exact Below.refl _ _ | exact (Below.refl _ _).drew | exact (Below.refl _ _).alloc (Nat.le_refl _) _ | exact ((Below.refl _ _).alloc (Nat.le_refl _) _).drew | exact ((Below.refl _ _).drew).alloc (Nat.le_refl _) _ | exact ((Below.refl _ _).alloc (Nat.le_refl _) _).alloc (by simp) _ | exact (((Below.refl _ _).alloc (Nat.le_refl _) _).alloc (by simp) _).drew | exact (((Below.refl _ _).alloc (Nat.le_refl _) _).alloc (by simp) _).alloc (by simp; omega) _) hb
            try clear HBz
            have HBz := HB.out.size
            replace HB := Lib.hid (step_below HB.out hbs)
            replace Y2 := Lib.hid (Y2.out.below hbs)
            replace Y3 := Lib.hid (Y3.out.below hbs)
            replace F := Lib.hid (F.out.below hbs F.out.lt)
            replace Wd := Lib.hid (Wd.out.below hbs Wd.out.lt)
            replace B := Lib.hid (B.out.below hbs B.out.lt)
            replace M := Lib.hid (M.out.below hbs M.out.lt)
            replace O := Lib.hid (O.out.below hbs)
            replace HO := Lib.hid (HO.out.below hbs)
            replace S1 := Lib.hid (S1.out.below hbs)
            replace S2 := Lib.hid (S2.out.below hbs)
            clear hbs
            rw [CC.out]
            go_wp2_with fail
            refine ⟨Mod.of_below hb, ?_⟩
            clear hb
            have r_F := F.out.row
            have o_F := F.out.open
            have l_F := F.out.lt
            have c_F := F.out.cell
            have z_F := F.out.frozen
            have r_Wd := Wd.out.row
            have o_Wd := Wd.out.open
            have l_Wd := Wd.out.lt
            have c_Wd := Wd.out.cell
            have z_Wd := Wd.out.frozen
            have r_B := B.out.row
            have o_B := B.out.open
            have l_B := B.out.lt
            have c_B := B.out.cell
            have z_B := B.out.frozen
            have r_M := M.out.row
            have o_M := M.out.open
            have l_M := M.out.lt
            have c_M := M.out.cell
            have z_M := M.out.frozen
            repeat (first
              | (refine sq_yes rfl (by rfl) (fun w' hM => by ((try replace hM := hM.of_drew); obtain ⟨hR1, hR2, hR3⟩ := hM.rules; clear hM; go_simp; with_reducible rfl)) ?_; simp only [Act.put, List.setIfInBounds_toArray, List.set_cons_zero, List.set_cons_succ])
              | (refine sq_no rfl (by rfl) ?_; simp only [Act.put, List.setIfInBounds_toArray, List.set_cons_zero, List.set_cons_succ]))
            clear r_F o_F l_F c_F z_F r_Wd o_Wd l_Wd c_Wd z_Wd r_B o_B l_B c_B z_B r_M o_M l_M c_M z_M
            refine sq_do_yes rfl (by rfl) (fun K_ hK_ => ?_)
            go_wp2_with fail
            refine (bawake_any _).mono ?_
            rintro e w23 ⟨rfl, hb⟩
            have hbs : Below w22.heap.size w22 w23 := step_below (by first | exact Below.refl _ _ | exact (Below.refl _ _).drew | exact (Below.refl _ _).alloc (Nat.le_refl _) _ | exact ((Below.refl _ _).alloc (Nat.le_refl _) _).drew | exact ((Below.refl _ _).drew).alloc (Nat.le_refl _) _ | exact ((Below.refl _ _).alloc (Nat.le_refl _) _).alloc (by simp) _ | exact (((Below.refl _ _).alloc (Nat.le_refl _) _).alloc (by simp) _).drew | exact (((Below.refl _ _).alloc (Nat.le_refl _) _).alloc (by simp) _).alloc (by simp; omega) _) hb
            try clear HBz
            have HBz := HB.out.size
            replace HB := Lib.hid (step_below HB.out hbs)
            replace Y2 := Lib.hid (Y2.out.below hbs)
            replace Y3 := Lib.hid (Y3.out.below hbs)
            replace F := Lib.hid (F.out.below hbs F.out.lt)
            replace Wd := Lib.hid (Wd.out.below hbs Wd.out.lt)
            replace B := Lib.hid (B.out.below hbs B.out.lt)
            replace M := Lib.hid (M.out.below hbs M.out.lt)
            replace O := Lib.hid (O.out.below hbs)
            replace HO := Lib.hid (HO.out.below hbs)
            replace S1 := Lib.hid (S1.out.below hbs)
            replace S2 := Lib.hid (S2.out.below hbs)
            clear hbs
            go_wp2_with fail
            refine ⟨Mod.of_below hb, ?_⟩
            clear hb
            have r_F := F.out.row
            have o_F := F.out.open
            have l_F := F.out.lt
            have c_F := F.out.cell
            have z_F := F.out.frozen
            have r_Wd := Wd.out.row
            have o_Wd := Wd.out.open
            have l_Wd := Wd.out.lt
            have c_Wd := Wd.out.cell
            have z_Wd := Wd.out.frozen
            have r_B := B.out.row
            have o_B := B.out.open
            have l_B := B.out.lt
            have c_B := B.out.cell
            have z_B := B.out.frozen
            have r_M := M.out.row
            have o_M := M.out.open
            have l_M := M.out.lt
            have c_M := M.out.cell
            have z_M := M.out.frozen
            repeat (first
              | (refine sq_yes rfl (by rfl) (fun w' hM => by ((try replace hM := hM.of_drew); obtain ⟨hR1, hR2, hR3⟩ := hM.rules; clear hM; go_simp; with_reducible rfl)) ?_; simp only [Act.put, List.setIfInBounds_toArray, List.set_cons_zero, List.set_cons_succ])
              | (refine sq_no rfl (by rfl) ?_; simp only [Act.put, List.setIfInBounds_toArray, List.set_cons_zero, List.set_cons_succ]))
            clear r_F o_F l_F c_F z_F r_Wd o_Wd l_Wd c_Wd z_Wd r_B o_B l_B c_B z_B r_M o_M l_M c_M z_M
            refine sq_end ?_
            go_wp2_with fail
            go_ret
            exact ⟨rfl, HB.out⟩
set_option maxRecDepth 100000 in
set_option maxHeartbeats 16000000 in
theorem tells_law (a0 : Option Addr) (n0 c0 : Nat) (z0 : List Int) (a1 : Int) (a2 : Option Addr) (n2 c2 : Nat) (z2 : List Int) (a3 : Option Addr) (n3 c3 : Nat) (z3 : List Int) (a4 : Int) (w : World) (h0 : IsRow .i64 w a0 n0 c0 z0) (_ : (Lit.int .i64 a1).wf = true) (h2 : IsRow .i64 w a2 n2 c2 z2) (h3 : IsRow .i64 w a3 n3 c3 z3) (_ : (Lit.int .i64 a4).wf = true) :
    Calls Try.prog 7 #[.slice a0 n0 c0, .int .i64 a1, .slice a2 n2 c2, .slice a3 n3 c3, .int .i64 a4] w fun e w' => e = .returned (.bool true) ∧ Below w.heap.size w w' := by
  obtain ⟨hI, hm, _⟩ := h0.ints
  have HI := Lib.hid hI
  have Y2 := Lib.hid h2.inI
  have Y3 := Lib.hid h3.inI
  have hm2 := h2.ints.2.1
  have hm3 := h3.ints.2.1
  clear h0 hI h2 h3
  unfold maxLen at hm hm2 hm3
  have hcase : 30 < n0 ∨ (n0 ≤ 30 ∧ 40 < n2) ∨ (n0 ≤ 30 ∧ n2 ≤ 40 ∧ 40 < n3) ∨ (n0 ≤ 30 ∧ n2 ≤ 40 ∧ n3 ≤ 40 ∧ (a1 < 1 ∨ (1 ≤ a1 ∧ 65536 < a1))) ∨ (n0 ≤ 30 ∧ n2 ≤ 40 ∧ n3 ≤ 40 ∧ 1 ≤ a1 ∧ a1 ≤ 65536) := by omega
  rcases hcase with hn | ⟨hn, hn2⟩ | ⟨hn, hn2, hn3⟩ | ⟨hn, hn2, hn3, hn4⟩ | ⟨hn, hn2, hn3, hn4, hn5⟩
  iterate 3
    · go_enter Try.func7, Try.ntmps7
      go_wp2_with fail
      refine (bawake_any _).mono ?_
      rintro e w1 ⟨rfl, hb⟩
      go_wp2_with fail
      go_ret
      exact ⟨rfl, hb⟩
  · obtain ⟨c, hc⟩ : ∃ c, c = config (z0.take n0) := ⟨_, rfl⟩
    have KC := Lib.hid (fun (w : World) (h : Ints w a0 n0 (z0.take n0)) => config_any a0 n0 c0 (z0.take n0) w h (by omega))
    rw [← hc] at KC
    have OK := Lib.hid (show cok c = true by rw [hc]; exact cok_config _)
    clear hc
    have hst0 := fun (w : World) (n : Nat) (Z : Array Value) (hn : n = w.heap.size) (hZ : Z.size = 48) => store_new (P := Try.prog) sizeC w n Z (cc c) hn hZ (cc_size _) (cc_one _)
    have HNO := Lib.hid (show a1 < 1 ∨ 65536 < a1 by omega)
    rcases hn4 with hn4 | ⟨hn4, hn5⟩
    all_goals
      go_enter Try.func7, Try.ntmps7
      have HB := Lib.hid (Below.refl w.heap.size w)
      go_wp2_with fail
      refine (KC.out _ HI.out).mono ?_
      rintro e w1 ⟨rfl, hb⟩
      have hbs : Below w.heap.size w w1 := step_below (by first | exact Below.refl _ _ | exact (Below.refl _ _).drew | exact (Below.refl _ _).alloc (Nat.le_refl _) _ | exact ((Below.refl _ _).alloc (Nat.le_refl _) _).drew | exact ((Below.refl _ _).drew).alloc (Nat.le_refl _) _ | exact ((Below.refl _ _).alloc (Nat.le_refl _) _).alloc (by simp) _ | exact (((Below.refl _ _).alloc (Nat.le_refl _) _).alloc (by simp) _).drew | exact (((Below.refl _ _).alloc (Nat.le_refl _) _).alloc (by simp) _).alloc (by simp; omega) _) hb
      try clear HBz
      have HBz := HB.out.size
      replace HB := Lib.hid (step_below HB.out hbs)
      clear hbs
      clear hb
      go_wp2_with fail
      have HBp := HB
      have C := at_new w1 29 (cc c) (w1.heap.size) rfl
      replace HB := Lib.hid (HB.out.alloc HB.out.size (.cells (cc c) 29))
      obtain ⟨gc, hg⟩ : ∃ g, g = w1.heap.size := ⟨_, rfl⟩
      have hgs : gc = w1.heap.size := by rw [hg]
      have b_gc : w.heap.size ≤ gc := by rw [hgs]; exact HBp.out.size
      have e_gc := Lib.hid hgs
      have S_w2 := Lib.hid (show (w1.alloc (.cells (cc c) 29)).heap.size = gc + 1 by rw [World.size_alloc, hgs])
      rw [← hg] at C
      try rw [← hg]
      clear hg hgs HBp
      replace C := Lib.hid C
      generalize w1.alloc (.cells (cc c) 29) = w2 at *
      have r_C := C.out.row
      have o_C := C.out.open
      have l_C := C.out.lt
      have c_C := C.out.cell
      have z_C := C.out.frozen
      go_wp2_with fail
      clear r_C o_C l_C c_C z_C
      refine (new_ok c _ OK.out).mono ?_
      rintro e w3 ⟨gf, rfl, hgf, hF, hb⟩
      have hbs : Below w2.heap.size w2 w3 := step_below (by first | exact Below.refl _ _ | exact (Below.refl _ _).drew | exact (Below.refl _ _).alloc (Nat.le_refl _) _ | exact ((Below.refl _ _).alloc (Nat.le_refl _) _).drew | exact ((Below.refl _ _).drew).alloc (Nat.le_refl _) _ | exact ((Below.refl _ _).alloc (Nat.le_refl _) _).alloc (by simp) _ | exact (((Below.refl _ _).alloc (Nat.le_refl _) _).alloc (by simp) _).drew | exact (((Below.refl _ _).alloc (Nat.le_refl _) _).alloc (by simp) _).alloc (by simp; omega) _) hb
      try clear HBz
      have HBz := HB.out.size
      replace HB := Lib.hid (step_below HB.out hbs)
      replace C := Lib.hid (C.out.below hbs C.out.lt)
      clear hbs
      clear hb
      clear hF hgf
      have r_C := C.out.row
      have o_C := C.out.open
      have l_C := C.out.lt
      have c_C := C.out.cell
      have z_C := C.out.frozen
      go_wp2_with fail
      clear r_C o_C l_C c_C z_C
      refine (bnew_no gf a1 HNO.out _).mono ?_
      rintro e w_ ⟨rfl, hw_⟩
      obtain rfl := hw_.symm
      clear hw_ hst0
      have r_C := C.out.row
      have o_C := C.out.open
      have l_C := C.out.lt
      have c_C := C.out.cell
      have z_C := C.out.frozen
      go_wp2_with fail
      clear r_C o_C l_C c_C z_C
      refine (bawake_any _).mono ?_
      rintro e w4 ⟨rfl, hb⟩
      have hbs : Below w3.heap.size w3 w4 := step_below (by first | exact Below.refl _ _ | exact (Below.refl _ _).drew | exact (Below.refl _ _).alloc (Nat.le_refl _) _ | exact ((Below.refl _ _).alloc (Nat.le_refl _) _).drew | exact ((Below.refl _ _).drew).alloc (Nat.le_refl _) _ | exact ((Below.refl _ _).alloc (Nat.le_refl _) _).alloc (by simp) _ | exact (((Below.refl _ _).alloc (Nat.le_refl _) _).alloc (by simp) _).drew | exact (((Below.refl _ _).alloc (Nat.le_refl _) _).alloc (by simp) _).alloc (by simp; omega) _) hb
      try clear HBz
      have HBz := HB.out.size
      replace HB := Lib.hid (step_below HB.out hbs)
      replace C := Lib.hid (C.out.below hbs C.out.lt)
      clear hbs
      clear hb
      have r_C := C.out.row
      have o_C := C.out.open
      have l_C := C.out.lt
      have c_C := C.out.cell
      have z_C := C.out.frozen
      go_wp2_with fail
      clear r_C o_C l_C c_C z_C
      go_ret
      exact ⟨rfl, HB.out⟩
  · obtain ⟨N, rfl⟩ : ∃ N : Nat, a1 = N := ⟨a1.toNat, by omega⟩
    exact tells_in a0 n0 c0 z0 N a2 n2 c2 _ a3 n3 c3 _ a4 w HI.out hn hn2 hn3 (by omega) (by omega) Y2.out Y3.out
end Go.Proofs.Ytjjadakjkkmjgaa
