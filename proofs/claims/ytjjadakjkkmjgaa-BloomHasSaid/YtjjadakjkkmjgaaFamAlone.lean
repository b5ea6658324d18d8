/-
  FamilyAlone: its walk.
-/
import Derived.Test.YtjjadakjkkmjgaaFamChecks
namespace Go.Proofs.Ytjjadakjkkmjgaa
open Go.RowKit
def adrE : Adr := adr4 true 1 0 0 0 (by omega)
theorem ac_one (a : Adr) : (ac a).all (·.oneCell') = true := by
  rw [Array.all_eq_true']
  intro v hv
  simp only [ac, List.mem_toArray, Adr.l, List.mem_cons, u8s, List.mem_map] at hv
  rcases hv with rfl | ⟨a, _, rfl⟩ <;> rfl
theorem exec_bldA (parts : Array (Nat × Operand)) (dst : Option Tmp) (ty : TypeId) (pos : String) (after : Array Edge) (g : Option (Nat × Bool)) (f : Operand → Value) (w : World) :
    (execOp f ⟨dst, .build 26 parts, ty, pos, after, g⟩).run Try.prog w = bldX Try.prog 26 (parts.map fun (i, x) => (i, f x)) w := rfl
attribute [local go_sem ↓] exec_bldA exec_bld16
theorem build24e (w : World) : bldX Try.prog 24 #[(0, Value.int .u8 1)] w = .ok (.value (.agg (ub [1, 0, 0, 0, 0, 0, 0, 0, 0, 0, 0, 0, 0, 0, 0, 0]))) w := bldX_of w (by kernel_rfl)
theorem build26e (w : World) : bldX Try.prog 26 #[(0, Value.bool true), (1, .agg (ub [1, 0, 0, 0, 0, 0, 0, 0, 0, 0, 0, 0, 0, 0, 0, 0]))] w = .ok (.value (.agg (ac adrE))) w := bldX_of w (by kernel_rfl)
theorem alone_set2 (c : Cf) : ((((cc c).setIfInBounds 7 (.int .i64 7)).setIfInBounds 8 (.int .i64 7)).setIfInBounds 9 (.int .i64 7)) = cc { c with queue := 7, evict := 7, idle := 7 } := by rw [cc_set7, cc_set8, cc_set9]
theorem alone_set4 (c : Cf) : ((((cc c).setIfInBounds 5 (.int .i64 9)).setIfInBounds 6 (.int .i64 9)).setIfInBounds 11 (.int .i64 9)) = cc { c with slots := 9, versions := 9, fails := 9 } := by rw [cc_set5, cc_set6, cc_set11]
theorem alone_cok2 (c : Cf) (h : cok c = true) : cok { c with queue := 7, evict := 7, idle := 7 } = true := by
  have h1 := (cok_set7 c 7 h).trans rfl
  have h2 := (cok_set8 _ 7 h1).trans rfl
  exact (cok_set9 _ 7 h2).trans rfl
theorem alone_cok4 (c : Cf) (h : cok c = true) : cok { c with slots := 9, versions := 9, fails := 9 } = true := by
  have h1 := (cok_set5 c 9 h).trans rfl
  have h2 := (cok_set6 _ 9 h1).trans rfl
  exact (cok_set11 _ 9 h2).trans rfl
theorem cc_set12 (c : Cf) (v : Bool) : (cc c).setIfInBounds 12 (.bool v) = cc { c with encap := v } := by simp [cc, Cf.l, Cf.head]
theorem alone_cok3 (c : Cf) (h : cok c = true) (h6 : c.own.v6 = false) : cok { c with encap := true, own6 := adrE } = true := by
  simp only [cok, sizesOk, poolsOk, timesOk, ownsOk, Bool.and_eq_true] at h ⊢
  have e1 : vld adrE = true := rfl
  have e2 : adrE.v6 = true := rfl
  simp [h, h6, e1, e2]
theorem alone_set3 (c : Cf) : splice ((cc c).setIfInBounds 12 (.bool true)) 30 (ac adrE).toList = cc { c with encap := true, own6 := adrE } := by
  rw [cc_set12]
  have hs : (c.head ++ c.own.l).toArray.size = 30 := by simp [Cf.head, Adr.l_length]
  have hs' : ((Cf.head { c with encap := true }) ++ c.own.l).toArray.size = 30 := by simp [Cf.head, Adr.l_length]
  have h := splice_mid ((Cf.head { c with encap := true }) ++ c.own.l).toArray c.own6.l.toArray (ac adrE) [Value.int .u32 c.seed].toArray (by rw [ac_size]; simp [Adr.l_length])
  rw [hs'] at h
  have e1 : cc { c with encap := true } = ((Cf.head { c with encap := true }) ++ c.own.l).toArray ++ c.own6.l.toArray ++ [Value.int .u32 c.seed].toArray := by simp [cc, Cf.l]
  have e2 : cc { c with encap := true, own6 := adrE } = ((Cf.head { c with encap := true }) ++ c.own.l).toArray ++ ac adrE ++ [Value.int .u32 c.seed].toArray := by simp [cc, Cf.l, ac, Cf.head]
  rw [e1, h, e2]
theorem kvld_akey (n : Int) (v6 udp : Bool) : kvld (akey n v6 udp) = true := by
  unfold akey
  generalize (n % 1073741824).toNat = m
  cases v6 <;> cases udp <;> rfl
theorem bitsOf_length (c : Cf) (k : Ky) (h : kvld k = true) : (bitsOf c k).length = c.hashes.toNat := by
  unfold bitsOf; rw [if_pos h, bitsUpto_length]
theorem alone_bits (c d : Cf) (k : Ky) (h1 : d.seed = c.seed) (h2 : d.bloom = c.bloom) (h3 : d.hashes = c.hashes) : bitsOf c k = bitsOf d k := by
  unfold bitsOf bitsUpto bitAt
  rw [h1, h2, h3]
theorem u16_and_255 (m : Nat) (hm : m < 65536) : bits .and .u16 (m : Int) 255 = ((m % 256 : Nat) : Int) := by
  have h1 : (BitVec.ofInt 16 (m : Int)).toNat = m := by
    rw [BitVec.ofInt_natCast, BitVec.toNat_ofNat]; exact Nat.mod_eq_of_lt (by omega)
  show IntKind.u16.wrap ((BitVec.ofInt 16 (m : Int) &&& BitVec.ofInt 16 255).toNat : Int) = _
  rw [BitVec.toNat_and, h1, show (BitVec.ofInt 16 255).toNat = 2 ^ 8 - 1 from rfl, Nat.and_two_pow_sub_one_eq_mod, IntKind.wrap_u16]
  omega
theorem alone_dig (c d : Cf) (k : Ky) (hk : kvld k = true) (h1 : c.digest = 8) (h2 : d.digest = 8 ∨ d.digest = 16) (h3 : d.seed = c.seed) : bits .and .u16 (digOf d k : Int) 255 = (digOf c k : Int) := by
  rw [digOf_yes d k hk, digOf_yes c k hk, h1, h3]
  generalize hsh c.seed 8 (kbytes k) = m
  rcases h2 with h2 | h2 <;> rw [h2]
  · have : m % 2 ^ (8 : Int).toNat < 256 := Nat.mod_lt _ (by decide)
    rw [u16_and_255 _ (by omega), Nat.mod_eq_of_lt this]
  · have : m % 2 ^ (16 : Int).toNat < 65536 := Nat.mod_lt _ (by decide)
    rw [u16_and_255 _ this]
    show (((m % 65536 % 256 : Nat)) : Int) = ((m % 256 : Nat) : Int)
    omega
set_option maxRecDepth 100000 in
set_option maxHeartbeats 16000000 in
theorem alone_any (a0 : Option Addr) (n0 c0 : Nat) (z0 : List Int) (a1 : Int) (a2 : Bool) (a3 : Int) (w : World) (h0 : IsRow .i64 w a0 n0 c0 z0) (_ : (Lit.int .i64 a1).wf = true) (_ : (Lit.int .i64 a3).wf = true) :
    Calls Try.prog 4 #[.slice a0 n0 c0, .int .i64 a1, .bool a2, .int .i64 a3] w fun e w' => e = .returned (.bool true) ∧ Below w.heap.size w w' := by
  obtain ⟨hI, hm, _⟩ := h0.ints
  have HI := Lib.hid hI
  clear h0 hI
  unfold maxLen at hm
  by_cases hn : 30 < n0
  · go_enter Try.func4, Try.ntmps4
    go_wp2_with fail
    refine (awake_any _).mono ?_
    rintro e w1 ⟨rfl, hb⟩
    go_wp2_with fail
    go_ret
    exact ⟨rfl, hb⟩
  · obtain ⟨c, hc⟩ : ∃ c, c = config (z0.take n0) := ⟨_, rfl⟩
    have KC := Lib.hid (fun (w : World) (h : Ints w a0 n0 (z0.take n0)) => config_any a0 n0 c0 (z0.take n0) w h (by omega))
    rw [← hc] at KC
    have OK := Lib.hid (show cok c = true by rw [hc]; exact cok_config _)
    have hst := fun (w : World) (n : Nat) (Z : Array Value) (hn : n = w.heap.size) (hZ : Z.size = 48) => store_new (P := Try.prog) sizeC w n Z (cc c) hn hZ (cc_size _) (cc_one _)
    obtain ⟨k, hk⟩ : ∃ k, k = akey a1 a2 false := ⟨_, rfl⟩
    have KK := Lib.hid (fun w => key_any a1 a2 false w)
    have KV := Lib.hid (kvld_akey a1 a2 false)
    rw [← hk] at KK KV
    clear hk
    have hsk := fun (w : World) (n : Nat) (Z : Array Value) (hn : n = w.heap.size) (hZ : Z.size = 37) => store_new (P := Try.prog) sizeK w n Z (kc k) hn hZ (kc_size _) (kc_one _)
    have HO := Lib.hid (show c.own.v6 = false by rw [hc]; rfl)
    clear hc
    obtain ⟨c1, hc1⟩ : ∃ x, x = ({ c with stages := 2, digest := 8 } : Cf) := ⟨_, rfl⟩
    have hset : ((cc c).setIfInBounds 0 (.int .i64 2)).setIfInBounds 2 (.int .i64 8) = cc c1 := by rw [cc_set0, cc_set2, hc1]
    have OK1 := Lib.hid (show cok c1 = true by rw [hc1]; exact (cok_set2 { c with stages := 2 } 8 ((cok_set0 c 2 OK.out).trans rfl)).trans rfl)
    have Q6 := Lib.hid (show c1.own.v6 = false by rw [hc1]; exact HO.out)
    have Q1 := Lib.hid (show c1.stages = 2 ∧ c1.digest = 8 by rw [hc1]; exact ⟨rfl, rfl⟩)
    have hst1 := fun (w : World) (n : Nat) (Z : Array Value) (hn : n = w.heap.size) (hZ : Z.size = 48) => store_new (P := Try.prog) sizeC w n Z (cc c1) hn hZ (cc_size _) (cc_one _)
    clear hc1 OK
    have hr : a3 % 5 = 0 ∨ a3 % 5 = 1 ∨ a3 % 5 = 2 ∨ a3 % 5 = 3 ∨ a3 % 5 = 4 := by omega
    rcases hr with hr | hr | hr | hr | hr
    all_goals
      have HR := Lib.hid hr
      clear hr
    · go_enter Try.func4, Try.ntmps4
      have HB := Lib.hid (Below.refl w.heap.size w)
      go_wp2_with fail
      refine (KC.out _ HI.out).mono ?_
      rintro e w1 ⟨rfl, hb⟩
      have hbs : Below w.heap.size w w1 := step_below (by first | exact Below.refl _ _ | exact (Below.refl _ _).drew | exact (Below.refl _ _).alloc (Nat.le_refl _) _ | exact ((Below.refl _ _).alloc (Nat.le_refl _) _).drew | exact ((Below.refl _ _).drew).alloc (Nat.le_refl _) _ | exact ((Below.refl _ _).alloc (Nat.le_refl _) _).alloc (by simp) _ | exact (((Below.refl _ _).alloc (Nat.le_refl _) _).alloc (by simp) _).drew | exact (((Below.refl _ _).alloc (Nat.le_refl _) _).alloc (by simp) _).alloc (by simp; omega) _) hb
      replace HB := Lib.hid (step_below HB.out hbs)
      clear hbs
      clear hb
      go_wp2_with fail
      have HBp := HB
      have C := at_new w1 29 (cc c1) (w1.heap.size) rfl
      replace HB := Lib.hid (HB.out.alloc HB.out.size (.cells (cc c1) 29))
      obtain ⟨gc, hg⟩ : ∃ g, g = w1.heap.size := ⟨_, rfl⟩
      have hgs : gc = w1.heap.size := by rw [hg]
      have b_gc : w.heap.size ≤ gc := by rw [hgs]; exact HBp.out.size
      have S_w2 := Lib.hid (show (w1.alloc (.cells (cc c1) 29)).heap.size = gc + 1 by rw [World.size_alloc, hgs])
      rw [← hg] at C
      try rw [← hg]
      clear hg hgs HBp
      replace C := Lib.hid C
      generalize w1.alloc (.cells (cc c1) 29) = w2 at *
      have HBp := HB
      have D := at_new w2 29 (cc c1) (gc + 1) (S_w2.out.symm)
      replace HB := Lib.hid (HB.out.alloc HB.out.size (.cells (cc c1) 29))
      have Cp := C
      replace C := Lib.hid (C.out.alloc (.cells (cc c1) 29))
      obtain ⟨gd, hg⟩ : ∃ g, g = gc + 1 := ⟨_, rfl⟩
      have hgs : gd = w2.heap.size := by rw [hg, S_w2.out]
      have b_gd : w.heap.size ≤ gd := by rw [hgs]; exact HBp.out.size
      have S_w3 := Lib.hid (show (w2.alloc (.cells (cc c1) 29)).heap.size = gd + 1 by rw [World.size_alloc, hgs])
      rw [← hg] at D
      try rw [← hg]
      have ne_C_D : gc ≠ gd := by have := Cp.out.lt; omega
      have ne_D_C : gd ≠ gc := fun h => ne_C_D h.symm
      clear hg hgs HBp Cp
      replace D := Lib.hid D
      generalize w2.alloc (.cells (cc c1) 29) = w3 at *
      refine (round_big a3 5 (by omega) (by omega) _).mono ?_
      rintro e w_ ⟨rfl, hw_⟩
      obtain rfl := hw_.symm
      clear hw_
      rw [HR.out]
      obtain ⟨d, hd⟩ : ∃ x, x = ({ c1 with stages := 4 } : Cf) := ⟨_, rfl⟩
      have hds := cc_set0 c1 4
      rw [← hd] at hds
      have OKD := Lib.hid (show cok d = true by rw [hd]; exact (cok_set0 c1 4 OK1.out).trans rfl)
      have Q := Lib.hid (show (d.seed = c1.seed ∧ d.size = c1.size ∧ d.bloom = c1.bloom ∧ d.hashes = c1.hashes) ∧ 2 ≤ d.stages ∧ (d.digest = 8 ∨ d.digest = 16) by rw [hd]; simp [Q1.out])
      clear hd
      have hD_ := (D.out.set 0 (.int .i64 4))
      rw [hds] at hD_ ; clear hds
      have hHB_ := (HB.out.setCell (p := ⟨gd, 0, none⟩) b_gd (.int .i64 4))
      have fC_ := (C.out.far (p := ⟨gd, 0, none⟩) ne_C_D (.int .i64 4))
      have r_D2 := hD_.row
      have o_D2 := hD_.open
      have r_C2 := fC_.row
      have o_C2 := fC_.open
      have HH_ := Lib.hid (And.intro hD_ hHB_)
      have HfC_ := Lib.hid fC_
      clear hD_ hHB_ fC_
      have r_C := C.out.row
      have o_C := C.out.open
      have l_C := C.out.lt
      have c_C := C.out.cell
      have z_C := C.out.frozen
      have r_D := D.out.row
      have o_D := D.out.open
      have l_D := D.out.lt
      have c_D := D.out.cell
      have z_D := D.out.frozen
      go_wp2_with fail
      clear r_C o_C l_C c_C z_C r_D o_D l_D c_D z_D
      clear r_D2 o_D2 r_C2 o_C2
      replace HB := Lib.hid HH_.out.2
      replace D := Lib.hid HH_.out.1
      replace C := Lib.hid HfC_.out
      clear HH_ HfC_
      generalize w3.setCell ⟨gd, 0, none⟩ (.int .i64 4) = w4 at *
      have FC := fits_of OK1.out
      have FD := fits_of OKD.out
      have e1 : c1.stages ≤ 4 := FC.st.2
      have e2 : 1 ≤ c1.size := by have := FC.sz.1; omega
      have e3 : d.stages ≤ 4 := FD.st.2
      have e4 : 1 ≤ d.size := by have := FD.sz.1; omega
      have e5 : 0 ≤ c1.hashes ∧ c1.hashes ≤ 80 := by have := FC.ha; omega
      have e6 : 0 ≤ d.hashes ∧ d.hashes ≤ 80 := by have := FD.ha; omega
      have e7 : 1 ≤ c1.bloom := by have := FC.bl; omega
      have e8 : 1 ≤ d.bloom := by have := FD.bl; omega
      have dg1 := FC.dg
      have dg2 := FD.dg
      have hda := alone_dig c1 d k KV.out Q1.out.2 Q.out.2.2 Q.out.1.1
      have BE := Lib.hid (show (bitsOf c1 k == bitsOf d k) = true by rw [alone_bits c1 d k Q.out.1.1 Q.out.1.2.2.1 Q.out.1.2.2.2]; simp)
      have SE := Lib.hid (show slotOf d k 17 = slotOf c1 k 17 by unfold slotOf; rw [Q.out.1.1])
      have hgp := guardP
      have hnp := neqP
      refine (new_ok c1 _ OK1.out).mono ?_
      rintro e w5 ⟨gf, rfl, hgf, hF, hb⟩
      have hbs : Below w4.heap.size w4 w5 := step_below (by first | exact Below.refl _ _ | exact (Below.refl _ _).drew | exact (Below.refl _ _).alloc (Nat.le_refl _) _ | exact ((Below.refl _ _).alloc (Nat.le_refl _) _).drew | exact ((Below.refl _ _).drew).alloc (Nat.le_refl _) _ | exact ((Below.refl _ _).alloc (Nat.le_refl _) _).alloc (by simp) _ | exact (((Below.refl _ _).alloc (Nat.le_refl _) _).alloc (by simp) _).drew | exact (((Below.refl _ _).alloc (Nat.le_refl _) _).alloc (by simp) _).alloc (by simp; omega) _) hb
      replace HB := Lib.hid (step_below HB.out hbs)
      replace C := Lib.hid (C.out.below hbs C.out.lt)
      replace D := Lib.hid (D.out.below hbs D.out.lt)
      clear hbs
      clear hb
      have F := Lib.hid hF
      clear hF hgf
      
      have r_C := C.out.row
      have o_C := C.out.open
      have l_C := C.out.lt
      have c_C := C.out.cell
      have z_C := C.out.frozen
      have r_D := D.out.row
      have o_D := D.out.open
      have l_D := D.out.lt
      have c_D := D.out.cell
      have z_D := D.out.frozen
      have r_F := F.out.row
      have o_F := F.out.open
      have l_F := F.out.lt
      have c_F := F.out.cell
      have z_F := F.out.frozen
      go_wp2_with fail
      clear r_C o_C l_C c_C z_C r_D o_D l_D c_D z_D r_F o_F l_F c_F z_F
      refine (new_ok d _ OKD.out).mono ?_
      rintro e w6 ⟨gg, rfl, hgg, hG, hb⟩
      have hbs : Below w5.heap.size w5 w6 := step_below (by first | exact Below.refl _ _ | exact (Below.refl _ _).drew | exact (Below.refl _ _).alloc (Nat.le_refl _) _ | exact ((Below.refl _ _).alloc (Nat.le_refl _) _).drew | exact ((Below.refl _ _).drew).alloc (Nat.le_refl _) _ | exact ((Below.refl _ _).alloc (Nat.le_refl _) _).alloc (by simp) _ | exact (((Below.refl _ _).alloc (Nat.le_refl _) _).alloc (by simp) _).drew | exact (((Below.refl _ _).alloc (Nat.le_refl _) _).alloc (by simp) _).alloc (by simp; omega) _) hb
      replace HB := Lib.hid (step_below HB.out hbs)
      replace C := Lib.hid (C.out.below hbs C.out.lt)
      replace D := Lib.hid (D.out.below hbs D.out.lt)
      replace F := Lib.hid (F.out.below hbs F.out.lt)
      clear hbs
      clear hb
      have G := Lib.hid hG
      clear hG hgg
      
      have r_C := C.out.row
      have o_C := C.out.open
      have l_C := C.out.lt
      have c_C := C.out.cell
      have z_C := C.out.frozen
      have r_D := D.out.row
      have o_D := D.out.open
      have l_D := D.out.lt
      have c_D := D.out.cell
      have z_D := D.out.frozen
      have r_F := F.out.row
      have o_F := F.out.open
      have l_F := F.out.lt
      have c_F := F.out.cell
      have z_F := F.out.frozen
      have r_G := G.out.row
      have o_G := G.out.open
      have l_G := G.out.lt
      have c_G := G.out.cell
      have z_G := G.out.frozen
      go_wp2_with fail
      clear r_C o_C l_C c_C z_C r_D o_D l_D c_D z_D r_F o_F l_F c_F z_F r_G o_G l_G c_G z_G
      refine (KK.out _).mono ?_
      rintro e w7 ⟨rfl, hb⟩
      have hbs : Below w6.heap.size w6 w7 := step_below (by first | exact Below.refl _ _ | exact (Below.refl _ _).drew | exact (Below.refl _ _).alloc (Nat.le_refl _) _ | exact ((Below.refl _ _).alloc (Nat.le_refl _) _).drew | exact ((Below.refl _ _).drew).alloc (Nat.le_refl _) _ | exact ((Below.refl _ _).alloc (Nat.le_refl _) _).alloc (by simp) _ | exact (((Below.refl _ _).alloc (Nat.le_refl _) _).alloc (by simp) _).drew | exact (((Below.refl _ _).alloc (Nat.le_refl _) _).alloc (by simp) _).alloc (by simp; omega) _) hb
      replace HB := Lib.hid (step_below HB.out hbs)
      replace C := Lib.hid (C.out.below hbs C.out.lt)
      replace D := Lib.hid (D.out.below hbs D.out.lt)
      replace F := Lib.hid (F.out.below hbs F.out.lt)
      replace G := Lib.hid (G.out.below hbs G.out.lt)
      clear hbs
      clear hb
      go_wp2_with fail
      have HBp := HB
      have K := at_new w7 40 (kc k) (w7.heap.size) rfl
      replace HB := Lib.hid (HB.out.alloc HB.out.size (.cells (kc k) 40))
      have Cp := C
      replace C := Lib.hid (C.out.alloc (.cells (kc k) 40))
      have Dp := D
      replace D := Lib.hid (D.out.alloc (.cells (kc k) 40))
      have Fp := F
      replace F := Lib.hid (F.out.alloc (.cells (kc k) 40))
      have Gp := G
      replace G := Lib.hid (G.out.alloc (.cells (kc k) 40))
      obtain ⟨gk, hg⟩ : ∃ g, g = w7.heap.size := ⟨_, rfl⟩
      have hgs : gk = w7.heap.size := by rw [hg]
      have b_gk : w.heap.size ≤ gk := by rw [hgs]; exact HBp.out.size
      have S_w8 := Lib.hid (show (w7.alloc (.cells (kc k) 40)).heap.size = gk + 1 by rw [World.size_alloc, hgs])
      rw [← hg] at K
      try rw [← hg]
      have ne_C_K : gc ≠ gk := by have := Cp.out.lt; omega
      have ne_K_C : gk ≠ gc := fun h => ne_C_K h.symm
      have ne_D_K : gd ≠ gk := by have := Dp.out.lt; omega
      have ne_K_D : gk ≠ gd := fun h => ne_D_K h.symm
      have ne_F_K : gf ≠ gk := by have := Fp.out.lt; omega
      have ne_K_F : gk ≠ gf := fun h => ne_F_K h.symm
      have ne_G_K : gg ≠ gk := by have := Gp.out.lt; omega
      have ne_K_G : gk ≠ gg := fun h => ne_G_K h.symm
      clear hg hgs HBp Cp Dp Fp Gp
      replace K := Lib.hid K
      generalize w7.alloc (.cells (kc k) 40) = w8 at *
      
      go_loopw [16, 17, 18, 19, 20] (fun i wr_ wr2 wr3 wr4 wr => ∃ s : Nat, s ≤ 2 ∧ i = .int .i64 s ∧ At wr gc 29 (cc c1) ∧ At wr gd 29 (cc d) ∧ At wr gf 80 (fc c1) ∧ At wr gg 80 (fc d) ∧ At wr gk 40 (kc k) ∧ Below w.heap.size w wr) (fun i _ _ _ _ _ => 2 - (intOf i).toNat)
      case atStart => exact ⟨0, by omega, rfl, C.out, D.out, F.out, G.out, K.out, HB.out⟩
      case round =>
        obtain ⟨s, hs, rfl, hC_, hD_, hF_, hG_, hK_, hB_⟩ := hrel
        have C := Lib.hid hC_
        have D := Lib.hid hD_
        have F := Lib.hid hF_
        have G := Lib.hid hG_
        have K := Lib.hid hK_
        have HB := Lib.hid hB_
        clear hC_ hD_ hF_ hG_ hK_ hB_
        by_cases hlt : s < 2
        · have P1 := Lib.hid (placeOf_yes c1 k s KV.out (by rw [Q1.out.1]; omega))
          have P2 := Lib.hid (show placeOf d k s = .tuple #[.agg #[.int .i64 s, .int .i64 (idx c1 k s)], .bool true] by rw [placeOf_yes d k s KV.out (by have := Q.out.2.1; omega)]; unfold idx; rw [Q.out.1.1, Q.out.1.2.1])
          
          have r_C := C.out.row
          have o_C := C.out.open
          have l_C := C.out.lt
          have c_C := C.out.cell
          have z_C := C.out.frozen
          have r_D := D.out.row
          have o_D := D.out.open
          have l_D := D.out.lt
          have c_D := D.out.cell
          have z_D := D.out.frozen
          have r_F := F.out.row
          have o_F := F.out.open
          have l_F := F.out.lt
          have c_F := F.out.cell
          have z_F := F.out.frozen
          have r_G := G.out.row
          have o_G := G.out.open
          have l_G := G.out.lt
          have c_G := G.out.cell
          have z_G := G.out.frozen
          have r_K := K.out.row
          have o_K := K.out.open
          have l_K := K.out.lt
          have c_K := K.out.cell
          have z_K := K.out.frozen
          go_wp2_with fail
          clear r_C o_C l_C c_C z_C r_D o_D l_D c_D z_D r_F o_F l_F c_F z_F r_G o_G l_G c_G z_G r_K o_K l_K c_K z_K
          refine (place_any gf c1 k s _ F.out e1 e2).mono ?_
          rintro e w9 ⟨rfl, hb⟩
          have hbs : Below wr.heap.size wr w9 := step_below (by first | exact Below.refl _ _ | exact (Below.refl _ _).drew | exact (Below.refl _ _).alloc (Nat.le_refl _) _ | exact ((Below.refl _ _).alloc (Nat.le_refl _) _).drew | exact ((Below.refl _ _).drew).alloc (Nat.le_refl _) _ | exact ((Below.refl _ _).alloc (Nat.le_refl _) _).alloc (by simp) _ | exact (((Below.refl _ _).alloc (Nat.le_refl _) _).alloc (by simp) _).drew | exact (((Below.refl _ _).alloc (Nat.le_refl _) _).alloc (by simp) _).alloc (by simp; omega) _) hb
          replace HB := Lib.hid (step_below HB.out hbs)
          replace C := Lib.hid (C.out.below hbs C.out.lt)
          replace D := Lib.hid (D.out.below hbs D.out.lt)
          replace F := Lib.hid (F.out.below hbs F.out.lt)
          replace G := Lib.hid (G.out.below hbs G.out.lt)
          replace K := Lib.hid (K.out.below hbs K.out.lt)
          clear hbs
          clear hb
          rw [P1.out]
          have r_C := C.out.row
          have o_C := C.out.open
          have l_C := C.out.lt
          have c_C := C.out.cell
          have z_C := C.out.frozen
          have r_D := D.out.row
          have o_D := D.out.open
          have l_D := D.out.lt
          have c_D := D.out.cell
          have z_D := D.out.frozen
          have r_F := F.out.row
          have o_F := F.out.open
          have l_F := F.out.lt
          have c_F := F.out.cell
          have z_F := F.out.frozen
          have r_G := G.out.row
          have o_G := G.out.open
          have l_G := G.out.lt
          have c_G := G.out.cell
          have z_G := G.out.frozen
          have r_K := K.out.row
          have o_K := K.out.open
          have l_K := K.out.lt
          have c_K := K.out.cell
          have z_K := K.out.frozen
          go_wp2_with fail
          clear r_C o_C l_C c_C z_C r_D o_D l_D c_D z_D r_F o_F l_F c_F z_F r_G o_G l_G c_G z_G r_K o_K l_K c_K z_K
          have HBp := HB
          have P := at_new w9 43 (#[.int .i64 (s : Int), .int .i64 (idx c1 k s)]) (w9.heap.size) rfl
          replace HB := Lib.hid (HB.out.alloc HB.out.size (.cells (#[.int .i64 (s : Int), .int .i64 (idx c1 k s)]) 43))
          have Cp := C
          replace C := Lib.hid (C.out.alloc (.cells (#[.int .i64 (s : Int), .int .i64 (idx c1 k s)]) 43))
          have Dp := D
          replace D := Lib.hid (D.out.alloc (.cells (#[.int .i64 (s : Int), .int .i64 (idx c1 k s)]) 43))
          have Fp := F
          replace F := Lib.hid (F.out.alloc (.cells (#[.int .i64 (s : Int), .int .i64 (idx c1 k s)]) 43))
          have Gp := G
          replace G := Lib.hid (G.out.alloc (.cells (#[.int .i64 (s : Int), .int .i64 (idx c1 k s)]) 43))
          have Kp := K
          replace K := Lib.hid (K.out.alloc (.cells (#[.int .i64 (s : Int), .int .i64 (idx c1 k s)]) 43))
          obtain ⟨gp, hg⟩ : ∃ g, g = w9.heap.size := ⟨_, rfl⟩
          have hgs : gp = w9.heap.size := by rw [hg]
          have b_gp : w.heap.size ≤ gp := by rw [hgs]; exact HBp.out.size
          have S_w10 := Lib.hid (show (w9.alloc (.cells (#[.int .i64 (s : Int), .int .i64 (idx c1 k s)]) 43)).heap.size = gp + 1 by rw [World.size_alloc, hgs])
          rw [← hg] at P
          try rw [← hg]
          have ne_C_P : gc ≠ gp := by have := Cp.out.lt; omega
          have ne_P_C : gp ≠ gc := fun h => ne_C_P h.symm
          have ne_D_P : gd ≠ gp := by have := Dp.out.lt; omega
          have ne_P_D : gp ≠ gd := fun h => ne_D_P h.symm
          have ne_F_P : gf ≠ gp := by have := Fp.out.lt; omega
          have ne_P_F : gp ≠ gf := fun h => ne_F_P h.symm
          have ne_G_P : gg ≠ gp := by have := Gp.out.lt; omega
          have ne_P_G : gp ≠ gg := fun h => ne_G_P h.symm
          have ne_K_P : gk ≠ gp := by have := Kp.out.lt; omega
          have ne_P_K : gp ≠ gk := fun h => ne_K_P h.symm
          clear hg hgs HBp Cp Dp Fp Gp Kp
          replace P := Lib.hid P
          generalize w9.alloc (.cells (#[.int .i64 (s : Int), .int .i64 (idx c1 k s)]) 43) = w10 at *
          refine (place_any gg d k s _ G.out e3 e4).mono ?_
          rintro e w11 ⟨rfl, hb⟩
          have hbs : Below w10.heap.size w10 w11 := step_below (by first | exact Below.refl _ _ | exact (Below.refl _ _).drew | exact (Below.refl _ _).alloc (Nat.le_refl _) _ | exact ((Below.refl _ _).alloc (Nat.le_refl _) _).drew | exact ((Below.refl _ _).drew).alloc (Nat.le_refl _) _ | exact ((Below.refl _ _).alloc (Nat.le_refl _) _).alloc (by simp) _ | exact (((Below.refl _ _).alloc (Nat.le_refl _) _).alloc (by simp) _).drew | exact (((Below.refl _ _).alloc (Nat.le_refl _) _).alloc (by simp) _).alloc (by simp; omega) _) hb
          replace HB := Lib.hid (step_below HB.out hbs)
          replace C := Lib.hid (C.out.below hbs C.out.lt)
          replace D := Lib.hid (D.out.below hbs D.out.lt)
          replace F := Lib.hid (F.out.below hbs F.out.lt)
          replace G := Lib.hid (G.out.below hbs G.out.lt)
          replace K := Lib.hid (K.out.below hbs K.out.lt)
          replace P := Lib.hid (P.out.below hbs P.out.lt)
          clear hbs
          clear hb
          rw [P2.out]
          have r_C := C.out.row
          have o_C := C.out.open
          have l_C := C.out.lt
          have c_C := C.out.cell
          have z_C := C.out.frozen
          have r_D := D.out.row
          have o_D := D.out.open
          have l_D := D.out.lt
          have c_D := D.out.cell
          have z_D := D.out.frozen
          have r_F := F.out.row
          have o_F := F.out.open
          have l_F := F.out.lt
          have c_F := F.out.cell
          have z_F := F.out.frozen
          have r_G := G.out.row
          have o_G := G.out.open
          have l_G := G.out.lt
          have c_G := G.out.cell
          have z_G := G.out.frozen
          have r_K := K.out.row
          have o_K := K.out.open
          have l_K := K.out.lt
          have c_K := K.out.cell
          have z_K := K.out.frozen
          have r_P := P.out.row
          have o_P := P.out.open
          have l_P := P.out.lt
          have c_P := P.out.cell
          have z_P := P.out.frozen
          go_wp2_with fail
          clear r_C o_C l_C c_C z_C r_D o_D l_D c_D z_D r_F o_F l_F c_F z_F r_G o_G l_G c_G z_G r_K o_K l_K c_K z_K r_P o_P l_P c_P z_P
          have HBp := HB
          have P2 := at_new w11 43 (#[.int .i64 (s : Int), .int .i64 (idx c1 k s)]) (w11.heap.size) rfl
          replace HB := Lib.hid (HB.out.alloc HB.out.size (.cells (#[.int .i64 (s : Int), .int .i64 (idx c1 k s)]) 43))
          have Cp := C
          replace C := Lib.hid (C.out.alloc (.cells (#[.int .i64 (s : Int), .int .i64 (idx c1 k s)]) 43))
          have Dp := D
          replace D := Lib.hid (D.out.alloc (.cells (#[.int .i64 (s : Int), .int .i64 (idx c1 k s)]) 43))
          have Fp := F
          replace F := Lib.hid (F.out.alloc (.cells (#[.int .i64 (s : Int), .int .i64 (idx c1 k s)]) 43))
          have Gp := G
          replace G := Lib.hid (G.out.alloc (.cells (#[.int .i64 (s : Int), .int .i64 (idx c1 k s)]) 43))
          have Kp := K
          replace K := Lib.hid (K.out.alloc (.cells (#[.int .i64 (s : Int), .int .i64 (idx c1 k s)]) 43))
          have Pp := P
          replace P := Lib.hid (P.out.alloc (.cells (#[.int .i64 (s : Int), .int .i64 (idx c1 k s)]) 43))
          obtain ⟨gp2, hg⟩ : ∃ g, g = w11.heap.size := ⟨_, rfl⟩
          have hgs : gp2 = w11.heap.size := by rw [hg]
          have b_gp2 : w.heap.size ≤ gp2 := by rw [hgs]; exact HBp.out.size
          have S_w12 := Lib.hid (show (w11.alloc (.cells (#[.int .i64 (s : Int), .int .i64 (idx c1 k s)]) 43)).heap.size = gp2 + 1 by rw [World.size_alloc, hgs])
          rw [← hg] at P2
          try rw [← hg]
          have ne_C_P2 : gc ≠ gp2 := by have := Cp.out.lt; omega
          have ne_P2_C : gp2 ≠ gc := fun h => ne_C_P2 h.symm
          have ne_D_P2 : gd ≠ gp2 := by have := Dp.out.lt; omega
          have ne_P2_D : gp2 ≠ gd := fun h => ne_D_P2 h.symm
          have ne_F_P2 : gf ≠ gp2 := by have := Fp.out.lt; omega
          have ne_P2_F : gp2 ≠ gf := fun h => ne_F_P2 h.symm
          have ne_G_P2 : gg ≠ gp2 := by have := Gp.out.lt; omega
          have ne_P2_G : gp2 ≠ gg := fun h => ne_G_P2 h.symm
          have ne_K_P2 : gk ≠ gp2 := by have := Kp.out.lt; omega
          have ne_P2_K : gp2 ≠ gk := fun h => ne_K_P2 h.symm
          have ne_P_P2 : gp ≠ gp2 := by have := Pp.out.lt; omega
          have ne_P2_P : gp2 ≠ gp := fun h => ne_P_P2 h.symm
          clear hg hgs HBp Cp Dp Fp Gp Kp Pp
          replace P2 := Lib.hid P2
          generalize w11.alloc (.cells (#[.int .i64 (s : Int), .int .i64 (idx c1 k s)]) 43) = w12 at *
          clear P P2
          go_roundw
          case rel => exact ⟨s + 1, by omega, by go_num, C.out, D.out, F.out, G.out, K.out, HB.out⟩
          case measure => simp [intOf]; omega
          
        · obtain rfl : s = 2 := by omega
          have r_C := C.out.row
          have o_C := C.out.open
          have l_C := C.out.lt
          have c_C := C.out.cell
          have z_C := C.out.frozen
          have r_D := D.out.row
          have o_D := D.out.open
          have l_D := D.out.lt
          have c_D := D.out.cell
          have z_D := D.out.frozen
          have r_F := F.out.row
          have o_F := F.out.open
          have l_F := F.out.lt
          have c_F := F.out.cell
          have z_F := F.out.frozen
          have r_G := G.out.row
          have o_G := G.out.open
          have l_G := G.out.lt
          have c_G := G.out.cell
          have z_G := G.out.frozen
          have r_K := K.out.row
          have o_K := K.out.open
          have l_K := K.out.lt
          have c_K := K.out.cell
          have z_K := K.out.frozen
          go_wp2_with fail
          clear r_C o_C l_C c_C z_C r_D o_D l_D c_D z_D r_F o_F l_F c_F z_F r_G o_G l_G c_G z_G r_K o_K l_K c_K z_K
          have r_C := C.out.row
          have o_C := C.out.open
          have l_C := C.out.lt
          have c_C := C.out.cell
          have z_C := C.out.frozen
          have r_D := D.out.row
          have o_D := D.out.open
          have l_D := D.out.lt
          have c_D := D.out.cell
          have z_D := D.out.frozen
          have r_F := F.out.row
          have o_F := F.out.open
          have l_F := F.out.lt
          have c_F := F.out.cell
          have z_F := F.out.frozen
          have r_G := G.out.row
          have o_G := G.out.open
          have l_G := G.out.lt
          have c_G := G.out.cell
          have z_G := G.out.frozen
          have r_K := K.out.row
          have o_K := K.out.open
          have l_K := K.out.lt
          have c_K := K.out.cell
          have z_K := K.out.frozen
          refine region_sq (fun _ => False) [(0, true), (1, true), (3, true), (4, true), (2, false), (5, false), (6, true), (7, true), (8, true), (9, true), (10, true), (12, true), (13, true), (11, false), (14, false), (15, false), (16, true), (17, true), (18, true), (19, true), (21, true), (22, true), (20, false), (23, false), (24, true), (25, true), (26, true), (27, false), (28, true), (29, true)] (by kernel_rfl) (by kernel_rfl) (fun _ _ d _ _ h => by cases d <;> exact h) ?_
          repeat (first
            | (refine sq_yes rfl (by rfl) (fun w' hM => by ((try replace hM := hM.of_drew); obtain ⟨hR1, hR2, hR3⟩ := hM.rules; clear hM; go_simp; with_reducible rfl)) ?_; simp only [Act.put, List.setIfInBounds_toArray, List.set_cons_zero, List.set_cons_succ])
            | (refine sq_no rfl (by rfl) ?_; simp only [Act.put, List.setIfInBounds_toArray, List.set_cons_zero, List.set_cons_succ]))
          clear r_C o_C l_C c_C z_C r_D o_D l_D c_D z_D r_F o_F l_F c_F z_F r_G o_G l_G c_G z_G r_K o_K l_K c_K z_K
          replace C := Lib.hid C.out.drew
          replace D := Lib.hid D.out.drew
          replace F := Lib.hid F.out.drew
          replace G := Lib.hid G.out.drew
          replace K := Lib.hid K.out.drew
          replace HB := Lib.hid HB.out.drew
          generalize wr.drew = w13 at *
          refine sq_do_yes rfl (by rfl) (fun K_ hK_ => ?_)
          go_wp2_with fail
          refine (digest_any gf c1 k _ F.out dg1.1 dg1.2).mono ?_
          rintro e w14 ⟨rfl, hb⟩
          have hbs : Below w13.heap.size w13 w14 := step_below (by first | exact Below.refl _ _ | exact (Below.refl _ _).drew | exact (Below.refl _ _).alloc (Nat.le_refl _) _ | exact ((Below.refl _ _).alloc (Nat.le_refl _) _).drew | exact ((Below.refl _ _).drew).alloc (Nat.le_refl _) _ | exact ((Below.refl _ _).alloc (Nat.le_refl _) _).alloc (by simp) _ | exact (((Below.refl _ _).alloc (Nat.le_refl _) _).alloc (by simp) _).drew | exact (((Below.refl _ _).alloc (Nat.le_refl _) _).alloc (by simp) _).alloc (by simp; omega) _) hb
          replace HB := Lib.hid (step_below HB.out hbs)
          replace C := Lib.hid (C.out.below hbs C.out.lt)
          replace D := Lib.hid (D.out.below hbs D.out.lt)
          replace F := Lib.hid (F.out.below hbs F.out.lt)
          replace G := Lib.hid (G.out.below hbs G.out.lt)
          replace K := Lib.hid (K.out.below hbs K.out.lt)
          clear hbs
          go_wp2_with fail
          refine ⟨Mod.of_below hb, ?_⟩
          clear hb
          have r_C := C.out.row
          have o_C := C.out.open
          have l_C := C.out.lt
          have c_C := C.out.cell
          have z_C := C.out.frozen
          have r_D := D.out.row
          have o_D := D.out.open
          have l_D := D.out.lt
          have c_D := D.out.cell
          have z_D := D.out.frozen
          have r_F := F.out.row
          have o_F := F.out.open
          have l_F := F.out.lt
          have c_F := F.out.cell
          have z_F := F.out.frozen
          have r_G := G.out.row
          have o_G := G.out.open
          have l_G := G.out.lt
          have c_G := G.out.cell
          have z_G := G.out.frozen
          have r_K := K.out.row
          have o_K := K.out.open
          have l_K := K.out.lt
          have c_K := K.out.cell
          have z_K := K.out.frozen
          repeat (first
            | (refine sq_yes rfl (by rfl) (fun w' hM => by ((try replace hM := hM.of_drew); obtain ⟨hR1, hR2, hR3⟩ := hM.rules; clear hM; go_simp; with_reducible rfl)) ?_; simp only [Act.put, List.setIfInBounds_toArray, List.set_cons_zero, List.set_cons_succ])
            | (refine sq_no rfl (by rfl) ?_; simp only [Act.put, List.setIfInBounds_toArray, List.set_cons_zero, List.set_cons_succ]))
          clear r_C o_C l_C c_C z_C r_D o_D l_D c_D z_D r_F o_F l_F c_F z_F r_G o_G l_G c_G z_G r_K o_K l_K c_K z_K
          refine sq_do_yes rfl (by rfl) (fun K_ hK_ => ?_)
          go_wp2_with fail
          refine (digest_any gg d k _ G.out dg2.1 dg2.2).mono ?_
          rintro e w15 ⟨rfl, hb⟩
          have hbs : Below w14.heap.size w14 w15 := step_below (by first | exact Below.refl _ _ | exact (Below.refl _ _).drew | exact (Below.refl _ _).alloc (Nat.le_refl _) _ | exact ((Below.refl _ _).alloc (Nat.le_refl _) _).drew | exact ((Below.refl _ _).drew).alloc (Nat.le_refl _) _ | exact ((Below.refl _ _).alloc (Nat.le_refl _) _).alloc (by simp) _ | exact (((Below.refl _ _).alloc (Nat.le_refl _) _).alloc (by simp) _).drew | exact (((Below.refl _ _).alloc (Nat.le_refl _) _).alloc (by simp) _).alloc (by simp; omega) _) hb
          replace HB := Lib.hid (step_below HB.out hbs)
          replace C := Lib.hid (C.out.below hbs C.out.lt)
          replace D := Lib.hid (D.out.below hbs D.out.lt)
          replace F := Lib.hid (F.out.below hbs F.out.lt)
          replace G := Lib.hid (G.out.below hbs G.out.lt)
          replace K := Lib.hid (K.out.below hbs K.out.lt)
          clear hbs
          go_wp2_with fail
          refine ⟨Mod.of_below hb, ?_⟩
          clear hb
          have r_C := C.out.row
          have o_C := C.out.open
          have l_C := C.out.lt
          have c_C := C.out.cell
          have z_C := C.out.frozen
          have r_D := D.out.row
          have o_D := D.out.open
          have l_D := D.out.lt
          have c_D := D.out.cell
          have z_D := D.out.frozen
          have r_F := F.out.row
          have o_F := F.out.open
          have l_F := F.out.lt
          have c_F := F.out.cell
          have z_F := F.out.frozen
          have r_G := G.out.row
          have o_G := G.out.open
          have l_G := G.out.lt
          have c_G := G.out.cell
          have z_G := G.out.frozen
          have r_K := K.out.row
          have o_K := K.out.open
          have l_K := K.out.lt
          have c_K := K.out.cell
          have z_K := K.out.frozen
          repeat (first
            | (refine sq_yes rfl (by rfl) (fun w' hM => by ((try replace hM := hM.of_drew); obtain ⟨hR1, hR2, hR3⟩ := hM.rules; clear hM; go_simp; with_reducible rfl)) ?_; simp only [Act.put, List.setIfInBounds_toArray, List.set_cons_zero, List.set_cons_succ])
            | (refine sq_no rfl (by rfl) ?_; simp only [Act.put, List.setIfInBounds_toArray, List.set_cons_zero, List.set_cons_succ]))
          clear r_C o_C l_C c_C z_C r_D o_D l_D c_D z_D r_F o_F l_F c_F z_F r_G o_G l_G c_G z_G r_K o_K l_K c_K z_K
          refine sq_do_yes rfl (by rfl) (fun K_ hK_ => ?_)
          go_wp2_with fail
          refine (bits_any gf c1 k _ F.out e5.1 e5.2 e7).mono ?_
          rintro e w16 ⟨v, rfl, ho, hb⟩
          have hbs : Below w15.heap.size w15 w16 := step_below (by first | exact Below.refl _ _ | exact (Below.refl _ _).drew | exact (Below.refl _ _).alloc (Nat.le_refl _) _ | exact ((Below.refl _ _).alloc (Nat.le_refl _) _).drew | exact ((Below.refl _ _).drew).alloc (Nat.le_refl _) _ | exact ((Below.refl _ _).alloc (Nat.le_refl _) _).alloc (by simp) _ | exact (((Below.refl _ _).alloc (Nat.le_refl _) _).alloc (by simp) _).drew | exact (((Below.refl _ _).alloc (Nat.le_refl _) _).alloc (by simp) _).alloc (by simp; omega) _) hb
          replace HB := Lib.hid (step_below HB.out hbs)
          replace C := Lib.hid (C.out.below hbs C.out.lt)
          replace D := Lib.hid (D.out.below hbs D.out.lt)
          replace F := Lib.hid (F.out.below hbs F.out.lt)
          replace G := Lib.hid (G.out.below hbs G.out.lt)
          replace K := Lib.hid (K.out.below hbs K.out.lt)
          clear hbs
          obtain ⟨b1, m1, q1, rfl, hm1, hy1, _⟩ := ho.parts
          have Y1 := Lib.hid hy1
          rw [bitsOf_length c1 k KV.out] at hm1
          have M1 : m1 ≤ 1000000 := by omega
          clear hm1
          clear ho hy1
          go_wp2_with fail
          refine ⟨Mod.of_below hb, ?_⟩
          clear hb
          have r_C := C.out.row
          have o_C := C.out.open
          have l_C := C.out.lt
          have c_C := C.out.cell
          have z_C := C.out.frozen
          have r_D := D.out.row
          have o_D := D.out.open
          have l_D := D.out.lt
          have c_D := D.out.cell
          have z_D := D.out.frozen
          have r_F := F.out.row
          have o_F := F.out.open
          have l_F := F.out.lt
          have c_F := F.out.cell
          have z_F := F.out.frozen
          have r_G := G.out.row
          have o_G := G.out.open
          have l_G := G.out.lt
          have c_G := G.out.cell
          have z_G := G.out.frozen
          have r_K := K.out.row
          have o_K := K.out.open
          have l_K := K.out.lt
          have c_K := K.out.cell
          have z_K := K.out.frozen
          repeat (first
            | (refine sq_yes rfl (by rfl) (fun w' hM => by ((try replace hM := hM.of_drew); obtain ⟨hR1, hR2, hR3⟩ := hM.rules; clear hM; go_simp; with_reducible rfl)) ?_; simp only [Act.put, List.setIfInBounds_toArray, List.set_cons_zero, List.set_cons_succ])
            | (refine sq_no rfl (by rfl) ?_; simp only [Act.put, List.setIfInBounds_toArray, List.set_cons_zero, List.set_cons_succ]))
          clear r_C o_C l_C c_C z_C r_D o_D l_D c_D z_D r_F o_F l_F c_F z_F r_G o_G l_G c_G z_G r_K o_K l_K c_K z_K
          refine sq_do_yes rfl (by rfl) (fun K_ hK_ => ?_)
          go_wp2_with fail
          refine (bits_any gg d k _ G.out e6.1 e6.2 e8).mono ?_
          rintro e w17 ⟨v, rfl, ho, hb⟩
          have hbs : Below w16.heap.size w16 w17 := step_below (by first | exact Below.refl _ _ | exact (Below.refl _ _).drew | exact (Below.refl _ _).alloc (Nat.le_refl _) _ | exact ((Below.refl _ _).alloc (Nat.le_refl _) _).drew | exact ((Below.refl _ _).drew).alloc (Nat.le_refl _) _ | exact ((Below.refl _ _).alloc (Nat.le_refl _) _).alloc (by simp) _ | exact (((Below.refl _ _).alloc (Nat.le_refl _) _).alloc (by simp) _).drew | exact (((Below.refl _ _).alloc (Nat.le_refl _) _).alloc (by simp) _).alloc (by simp; omega) _) hb
          replace HB := Lib.hid (step_below HB.out hbs)
          replace C := Lib.hid (C.out.below hbs C.out.lt)
          replace D := Lib.hid (D.out.below hbs D.out.lt)
          replace F := Lib.hid (F.out.below hbs F.out.lt)
          replace G := Lib.hid (G.out.below hbs G.out.lt)
          replace K := Lib.hid (K.out.below hbs K.out.lt)
          replace Y1 := Lib.hid (Y1.out.below hbs)
          clear hbs
          obtain ⟨b2, m2, q2, rfl, hm2, hy2, _⟩ := ho.parts
          have Y2 := Lib.hid hy2
          rw [bitsOf_length d k KV.out] at hm2
          have M2 : m2 ≤ 1000000 := by omega
          clear hm2
          clear ho hy2
          go_wp2_with fail
          refine ⟨Mod.of_below hb, ?_⟩
          clear hb
          have r_C := C.out.row
          have o_C := C.out.open
          have l_C := C.out.lt
          have c_C := C.out.cell
          have z_C := C.out.frozen
          have r_D := D.out.row
          have o_D := D.out.open
          have l_D := D.out.lt
          have c_D := D.out.cell
          have z_D := D.out.frozen
          have r_F := F.out.row
          have o_F := F.out.open
          have l_F := F.out.lt
          have c_F := F.out.cell
          have z_F := F.out.frozen
          have r_G := G.out.row
          have o_G := G.out.open
          have l_G := G.out.lt
          have c_G := G.out.cell
          have z_G := G.out.frozen
          have r_K := K.out.row
          have o_K := K.out.open
          have l_K := K.out.lt
          have c_K := K.out.cell
          have z_K := K.out.frozen
          repeat (first
            | (refine sq_yes rfl (by rfl) (fun w' hM => by ((try replace hM := hM.of_drew); obtain ⟨hR1, hR2, hR3⟩ := hM.rules; clear hM; go_simp; with_reducible rfl)) ?_; simp only [Act.put, List.setIfInBounds_toArray, List.set_cons_zero, List.set_cons_succ])
            | (refine sq_no rfl (by rfl) ?_; simp only [Act.put, List.setIfInBounds_toArray, List.set_cons_zero, List.set_cons_succ]))
          clear r_C o_C l_C c_C z_C r_D o_D l_D c_D z_D r_F o_F l_F c_F z_F r_G o_G l_G c_G z_G r_K o_K l_K c_K z_K
          refine sq_do_yes rfl (by rfl) (fun K_ hK_ => ?_)
          go_wp2_with fail
          refine (ints_any b1 m1 q1 _ b2 m2 q2 _ _ Y1.out Y2.out M1 M2).mono ?_
          rintro e w18 ⟨rfl, hb⟩
          have hbs : Below w17.heap.size w17 w18 := step_below (by first | exact Below.refl _ _ | exact (Below.refl _ _).drew | exact (Below.refl _ _).alloc (Nat.le_refl _) _ | exact ((Below.refl _ _).alloc (Nat.le_refl _) _).drew | exact ((Below.refl _ _).drew).alloc (Nat.le_refl _) _ | exact ((Below.refl _ _).alloc (Nat.le_refl _) _).alloc (by simp) _ | exact (((Below.refl _ _).alloc (Nat.le_refl _) _).alloc (by simp) _).drew | exact (((Below.refl _ _).alloc (Nat.le_refl _) _).alloc (by simp) _).alloc (by simp; omega) _) hb
          replace HB := Lib.hid (step_below HB.out hbs)
          replace C := Lib.hid (C.out.below hbs C.out.lt)
          replace D := Lib.hid (D.out.below hbs D.out.lt)
          replace F := Lib.hid (F.out.below hbs F.out.lt)
          replace G := Lib.hid (G.out.below hbs G.out.lt)
          replace K := Lib.hid (K.out.below hbs K.out.lt)
          replace Y1 := Lib.hid (Y1.out.below hbs)
          replace Y2 := Lib.hid (Y2.out.below hbs)
          clear hbs
          rw [BE.out]
          go_wp2_with fail
          refine ⟨Mod.of_below hb, ?_⟩
          clear hb
          have r_C := C.out.row
          have o_C := C.out.open
          have l_C := C.out.lt
          have c_C := C.out.cell
          have z_C := C.out.frozen
          have r_D := D.out.row
          have o_D := D.out.open
          have l_D := D.out.lt
          have c_D := D.out.cell
          have z_D := D.out.frozen
          have r_F := F.out.row
          have o_F := F.out.open
          have l_F := F.out.lt
          have c_F := F.out.cell
          have z_F := F.out.frozen
          have r_G := G.out.row
          have o_G := G.out.open
          have l_G := G.out.lt
          have c_G := G.out.cell
          have z_G := G.out.frozen
          have r_K := K.out.row
          have o_K := K.out.open
          have l_K := K.out.lt
          have c_K := K.out.cell
          have z_K := K.out.frozen
          repeat (first
            | (refine sq_yes rfl (by rfl) (fun w' hM => by ((try replace hM := hM.of_drew); obtain ⟨hR1, hR2, hR3⟩ := hM.rules; clear hM; go_simp; with_reducible rfl)) ?_; simp only [Act.put, List.setIfInBounds_toArray, List.set_cons_zero, List.set_cons_succ])
            | (refine sq_no rfl (by rfl) ?_; simp only [Act.put, List.setIfInBounds_toArray, List.set_cons_zero, List.set_cons_succ]))
          clear r_C o_C l_C c_C z_C r_D o_D l_D c_D z_D r_F o_F l_F c_F z_F r_G o_G l_G c_G z_G r_K o_K l_K c_K z_K
          refine sq_do_yes rfl (by rfl) (fun K_ hK_ => ?_)
          go_wp2_with fail
          refine (slot_any gf c1 k 17 _ F.out).mono ?_
          rintro e w19 ⟨rfl, hb⟩
          have hbs : Below w18.heap.size w18 w19 := step_below (by first | exact Below.refl _ _ | exact (Below.refl _ _).drew | exact (Below.refl _ _).alloc (Nat.le_refl _) _ | exact ((Below.refl _ _).alloc (Nat.le_refl _) _).drew | exact ((Below.refl _ _).drew).alloc (Nat.le_refl _) _ | exact ((Below.refl _ _).alloc (Nat.le_refl _) _).alloc (by simp) _ | exact (((Below.refl _ _).alloc (Nat.le_refl _) _).alloc (by simp) _).drew | exact (((Below.refl _ _).alloc (Nat.le_refl _) _).alloc (by simp) _).alloc (by simp; omega) _) hb
          replace HB := Lib.hid (step_below HB.out hbs)
          replace C := Lib.hid (C.out.below hbs C.out.lt)
          replace D := Lib.hid (D.out.below hbs D.out.lt)
          replace F := Lib.hid (F.out.below hbs F.out.lt)
          replace G := Lib.hid (G.out.below hbs G.out.lt)
          replace K := Lib.hid (K.out.below hbs K.out.lt)
          replace Y1 := Lib.hid (Y1.out.below hbs)
          replace Y2 := Lib.hid (Y2.out.below hbs)
          clear hbs
          go_wp2_with fail
          refine ⟨Mod.of_below hb, ?_⟩
          clear hb
          have r_C := C.out.row
          have o_C := C.out.open
          have l_C := C.out.lt
          have c_C := C.out.cell
          have z_C := C.out.frozen
          have r_D := D.out.row
          have o_D := D.out.open
          have l_D := D.out.lt
          have c_D := D.out.cell
          have z_D := D.out.frozen
          have r_F := F.out.row
          have o_F := F.out.open
          have l_F := F.out.lt
          have c_F := F.out.cell
          have z_F := F.out.frozen
          have r_G := G.out.row
          have o_G := G.out.open
          have l_G := G.out.lt
          have c_G := G.out.cell
          have z_G := G.out.frozen
          have r_K := K.out.row
          have o_K := K.out.open
          have l_K := K.out.lt
          have c_K := K.out.cell
          have z_K := K.out.frozen
          repeat (first
            | (refine sq_yes rfl (by rfl) (fun w' hM => by ((try replace hM := hM.of_drew); obtain ⟨hR1, hR2, hR3⟩ := hM.rules; clear hM; go_simp; with_reducible rfl)) ?_; simp only [Act.put, List.setIfInBounds_toArray, List.set_cons_zero, List.set_cons_succ])
            | (refine sq_no rfl (by rfl) ?_; simp only [Act.put, List.setIfInBounds_toArray, List.set_cons_zero, List.set_cons_succ]))
          clear r_C o_C l_C c_C z_C r_D o_D l_D c_D z_D r_F o_F l_F c_F z_F r_G o_G l_G c_G z_G r_K o_K l_K c_K z_K
          refine sq_do_yes rfl (by rfl) (fun K_ hK_ => ?_)
          go_wp2_with fail
          refine (slot_any gg d k 17 _ G.out).mono ?_
          rintro e w20 ⟨rfl, hb⟩
          have hbs : Below w19.heap.size w19 w20 := step_below (by first | exact Below.refl _ _ | exact (Below.refl _ _).drew | exact (Below.refl _ _).alloc (Nat.le_refl _) _ | exact ((Below.refl _ _).alloc (Nat.le_refl _) _).drew | exact ((Below.refl _ _).drew).alloc (Nat.le_refl _) _ | exact ((Below.refl _ _).alloc (Nat.le_refl _) _).alloc (by simp) _ | exact (((Below.refl _ _).alloc (Nat.le_refl _) _).alloc (by simp) _).drew | exact (((Below.refl _ _).alloc (Nat.le_refl _) _).alloc (by simp) _).alloc (by simp; omega) _) hb
          replace HB := Lib.hid (step_below HB.out hbs)
          replace C := Lib.hid (C.out.below hbs C.out.lt)
          replace D := Lib.hid (D.out.below hbs D.out.lt)
          replace F := Lib.hid (F.out.below hbs F.out.lt)
          replace G := Lib.hid (G.out.below hbs G.out.lt)
          replace K := Lib.hid (K.out.below hbs K.out.lt)
          replace Y1 := Lib.hid (Y1.out.below hbs)
          replace Y2 := Lib.hid (Y2.out.below hbs)
          clear hbs
          rw [SE.out]
          go_wp2_with fail
          refine ⟨Mod.of_below hb, ?_⟩
          clear hb
          have r_C := C.out.row
          have o_C := C.out.open
          have l_C := C.out.lt
          have c_C := C.out.cell
          have z_C := C.out.frozen
          have r_D := D.out.row
          have o_D := D.out.open
          have l_D := D.out.lt
          have c_D := D.out.cell
          have z_D := D.out.frozen
          have r_F := F.out.row
          have o_F := F.out.open
          have l_F := F.out.lt
          have c_F := F.out.cell
          have z_F := F.out.frozen
          have r_G := G.out.row
          have o_G := G.out.open
          have l_G := G.out.lt
          have c_G := G.out.cell
          have z_G := G.out.frozen
          have r_K := K.out.row
          have o_K := K.out.open
          have l_K := K.out.lt
          have c_K := K.out.cell
          have z_K := K.out.frozen
          repeat (first
            | (refine sq_yes rfl (by rfl) (fun w' hM => by ((try replace hM := hM.of_drew); obtain ⟨hR1, hR2, hR3⟩ := hM.rules; clear hM; go_simp; with_reducible rfl)) ?_; simp only [Act.put, List.setIfInBounds_toArray, List.set_cons_zero, List.set_cons_succ])
            | (refine sq_no rfl (by rfl) ?_; simp only [Act.put, List.setIfInBounds_toArray, List.set_cons_zero, List.set_cons_succ]))
          clear r_C o_C l_C c_C z_C r_D o_D l_D c_D z_D r_F o_F l_F c_F z_F r_G o_G l_G c_G z_G r_K o_K l_K c_K z_K
          refine sq_do_yes rfl (by rfl) (fun K_ hK_ => ?_)
          go_wp2_with fail
          refine (awake_any _).mono ?_
          rintro e w21 ⟨rfl, hb⟩
          have hbs : Below w20.heap.size w20 w21 := step_below (by first | exact Below.refl _ _ | exact (Below.refl _ _).drew | exact (Below.refl _ _).alloc (Nat.le_refl _) _ | exact ((Below.refl _ _).alloc (Nat.le_refl _) _).drew | exact ((Below.refl _ _).drew).alloc (Nat.le_refl _) _ | exact ((Below.refl _ _).alloc (Nat.le_refl _) _).alloc (by simp) _ | exact (((Below.refl _ _).alloc (Nat.le_refl _) _).alloc (by simp) _).drew | exact (((Below.refl _ _).alloc (Nat.le_refl _) _).alloc (by simp) _).alloc (by simp; omega) _) hb
          replace HB := Lib.hid (step_below HB.out hbs)
          replace C := Lib.hid (C.out.below hbs C.out.lt)
          replace D := Lib.hid (D.out.below hbs D.out.lt)
          replace F := Lib.hid (F.out.below hbs F.out.lt)
          replace G := Lib.hid (G.out.below hbs G.out.lt)
          replace K := Lib.hid (K.out.below hbs K.out.lt)
          replace Y1 := Lib.hid (Y1.out.below hbs)
          replace Y2 := Lib.hid (Y2.out.below hbs)
          clear hbs
          go_wp2_with fail
          refine ⟨Mod.of_below hb, ?_⟩
          clear hb
          have r_C := C.out.row
          have o_C := C.out.open
          have l_C := C.out.lt
          have c_C := C.out.cell
          have z_C := C.out.frozen
          have r_D := D.out.row
          have o_D := D.out.open
          have l_D := D.out.lt
          have c_D := D.out.cell
          have z_D := D.out.frozen
          have r_F := F.out.row
          have o_F := F.out.open
          have l_F := F.out.lt
          have c_F := F.out.cell
          have z_F := F.out.frozen
          have r_G := G.out.row
          have o_G := G.out.open
          have l_G := G.out.lt
          have c_G := G.out.cell
          have z_G := G.out.frozen
          have r_K := K.out.row
          have o_K := K.out.open
          have l_K := K.out.lt
          have c_K := K.out.cell
          have z_K := K.out.frozen
          repeat (first
            | (refine sq_yes rfl (by rfl) (fun w' hM => by ((try replace hM := hM.of_drew); obtain ⟨hR1, hR2, hR3⟩ := hM.rules; clear hM; go_simp; with_reducible rfl)) ?_; simp only [Act.put, List.setIfInBounds_toArray, List.set_cons_zero, List.set_cons_succ])
            | (refine sq_no rfl (by rfl) ?_; simp only [Act.put, List.setIfInBounds_toArray, List.set_cons_zero, List.set_cons_succ]))
          clear r_C o_C l_C c_C z_C r_D o_D l_D c_D z_D r_F o_F l_F c_F z_F r_G o_G l_G c_G z_G r_K o_K l_K c_K z_K
          refine sq_end ?_
          go_wp2_with fail
          go_ret
          exact ⟨rfl, HB.out⟩
      
    · go_enter Try.func4, Try.ntmps4
      have HB := Lib.hid (Below.refl w.heap.size w)
      go_wp2_with fail
      refine (KC.out _ HI.out).mono ?_
      rintro e w1 ⟨rfl, hb⟩
      have hbs : Below w.heap.size w w1 := step_below (by first | exact Below.refl _ _ | exact (Below.refl _ _).drew | exact (Below.refl _ _).alloc (Nat.le_refl _) _ | exact ((Below.refl _ _).alloc (Nat.le_refl _) _).drew | exact ((Below.refl _ _).drew).alloc (Nat.le_refl _) _ | exact ((Below.refl _ _).alloc (Nat.le_refl _) _).alloc (by simp) _ | exact (((Below.refl _ _).alloc (Nat.le_refl _) _).alloc (by simp) _).drew | exact (((Below.refl _ _).alloc (Nat.le_refl _) _).alloc (by simp) _).alloc (by simp; omega) _) hb
      replace HB := Lib.hid (step_below HB.out hbs)
      clear hbs
      clear hb
      go_wp2_with fail
      have HBp := HB
      have C := at_new w1 29 (cc c1) (w1.heap.size) rfl
      replace HB := Lib.hid (HB.out.alloc HB.out.size (.cells (cc c1) 29))
      obtain ⟨gc, hg⟩ : ∃ g, g = w1.heap.size := ⟨_, rfl⟩
      have hgs : gc = w1.heap.size := by rw [hg]
      have b_gc : w.heap.size ≤ gc := by rw [hgs]; exact HBp.out.size
      have S_w2 := Lib.hid (show (w1.alloc (.cells (cc c1) 29)).heap.size = gc + 1 by rw [World.size_alloc, hgs])
      rw [← hg] at C
      try rw [← hg]
      clear hg hgs HBp
      replace C := Lib.hid C
      generalize w1.alloc (.cells (cc c1) 29) = w2 at *
      have HBp := HB
      have D := at_new w2 29 (cc c1) (gc + 1) (S_w2.out.symm)
      replace HB := Lib.hid (HB.out.alloc HB.out.size (.cells (cc c1) 29))
      have Cp := C
      replace C := Lib.hid (C.out.alloc (.cells (cc c1) 29))
      obtain ⟨gd, hg⟩ : ∃ g, g = gc + 1 := ⟨_, rfl⟩
      have hgs : gd = w2.heap.size := by rw [hg, S_w2.out]
      have b_gd : w.heap.size ≤ gd := by rw [hgs]; exact HBp.out.size
      have S_w3 := Lib.hid (show (w2.alloc (.cells (cc c1) 29)).heap.size = gd + 1 by rw [World.size_alloc, hgs])
      rw [← hg] at D
      try rw [← hg]
      have ne_C_D : gc ≠ gd := by have := Cp.out.lt; omega
      have ne_D_C : gd ≠ gc := fun h => ne_C_D h.symm
      clear hg hgs HBp Cp
      replace D := Lib.hid D
      generalize w2.alloc (.cells (cc c1) 29) = w3 at *
      refine (round_big a3 5 (by omega) (by omega) _).mono ?_
      rintro e w_ ⟨rfl, hw_⟩
      obtain rfl := hw_.symm
      clear hw_
      rw [HR.out]
      obtain ⟨d, hd⟩ : ∃ x, x = ({ c1 with digest := 16 } : Cf) := ⟨_, rfl⟩
      have hds := cc_set2 c1 16
      rw [← hd] at hds
      have OKD := Lib.hid (show cok d = true by rw [hd]; exact (cok_set2 c1 16 OK1.out).trans rfl)
      have Q := Lib.hid (show (d.seed = c1.seed ∧ d.size = c1.size ∧ d.bloom = c1.bloom ∧ d.hashes = c1.hashes) ∧ 2 ≤ d.stages ∧ (d.digest = 8 ∨ d.digest = 16) by rw [hd]; simp [Q1.out])
      clear hd
      have hD_ := (D.out.set 2 (.int .i64 16))
      rw [hds] at hD_ ; clear hds
      have hHB_ := (HB.out.setCell (p := ⟨gd, 2, none⟩) b_gd (.int .i64 16))
      have fC_ := (C.out.far (p := ⟨gd, 2, none⟩) ne_C_D (.int .i64 16))
      have r_D2 := hD_.row
      have o_D2 := hD_.open
      have r_C2 := fC_.row
      have o_C2 := fC_.open
      have HH_ := Lib.hid (And.intro hD_ hHB_)
      have HfC_ := Lib.hid fC_
      clear hD_ hHB_ fC_
      have r_C := C.out.row
      have o_C := C.out.open
      have l_C := C.out.lt
      have c_C := C.out.cell
      have z_C := C.out.frozen
      have r_D := D.out.row
      have o_D := D.out.open
      have l_D := D.out.lt
      have c_D := D.out.cell
      have z_D := D.out.frozen
      go_wp2_with fail
      clear r_C o_C l_C c_C z_C r_D o_D l_D c_D z_D
      clear r_D2 o_D2 r_C2 o_C2
      replace HB := Lib.hid HH_.out.2
      replace D := Lib.hid HH_.out.1
      replace C := Lib.hid HfC_.out
      clear HH_ HfC_
      generalize w3.setCell ⟨gd, 2, none⟩ (.int .i64 16) = w4 at *
      have FC := fits_of OK1.out
      have FD := fits_of OKD.out
      have e1 : c1.stages ≤ 4 := FC.st.2
      have e2 : 1 ≤ c1.size := by have := FC.sz.1; omega
      have e3 : d.stages ≤ 4 := FD.st.2
      have e4 : 1 ≤ d.size := by have := FD.sz.1; omega
      have e5 : 0 ≤ c1.hashes ∧ c1.hashes ≤ 80 := by have := FC.ha; omega
      have e6 : 0 ≤ d.hashes ∧ d.hashes ≤ 80 := by have := FD.ha; omega
      have e7 : 1 ≤ c1.bloom := by have := FC.bl; omega
      have e8 : 1 ≤ d.bloom := by have := FD.bl; omega
      have dg1 := FC.dg
      have dg2 := FD.dg
      have hda := alone_dig c1 d k KV.out Q1.out.2 Q.out.2.2 Q.out.1.1
      have BE := Lib.hid (show (bitsOf c1 k == bitsOf d k) = true by rw [alone_bits c1 d k Q.out.1.1 Q.out.1.2.2.1 Q.out.1.2.2.2]; simp)
      have SE := Lib.hid (show slotOf d k 17 = slotOf c1 k 17 by unfold slotOf; rw [Q.out.1.1])
      have hgp := guardP
      have hnp := neqP
      refine (new_ok c1 _ OK1.out).mono ?_
      rintro e w5 ⟨gf, rfl, hgf, hF, hb⟩
      have hbs : Below w4.heap.size w4 w5 := step_below (by first | exact Below.refl _ _ | exact (Below.refl _ _).drew | exact (Below.refl _ _).alloc (Nat.le_refl _) _ | exact ((Below.refl _ _).alloc (Nat.le_refl _) _).drew | exact ((Below.refl _ _).drew).alloc (Nat.le_refl _) _ | exact ((Below.refl _ _).alloc (Nat.le_refl _) _).alloc (by simp) _ | exact (((Below.refl _ _).alloc (Nat.le_refl _) _).alloc (by simp) _).drew | exact (((Below.refl _ _).alloc (Nat.le_refl _) _).alloc (by simp) _).alloc (by simp; omega) _) hb
      replace HB := Lib.hid (step_below HB.out hbs)
      replace C := Lib.hid (C.out.below hbs C.out.lt)
      replace D := Lib.hid (D.out.below hbs D.out.lt)
      clear hbs
      clear hb
      have F := Lib.hid hF
      clear hF hgf
      
      have r_C := C.out.row
      have o_C := C.out.open
      have l_C := C.out.lt
      have c_C := C.out.cell
      have z_C := C.out.frozen
      have r_D := D.out.row
      have o_D := D.out.open
      have l_D := D.out.lt
      have c_D := D.out.cell
      have z_D := D.out.frozen
      have r_F := F.out.row
      have o_F := F.out.open
      have l_F := F.out.lt
      have c_F := F.out.cell
      have z_F := F.out.frozen
      go_wp2_with fail
      clear r_C o_C l_C c_C z_C r_D o_D l_D c_D z_D r_F o_F l_F c_F z_F
      refine (new_ok d _ OKD.out).mono ?_
      rintro e w6 ⟨gg, rfl, hgg, hG, hb⟩
      have hbs : Below w5.heap.size w5 w6 := step_below (by first | exact Below.refl _ _ | exact (Below.refl _ _).drew | exact (Below.refl _ _).alloc (Nat.le_refl _) _ | exact ((Below.refl _ _).alloc (Nat.le_refl _) _).drew | exact ((Below.refl _ _).drew).alloc (Nat.le_refl _) _ | exact ((Below.refl _ _).alloc (Nat.le_refl _) _).alloc (by simp) _ | exact (((Below.refl _ _).alloc (Nat.le_refl _) _).alloc (by simp) _).drew | exact (((Below.refl _ _).alloc (Nat.le_refl _) _).alloc (by simp) _).alloc (by simp; omega) _) hb
      replace HB := Lib.hid (step_below HB.out hbs)
      replace C := Lib.hid (C.out.below hbs C.out.lt)
      replace D := Lib.hid (D.out.below hbs D.out.lt)
      replace F := Lib.hid (F.out.below hbs F.out.lt)
      clear hbs
      clear hb
      have G := Lib.hid hG
      clear hG hgg
      
      have r_C := C.out.row
      have o_C := C.out.open
      have l_C := C.out.lt
      have c_C := C.out.cell
      have z_C := C.out.frozen
      have r_D := D.out.row
      have o_D := D.out.open
      have l_D := D.out.lt
      have c_D := D.out.cell
      have z_D := D.out.frozen
      have r_F := F.out.row
      have o_F := F.out.open
      have l_F := F.out.lt
      have c_F := F.out.cell
      have z_F := F.out.frozen
      have r_G := G.out.row
      have o_G := G.out.open
      have l_G := G.out.lt
      have c_G := G.out.cell
      have z_G := G.out.frozen
      go_wp2_with fail
      clear r_C o_C l_C c_C z_C r_D o_D l_D c_D z_D r_F o_F l_F c_F z_F r_G o_G l_G c_G z_G
      refine (KK.out _).mono ?_
      rintro e w7 ⟨rfl, hb⟩
      have hbs : Below w6.heap.size w6 w7 := step_below (by first | exact Below.refl _ _ | exact (Below.refl _ _).drew | exact (Below.refl _ _).alloc (Nat.le_refl _) _ | exact ((Below.refl _ _).alloc (Nat.le_refl _) _).drew | exact ((Below.refl _ _).drew).alloc (Nat.le_refl _) _ | exact ((Below.refl _ _).alloc (Nat.le_refl _) _).alloc (by simp) _ | exact (((Below.refl _ _).alloc (Nat.le_refl _) _).alloc (by simp) _).drew | exact (((Below.refl _ _).alloc (Nat.le_refl _) _).alloc (by simp) _).alloc (by simp; omega) _) hb
      replace HB := Lib.hid (step_below HB.out hbs)
      replace C := Lib.hid (C.out.below hbs C.out.lt)
      replace D := Lib.hid (D.out.below hbs D.out.lt)
      replace F := Lib.hid (F.out.below hbs F.out.lt)
      replace G := Lib.hid (G.out.below hbs G.out.lt)
      clear hbs
      clear hb
      go_wp2_with fail
      have HBp := HB
      have K := at_new w7 40 (kc k) (w7.heap.size) rfl
      replace HB := Lib.hid (HB.out.alloc HB.out.size (.cells (kc k) 40))
      have Cp := C
      replace C := Lib.hid (C.out.alloc (.cells (kc k) 40))
      have Dp := D
      replace D := Lib.hid (D.out.alloc (.cells (kc k) 40))
      have Fp := F
      replace F := Lib.hid (F.out.alloc (.cells (kc k) 40))
      have Gp := G
      replace G := Lib.hid (G.out.alloc (.cells (kc k) 40))
      obtain ⟨gk, hg⟩ : ∃ g, g = w7.heap.size := ⟨_, rfl⟩
      have hgs : gk = w7.heap.size := by rw [hg]
      have b_gk : w.heap.size ≤ gk := by rw [hgs]; exact HBp.out.size
      have S_w8 := Lib.hid (show (w7.alloc (.cells (kc k) 40)).heap.size = gk + 1 by rw [World.size_alloc, hgs])
      rw [← hg] at K
      try rw [← hg]
      have ne_C_K : gc ≠ gk := by have := Cp.out.lt; omega
      have ne_K_C : gk ≠ gc := fun h => ne_C_K h.symm
      have ne_D_K : gd ≠ gk := by have := Dp.out.lt; omega
      have ne_K_D : gk ≠ gd := fun h => ne_D_K h.symm
      have ne_F_K : gf ≠ gk := by have := Fp.out.lt; omega
      have ne_K_F : gk ≠ gf := fun h => ne_F_K h.symm
      have ne_G_K : gg ≠ gk := by have := Gp.out.lt; omega
      have ne_K_G : gk ≠ gg := fun h => ne_G_K h.symm
      clear hg hgs HBp Cp Dp Fp Gp
      replace K := Lib.hid K
      generalize w7.alloc (.cells (kc k) 40) = w8 at *
      
      go_loopw [16, 17, 18, 19, 20] (fun i wr_ wr2 wr3 wr4 wr => ∃ s : Nat, s ≤ 2 ∧ i = .int .i64 s ∧ At wr gc 29 (cc c1) ∧ At wr gd 29 (cc d) ∧ At wr gf 80 (fc c1) ∧ At wr gg 80 (fc d) ∧ At wr gk 40 (kc k) ∧ Below w.heap.size w wr) (fun i _ _ _ _ _ => 2 - (intOf i).toNat)
      case atStart => exact ⟨0, by omega, rfl, C.out, D.out, F.out, G.out, K.out, HB.out⟩
      case round =>
        obtain ⟨s, hs, rfl, hC_, hD_, hF_, hG_, hK_, hB_⟩ := hrel
        have C := Lib.hid hC_
        have D := Lib.hid hD_
        have F := Lib.hid hF_
        have G := Lib.hid hG_
        have K := Lib.hid hK_
        have HB := Lib.hid hB_
        clear hC_ hD_ hF_ hG_ hK_ hB_
        by_cases hlt : s < 2
        · have P1 := Lib.hid (placeOf_yes c1 k s KV.out (by rw [Q1.out.1]; omega))
          have P2 := Lib.hid (show placeOf d k s = .tuple #[.agg #[.int .i64 s, .int .i64 (idx c1 k s)], .bool true] by rw [placeOf_yes d k s KV.out (by have := Q.out.2.1; omega)]; unfold idx; rw [Q.out.1.1, Q.out.1.2.1])
          
          have r_C := C.out.row
          have o_C := C.out.open
          have l_C := C.out.lt
          have c_C := C.out.cell
          have z_C := C.out.frozen
          have r_D := D.out.row
          have o_D := D.out.open
          have l_D := D.out.lt
          have c_D := D.out.cell
          have z_D := D.out.frozen
          have r_F := F.out.row
          have o_F := F.out.open
          have l_F := F.out.lt
          have c_F := F.out.cell
          have z_F := F.out.frozen
          have r_G := G.out.row
          have o_G := G.out.open
          have l_G := G.out.lt
          have c_G := G.out.cell
          have z_G := G.out.frozen
          have r_K := K.out.row
          have o_K := K.out.open
          have l_K := K.out.lt
          have c_K := K.out.cell
          have z_K := K.out.frozen
          go_wp2_with fail
          clear r_C o_C l_C c_C z_C r_D o_D l_D c_D z_D r_F o_F l_F c_F z_F r_G o_G l_G c_G z_G r_K o_K l_K c_K z_K
          refine (place_any gf c1 k s _ F.out e1 e2).mono ?_
          rintro e w9 ⟨rfl, hb⟩
          have hbs : Below wr.heap.size wr w9 := step_below (by first | exact Below.refl _ _ | exact (Below.refl _ _).drew | exact (Below.refl _ _).alloc (Nat.le_refl _) _ | exact ((Below.refl _ _).alloc (Nat.le_refl _) _).drew | exact ((Below.refl _ _).drew).alloc (Nat.le_refl _) _ | exact ((Below.refl _ _).alloc (Nat.le_refl _) _).alloc (by simp) _ | exact (((Below.refl _ _).alloc (Nat.le_refl _) _).alloc (by simp) _).drew | exact (((Below.refl _ _).alloc (Nat.le_refl _) _).alloc (by simp) _).alloc (by simp; omega) _) hb
          replace HB := Lib.hid (step_below HB.out hbs)
          replace C := Lib.hid (C.out.below hbs C.out.lt)
          replace D := Lib.hid (D.out.below hbs D.out.lt)
          replace F := Lib.hid (F.out.below hbs F.out.lt)
          replace G := Lib.hid (G.out.below hbs G.out.lt)
          replace K := Lib.hid (K.out.below hbs K.out.lt)
          clear hbs
          clear hb
          rw [P1.out]
          have r_C := C.out.row
          have o_C := C.out.open
          have l_C := C.out.lt
          have c_C := C.out.cell
          have z_C := C.out.frozen
          have r_D := D.out.row
          have o_D := D.out.open
          have l_D := D.out.lt
          have c_D := D.out.cell
          have z_D := D.out.frozen
          have r_F := F.out.row
          have o_F := F.out.open
          have l_F := F.out.lt
          have c_F := F.out.cell
          have z_F := F.out.frozen
          have r_G := G.out.row
          have o_G := G.out.open
          have l_G := G.out.lt
          have c_G := G.out.cell
          have z_G := G.out.frozen
          have r_K := K.out.row
          have o_K := K.out.open
          have l_K := K.out.lt
          have c_K := K.out.cell
          have z_K := K.out.frozen
          go_wp2_with fail
          clear r_C o_C l_C c_C z_C r_D o_D l_D c_D z_D r_F o_F l_F c_F z_F r_G o_G l_G c_G z_G r_K o_K l_K c_K z_K
          have HBp := HB
          have P := at_new w9 43 (#[.int .i64 (s : Int), .int .i64 (idx c1 k s)]) (w9.heap.size) rfl
          replace HB := Lib.hid (HB.out.alloc HB.out.size (.cells (#[.int .i64 (s : Int), .int .i64 (idx c1 k s)]) 43))
          have Cp := C
          replace C := Lib.hid (C.out.alloc (.cells (#[.int .i64 (s : Int), .int .i64 (idx c1 k s)]) 43))
          have Dp := D
          replace D := Lib.hid (D.out.alloc (.cells (#[.int .i64 (s : Int), .int .i64 (idx c1 k s)]) 43))
          have Fp := F
          replace F := Lib.hid (F.out.alloc (.cells (#[.int .i64 (s : Int), .int .i64 (idx c1 k s)]) 43))
          have Gp := G
          replace G := Lib.hid (G.out.alloc (.cells (#[.int .i64 (s : Int), .int .i64 (idx c1 k s)]) 43))
          have Kp := K
          replace K := Lib.hid (K.out.alloc (.cells (#[.int .i64 (s : Int), .int .i64 (idx c1 k s)]) 43))
          obtain ⟨gp, hg⟩ : ∃ g, g = w9.heap.size := ⟨_, rfl⟩
          have hgs : gp = w9.heap.size := by rw [hg]
          have b_gp : w.heap.size ≤ gp := by rw [hgs]; exact HBp.out.size
          have S_w10 := Lib.hid (show (w9.alloc (.cells (#[.int .i64 (s : Int), .int .i64 (idx c1 k s)]) 43)).heap.size = gp + 1 by rw [World.size_alloc, hgs])
          rw [← hg] at P
          try rw [← hg]
          have ne_C_P : gc ≠ gp := by have := Cp.out.lt; omega
          have ne_P_C : gp ≠ gc := fun h => ne_C_P h.symm
          have ne_D_P : gd ≠ gp := by have := Dp.out.lt; omega
          have ne_P_D : gp ≠ gd := fun h => ne_D_P h.symm
          have ne_F_P : gf ≠ gp := by have := Fp.out.lt; omega
          have ne_P_F : gp ≠ gf := fun h => ne_F_P h.symm
          have ne_G_P : gg ≠ gp := by have := Gp.out.lt; omega
          have ne_P_G : gp ≠ gg := fun h => ne_G_P h.symm
          have ne_K_P : gk ≠ gp := by have := Kp.out.lt; omega
          have ne_P_K : gp ≠ gk := fun h => ne_K_P h.symm
          clear hg hgs HBp Cp Dp Fp Gp Kp
          replace P := Lib.hid P
          generalize w9.alloc (.cells (#[.int .i64 (s : Int), .int .i64 (idx c1 k s)]) 43) = w10 at *
          refine (place_any gg d k s _ G.out e3 e4).mono ?_
          rintro e w11 ⟨rfl, hb⟩
          have hbs : Below w10.heap.size w10 w11 := step_below (by first | exact Below.refl _ _ | exact (Below.refl _ _).drew | exact (Below.refl _ _).alloc (Nat.le_refl _) _ | exact ((Below.refl _ _).alloc (Nat.le_refl _) _).drew | exact ((Below.refl _ _).drew).alloc (Nat.le_refl _) _ | exact ((Below.refl _ _).alloc (Nat.le_refl _) _).alloc (by simp) _ | exact (((Below.refl _ _).alloc (Nat.le_refl _) _).alloc (by simp) _).drew | exact (((Below.refl _ _).alloc (Nat.le_refl _) _).alloc (by simp) _).alloc (by simp; omega) _) hb
          replace HB := Lib.hid (step_below HB.out hbs)
          replace C := Lib.hid (C.out.below hbs C.out.lt)
          replace D := Lib.hid (D.out.below hbs D.out.lt)
          replace F := Lib.hid (F.out.below hbs F.out.lt)
          replace G := Lib.hid (G.out.below hbs G.out.lt)
          replace K := Lib.hid (K.out.below hbs K.out.lt)
          replace P := Lib.hid (P.out.below hbs P.out.lt)
          clear hbs
          clear hb
          rw [P2.out]
          have r_C := C.out.row
          have o_C := C.out.open
          have l_C := C.out.lt
          have c_C := C.out.cell
          have z_C := C.out.frozen
          have r_D := D.out.row
          have o_D := D.out.open
          have l_D := D.out.lt
          have c_D := D.out.cell
          have z_D := D.out.frozen
          have r_F := F.out.row
          have o_F := F.out.open
          have l_F := F.out.lt
          have c_F := F.out.cell
          have z_F := F.out.frozen
          have r_G := G.out.row
          have o_G := G.out.open
          have l_G := G.out.lt
          have c_G := G.out.cell
          have z_G := G.out.frozen
          have r_K := K.out.row
          have o_K := K.out.open
          have l_K := K.out.lt
          have c_K := K.out.cell
          have z_K := K.out.frozen
          have r_P := P.out.row
          have o_P := P.out.open
          have l_P := P.out.lt
          have c_P := P.out.cell
          have z_P := P.out.frozen
          go_wp2_with fail
          clear r_C o_C l_C c_C z_C r_D o_D l_D c_D z_D r_F o_F l_F c_F z_F r_G o_G l_G c_G z_G r_K o_K l_K c_K z_K r_P o_P l_P c_P z_P
          have HBp := HB
          have P2 := at_new w11 43 (#[.int .i64 (s : Int), .int .i64 (idx c1 k s)]) (w11.heap.size) rfl
          replace HB := Lib.hid (HB.out.alloc HB.out.size (.cells (#[.int .i64 (s : Int), .int .i64 (idx c1 k s)]) 43))
          have Cp := C
          replace C := Lib.hid (C.out.alloc (.cells (#[.int .i64 (s : Int), .int .i64 (idx c1 k s)]) 43))
          have Dp := D
          replace D := Lib.hid (D.out.alloc (.cells (#[.int .i64 (s : Int), .int .i64 (idx c1 k s)]) 43))
          have Fp := F
          replace F := Lib.hid (F.out.alloc (.cells (#[.int .i64 (s : Int), .int .i64 (idx c1 k s)]) 43))
          have Gp := G
          replace G := Lib.hid (G.out.alloc (.cells (#[.int .i64 (s : Int), .int .i64 (idx c1 k s)]) 43))
          have Kp := K
          replace K := Lib.hid (K.out.alloc (.cells (#[.int .i64 (s : Int), .int .i64 (idx c1 k s)]) 43))
          have Pp := P
          replace P := Lib.hid (P.out.alloc (.cells (#[.int .i64 (s : Int), .int .i64 (idx c1 k s)]) 43))
          obtain ⟨gp2, hg⟩ : ∃ g, g = w11.heap.size := ⟨_, rfl⟩
          have hgs : gp2 = w11.heap.size := by rw [hg]
          have b_gp2 : w.heap.size ≤ gp2 := by rw [hgs]; exact HBp.out.size
          have S_w12 := Lib.hid (show (w11.alloc (.cells (#[.int .i64 (s : Int), .int .i64 (idx c1 k s)]) 43)).heap.size = gp2 + 1 by rw [World.size_alloc, hgs])
          rw [← hg] at P2
          try rw [← hg]
          have ne_C_P2 : gc ≠ gp2 := by have := Cp.out.lt; omega
          have ne_P2_C : gp2 ≠ gc := fun h => ne_C_P2 h.symm
          have ne_D_P2 : gd ≠ gp2 := by have := Dp.out.lt; omega
          have ne_P2_D : gp2 ≠ gd := fun h => ne_D_P2 h.symm
          have ne_F_P2 : gf ≠ gp2 := by have := Fp.out.lt; omega
          have ne_P2_F : gp2 ≠ gf := fun h => ne_F_P2 h.symm
          have ne_G_P2 : gg ≠ gp2 := by have := Gp.out.lt; omega
          have ne_P2_G : gp2 ≠ gg := fun h => ne_G_P2 h.symm
          have ne_K_P2 : gk ≠ gp2 := by have := Kp.out.lt; omega
          have ne_P2_K : gp2 ≠ gk := fun h => ne_K_P2 h.symm
          have ne_P_P2 : gp ≠ gp2 := by have := Pp.out.lt; omega
          have ne_P2_P : gp2 ≠ gp := fun h => ne_P_P2 h.symm
          clear hg hgs HBp Cp Dp Fp Gp Kp Pp
          replace P2 := Lib.hid P2
          generalize w11.alloc (.cells (#[.int .i64 (s : Int), .int .i64 (idx c1 k s)]) 43) = w12 at *
          clear P P2
          go_roundw
          case rel => exact ⟨s + 1, by omega, by go_num, C.out, D.out, F.out, G.out, K.out, HB.out⟩
          case measure => simp [intOf]; omega
          
        · obtain rfl : s = 2 := by omega
          have r_C := C.out.row
          have o_C := C.out.open
          have l_C := C.out.lt
          have c_C := C.out.cell
          have z_C := C.out.frozen
          have r_D := D.out.row
          have o_D := D.out.open
          have l_D := D.out.lt
          have c_D := D.out.cell
          have z_D := D.out.frozen
          have r_F := F.out.row
          have o_F := F.out.open
          have l_F := F.out.lt
          have c_F := F.out.cell
          have z_F := F.out.frozen
          have r_G := G.out.row
          have o_G := G.out.open
          have l_G := G.out.lt
          have c_G := G.out.cell
          have z_G := G.out.frozen
          have r_K := K.out.row
          have o_K := K.out.open
          have l_K := K.out.lt
          have c_K := K.out.cell
          have z_K := K.out.frozen
          go_wp2_with fail
          clear r_C o_C l_C c_C z_C r_D o_D l_D c_D z_D r_F o_F l_F c_F z_F r_G o_G l_G c_G z_G r_K o_K l_K c_K z_K
          have r_C := C.out.row
          have o_C := C.out.open
          have l_C := C.out.lt
          have c_C := C.out.cell
          have z_C := C.out.frozen
          have r_D := D.out.row
          have o_D := D.out.open
          have l_D := D.out.lt
          have c_D := D.out.cell
          have z_D := D.out.frozen
          have r_F := F.out.row
          have o_F := F.out.open
          have l_F := F.out.lt
          have c_F := F.out.cell
          have z_F := F.out.frozen
          have r_G := G.out.row
          have o_G := G.out.open
          have l_G := G.out.lt
          have c_G := G.out.cell
          have z_G := G.out.frozen
          have r_K := K.out.row
          have o_K := K.out.open
          have l_K := K.out.lt
          have c_K := K.out.cell
          have z_K := K.out.frozen
          refine region_sq (fun _ => False) [(0, true), (1, true), (3, true), (4, true), (2, false), (5, false), (6, true), (7, true), (8, true), (9, true), (10, true), (12, true), (13, true), (11, false), (14, false), (15, false), (16, true), (17, true), (18, true), (19, true), (21, true), (22, true), (20, false), (23, false), (24, true), (25, true), (26, true), (27, false), (28, true), (29, true)] (by kernel_rfl) (by kernel_rfl) (fun _ _ d _ _ h => by cases d <;> exact h) ?_
          repeat (first
            | (refine sq_yes rfl (by rfl) (fun w' hM => by ((try replace hM := hM.of_drew); obtain ⟨hR1, hR2, hR3⟩ := hM.rules; clear hM; go_simp; with_reducible rfl)) ?_; simp only [Act.put, List.setIfInBounds_toArray, List.set_cons_zero, List.set_cons_succ])
            | (refine sq_no rfl (by rfl) ?_; simp only [Act.put, List.setIfInBounds_toArray, List.set_cons_zero, List.set_cons_succ]))
          clear r_C o_C l_C c_C z_C r_D o_D l_D c_D z_D r_F o_F l_F c_F z_F r_G o_G l_G c_G z_G r_K o_K l_K c_K z_K
          replace C := Lib.hid C.out.drew
          replace D := Lib.hid D.out.drew
          replace F := Lib.hid F.out.drew
          replace G := Lib.hid G.out.drew
          replace K := Lib.hid K.out.drew
          replace HB := Lib.hid HB.out.drew
          generalize wr.drew = w13 at *
          refine sq_do_yes rfl (by rfl) (fun K_ hK_ => ?_)
          go_wp2_with fail
          refine (digest_any gf c1 k _ F.out dg1.1 dg1.2).mono ?_
          rintro e w14 ⟨rfl, hb⟩
          have hbs : Below w13.heap.size w13 w14 := step_below (by first | exact Below.refl _ _ | exact (Below.refl _ _).drew | exact (Below.refl _ _).alloc (Nat.le_refl _) _ | exact ((Below.refl _ _).alloc (Nat.le_refl _) _).drew | exact ((Below.refl _ _).drew).alloc (Nat.le_refl _) _ | exact ((Below.refl _ _).alloc (Nat.le_refl _) _).alloc (by simp) _ | exact (((Below.refl _ _).alloc (Nat.le_refl _) _).alloc (by simp) _).drew | exact (((Below.refl _ _).alloc (Nat.le_refl _) _).alloc (by simp) _).alloc (by simp; omega) _) hb
          replace HB := Lib.hid (step_below HB.out hbs)
          replace C := Lib.hid (C.out.below hbs C.out.lt)
          replace D := Lib.hid (D.out.below hbs D.out.lt)
          replace F := Lib.hid (F.out.below hbs F.out.lt)
          replace G := Lib.hid (G.out.below hbs G.out.lt)
          replace K := Lib.hid (K.out.below hbs K.out.lt)
          clear hbs
          go_wp2_with fail
          refine ⟨Mod.of_below hb, ?_⟩
          clear hb
          have r_C := C.out.row
          have o_C := C.out.open
          have l_C := C.out.lt
          have c_C := C.out.cell
          have z_C := C.out.frozen
          have r_D := D.out.row
          have o_D := D.out.open
          have l_D := D.out.lt
          have c_D := D.out.cell
          have z_D := D.out.frozen
          have r_F := F.out.row
          have o_F := F.out.open
          have l_F := F.out.lt
          have c_F := F.out.cell
          have z_F := F.out.frozen
          have r_G := G.out.row
          have o_G := G.out.open
          have l_G := G.out.lt
          have c_G := G.out.cell
          have z_G := G.out.frozen
          have r_K := K.out.row
          have o_K := K.out.open
          have l_K := K.out.lt
          have c_K := K.out.cell
          have z_K := K.out.frozen
          repeat (first
            | (refine sq_yes rfl (by rfl) (fun w' hM => by ((try replace hM := hM.of_drew); obtain ⟨hR1, hR2, hR3⟩ := hM.rules; clear hM; go_simp; with_reducible rfl)) ?_; simp only [Act.put, List.setIfInBounds_toArray, List.set_cons_zero, List.set_cons_succ])
            | (refine sq_no rfl (by rfl) ?_; simp only [Act.put, List.setIfInBounds_toArray, List.set_cons_zero, List.set_cons_succ]))
          clear r_C o_C l_C c_C z_C r_D o_D l_D c_D z_D r_F o_F l_F c_F z_F r_G o_G l_G c_G z_G r_K o_K l_K c_K z_K
          refine sq_do_yes rfl (by rfl) (fun K_ hK_ => ?_)
          go_wp2_with fail
          refine (digest_any gg d k _ G.out dg2.1 dg2.2).mono ?_
          rintro e w15 ⟨rfl, hb⟩
          have hbs : Below w14.heap.size w14 w15 := step_below (by first | exact Below.refl _ _ | exact (Below.refl _ _).drew | exact (Below.refl _ _).alloc (Nat.le_refl _) _ | exact ((Below.refl _ _).alloc (Nat.le_refl _) _).drew | exact ((Below.refl _ _).drew).alloc (Nat.le_refl _) _ | exact ((Below.refl _ _).alloc (Nat.le_refl _) _).alloc (by simp) _ | exact (((Below.refl _ _).alloc (Nat.le_refl _) _).alloc (by simp) _).drew | exact (((Below.refl _ _).alloc (Nat.le_refl _) _).alloc (by simp) _).alloc (by simp; omega) _) hb
          replace HB := Lib.hid (step_below HB.out hbs)
          replace C := Lib.hid (C.out.below hbs C.out.lt)
          replace D := Lib.hid (D.out.below hbs D.out.lt)
          replace F := Lib.hid (F.out.below hbs F.out.lt)
          replace G := Lib.hid (G.out.below hbs G.out.lt)
          replace K := Lib.hid (K.out.below hbs K.out.lt)
          clear hbs
          go_wp2_with fail
          refine ⟨Mod.of_below hb, ?_⟩
          clear hb
          have r_C := C.out.row
          have o_C := C.out.open
          have l_C := C.out.lt
          have c_C := C.out.cell
          have z_C := C.out.frozen
          have r_D := D.out.row
          have o_D := D.out.open
          have l_D := D.out.lt
          have c_D := D.out.cell
          have z_D := D.out.frozen
          have r_F := F.out.row
          have o_F := F.out.open
          have l_F := F.out.lt
          have c_F := F.out.cell
          have z_F := F.out.frozen
          have r_G := G.out.row
          have o_G := G.out.open
          have l_G := G.out.lt
          have c_G := G.out.cell
          have z_G := G.out.frozen
          have r_K := K.out.row
          have o_K := K.out.open
          have l_K := K.out.lt
          have c_K := K.out.cell
          have z_K := K.out.frozen
          repeat (first
            | (refine sq_yes rfl (by rfl) (fun w' hM => by ((try replace hM := hM.of_drew); obtain ⟨hR1, hR2, hR3⟩ := hM.rules; clear hM; go_simp; with_reducible rfl)) ?_; simp only [Act.put, List.setIfInBounds_toArray, List.set_cons_zero, List.set_cons_succ])
            | (refine sq_no rfl (by rfl) ?_; simp only [Act.put, List.setIfInBounds_toArray, List.set_cons_zero, List.set_cons_succ]))
          clear r_C o_C l_C c_C z_C r_D o_D l_D c_D z_D r_F o_F l_F c_F z_F r_G o_G l_G c_G z_G r_K o_K l_K c_K z_K
          refine sq_do_yes rfl (by rfl) (fun K_ hK_ => ?_)
          go_wp2_with fail
          refine (bits_any gf c1 k _ F.out e5.1 e5.2 e7).mono ?_
          rintro e w16 ⟨v, rfl, ho, hb⟩
          have hbs : Below w15.heap.size w15 w16 := step_below (by first | exact Below.refl _ _ | exact (Below.refl _ _).drew | exact (Below.refl _ _).alloc (Nat.le_refl _) _ | exact ((Below.refl _ _).alloc (Nat.le_refl _) _).drew | exact ((Below.refl _ _).drew).alloc (Nat.le_refl _) _ | exact ((Below.refl _ _).alloc (Nat.le_refl _) _).alloc (by simp) _ | exact (((Below.refl _ _).alloc (Nat.le_refl _) _).alloc (by simp) _).drew | exact (((Below.refl _ _).alloc (Nat.le_refl _) _).alloc (by simp) _).alloc (by simp; omega) _) hb
          replace HB := Lib.hid (step_below HB.out hbs)
          replace C := Lib.hid (C.out.below hbs C.out.lt)
          replace D := Lib.hid (D.out.below hbs D.out.lt)
          replace F := Lib.hid (F.out.below hbs F.out.lt)
          replace G := Lib.hid (G.out.below hbs G.out.lt)
          replace K := Lib.hid (K.out.below hbs K.out.lt)
          clear hbs
          obtain ⟨b1, m1, q1, rfl, hm1, hy1, _⟩ := ho.parts
          have Y1 := Lib.hid hy1
          rw [bitsOf_length c1 k KV.out] at hm1
          have M1 : m1 ≤ 1000000 := by omega
          clear hm1
          clear ho hy1
          go_wp2_with fail
          refine ⟨Mod.of_below hb, ?_⟩
          clear hb
          have r_C := C.out.row
          have o_C := C.out.open
          have l_C := C.out.lt
          have c_C := C.out.cell
          have z_C := C.out.frozen
          have r_D := D.out.row
          have o_D := D.out.open
          have l_D := D.out.lt
          have c_D := D.out.cell
          have z_D := D.out.frozen
          have r_F := F.out.row
          have o_F := F.out.open
          have l_F := F.out.lt
          have c_F := F.out.cell
          have z_F := F.out.frozen
          have r_G := G.out.row
          have o_G := G.out.open
          have l_G := G.out.lt
          have c_G := G.out.cell
          have z_G := G.out.frozen
          have r_K := K.out.row
          have o_K := K.out.open
          have l_K := K.out.lt
          have c_K := K.out.cell
          have z_K := K.out.frozen
          repeat (first
            | (refine sq_yes rfl (by rfl) (fun w' hM => by ((try replace hM := hM.of_drew); obtain ⟨hR1, hR2, hR3⟩ := hM.rules; clear hM; go_simp; with_reducible rfl)) ?_; simp only [Act.put, List.setIfInBounds_toArray, List.set_cons_zero, List.set_cons_succ])
            | (refine sq_no rfl (by rfl) ?_; simp only [Act.put, List.setIfInBounds_toArray, List.set_cons_zero, List.set_cons_succ]))
          clear r_C o_C l_C c_C z_C r_D o_D l_D c_D z_D r_F o_F l_F c_F z_F r_G o_G l_G c_G z_G r_K o_K l_K c_K z_K
          refine sq_do_yes rfl (by rfl) (fun K_ hK_ => ?_)
          go_wp2_with fail
          refine (bits_any gg d k _ G.out e6.1 e6.2 e8).mono ?_
          rintro e w17 ⟨v, rfl, ho, hb⟩
          have hbs : Below w16.heap.size w16 w17 := step_below (by first | exact Below.refl _ _ | exact (Below.refl _ _).drew | exact (Below.refl _ _).alloc (Nat.le_refl _) _ | exact ((Below.refl _ _).alloc (Nat.le_refl _) _).drew | exact ((Below.refl _ _).drew).alloc (Nat.le_refl _) _ | exact ((Below.refl _ _).alloc (Nat.le_refl _) _).alloc (by simp) _ | exact (((Below.refl _ _).alloc (Nat.le_refl _) _).alloc (by simp) _).drew | exact (((Below.refl _ _).alloc (Nat.le_refl _) _).alloc (by simp) _).alloc (by simp; omega) _) hb
          replace HB := Lib.hid (step_below HB.out hbs)
          replace C := Lib.hid (C.out.below hbs C.out.lt)
          replace D := Lib.hid (D.out.below hbs D.out.lt)
          replace F := Lib.hid (F.out.below hbs F.out.lt)
          replace G := Lib.hid (G.out.below hbs G.out.lt)
          replace K := Lib.hid (K.out.below hbs K.out.lt)
          replace Y1 := Lib.hid (Y1.out.below hbs)
          clear hbs
          obtain ⟨b2, m2, q2, rfl, hm2, hy2, _⟩ := ho.parts
          have Y2 := Lib.hid hy2
          rw [bitsOf_length d k KV.out] at hm2
          have M2 : m2 ≤ 1000000 := by omega
          clear hm2
          clear ho hy2
          go_wp2_with fail
          refine ⟨Mod.of_below hb, ?_⟩
          clear hb
          have r_C := C.out.row
          have o_C := C.out.open
          have l_C := C.out.lt
          have c_C := C.out.cell
          have z_C := C.out.frozen
          have r_D := D.out.row
          have o_D := D.out.open
          have l_D := D.out.lt
          have c_D := D.out.cell
          have z_D := D.out.frozen
          have r_F := F.out.row
          have o_F := F.out.open
          have l_F := F.out.lt
          have c_F := F.out.cell
          have z_F := F.out.frozen
          have r_G := G.out.row
          have o_G := G.out.open
          have l_G := G.out.lt
          have c_G := G.out.cell
          have z_G := G.out.frozen
          have r_K := K.out.row
          have o_K := K.out.open
          have l_K := K.out.lt
          have c_K := K.out.cell
          have z_K := K.out.frozen
          repeat (first
            | (refine sq_yes rfl (by rfl) (fun w' hM => by ((try replace hM := hM.of_drew); obtain ⟨hR1, hR2, hR3⟩ := hM.rules; clear hM; go_simp; with_reducible rfl)) ?_; simp only [Act.put, List.setIfInBounds_toArray, List.set_cons_zero, List.set_cons_succ])
            | (refine sq_no rfl (by rfl) ?_; simp only [Act.put, List.setIfInBounds_toArray, List.set_cons_zero, List.set_cons_succ]))
          clear r_C o_C l_C c_C z_C r_D o_D l_D c_D z_D r_F o_F l_F c_F z_F r_G o_G l_G c_G z_G r_K o_K l_K c_K z_K
          refine sq_do_yes rfl (by rfl) (fun K_ hK_ => ?_)
          go_wp2_with fail
          refine (ints_any b1 m1 q1 _ b2 m2 q2 _ _ Y1.out Y2.out M1 M2).mono ?_
          rintro e w18 ⟨rfl, hb⟩
          have hbs : Below w17.heap.size w17 w18 := step_below (by first | exact Below.refl _ _ | exact (Below.refl _ _).drew | exact (Below.refl _ _).alloc (Nat.le_refl _) _ | exact ((Below.refl _ _).alloc (Nat.le_refl _) _).drew | exact ((Below.refl _ _).drew).alloc (Nat.le_refl _) _ | exact ((Below.refl _ _).alloc (Nat.le_refl _) _).alloc (by simp) _ | exact (((Below.refl _ _).alloc (Nat.le_refl _) _).alloc (by simp) _).drew | exact (((Below.refl _ _).alloc (Nat.le_refl _) _).alloc (by simp) _).alloc (by simp; omega) _) hb
          replace HB := Lib.hid (step_below HB.out hbs)
          replace C := Lib.hid (C.out.below hbs C.out.lt)
          replace D := Lib.hid (D.out.below hbs D.out.lt)
          replace F := Lib.hid (F.out.below hbs F.out.lt)
          replace G := Lib.hid (G.out.below hbs G.out.lt)
          replace K := Lib.hid (K.out.below hbs K.out.lt)
          replace Y1 := Lib.hid (Y1.out.below hbs)
          replace Y2 := Lib.hid (Y2.out.below hbs)
          clear hbs
          rw [BE.out]
          go_wp2_with fail
          refine ⟨Mod.of_below hb, ?_⟩
          clear hb
          have r_C := C.out.row
          have o_C := C.out.open
          have l_C := C.out.lt
          have c_C := C.out.cell
          have z_C := C.out.frozen
          have r_D := D.out.row
          have o_D := D.out.open
          have l_D := D.out.lt
          have c_D := D.out.cell
          have z_D := D.out.frozen
          have r_F := F.out.row
          have o_F := F.out.open
          have l_F := F.out.lt
          have c_F := F.out.cell
          have z_F := F.out.frozen
          have r_G := G.out.row
          have o_G := G.out.open
          have l_G := G.out.lt
          have c_G := G.out.cell
          have z_G := G.out.frozen
          have r_K := K.out.row
          have o_K := K.out.open
          have l_K := K.out.lt
          have c_K := K.out.cell
          have z_K := K.out.frozen
          repeat (first
            | (refine sq_yes rfl (by rfl) (fun w' hM => by ((try replace hM := hM.of_drew); obtain ⟨hR1, hR2, hR3⟩ := hM.rules; clear hM; go_simp; with_reducible rfl)) ?_; simp only [Act.put, List.setIfInBounds_toArray, List.set_cons_zero, List.set_cons_succ])
            | (refine sq_no rfl (by rfl) ?_; simp only [Act.put, List.setIfInBounds_toArray, List.set_cons_zero, List.set_cons_succ]))
          clear r_C o_C l_C c_C z_C r_D o_D l_D c_D z_D r_F o_F l_F c_F z_F r_G o_G l_G c_G z_G r_K o_K l_K c_K z_K
          refine sq_do_yes rfl (by rfl) (fun K_ hK_ => ?_)
          go_wp2_with fail
          refine (slot_any gf c1 k 17 _ F.out).mono ?_
          rintro e w19 ⟨rfl, hb⟩
          have hbs : Below w18.heap.size w18 w19 := step_below (by first | exact Below.refl _ _ | exact (Below.refl _ _).drew | exact (Below.refl _ _).alloc (Nat.le_refl _) _ | exact ((Below.refl _ _).alloc (Nat.le_refl _) _).drew | exact ((Below.refl _ _).drew).alloc (Nat.le_refl _) _ | exact ((Below.refl _ _).alloc (Nat.le_refl _) _).alloc (by simp) _ | exact (((Below.refl _ _).alloc (Nat.le_refl _) _).alloc (by simp) _).drew | exact (((Below.refl _ _).alloc (Nat.le_refl _) _).alloc (by simp) _).alloc (by simp; omega) _) hb
          replace HB := Lib.hid (step_below HB.out hbs)
          replace C := Lib.hid (C.out.below hbs C.out.lt)
          replace D := Lib.hid (D.out.below hbs D.out.lt)
          replace F := Lib.hid (F.out.below hbs F.out.lt)
          replace G := Lib.hid (G.out.below hbs G.out.lt)
          replace K := Lib.hid (K.out.below hbs K.out.lt)
          replace Y1 := Lib.hid (Y1.out.below hbs)
          replace Y2 := Lib.hid (Y2.out.below hbs)
          clear hbs
          go_wp2_with fail
          refine ⟨Mod.of_below hb, ?_⟩
          clear hb
          have r_C := C.out.row
          have o_C := C.out.open
          have l_C := C.out.lt
          have c_C := C.out.cell
          have z_C := C.out.frozen
          have r_D := D.out.row
          have o_D := D.out.open
          have l_D := D.out.lt
          have c_D := D.out.cell
          have z_D := D.out.frozen
          have r_F := F.out.row
          have o_F := F.out.open
          have l_F := F.out.lt
          have c_F := F.out.cell
          have z_F := F.out.frozen
          have r_G := G.out.row
          have o_G := G.out.open
          have l_G := G.out.lt
          have c_G := G.out.cell
          have z_G := G.out.frozen
          have r_K := K.out.row
          have o_K := K.out.open
          have l_K := K.out.lt
          have c_K := K.out.cell
          have z_K := K.out.frozen
          repeat (first
            | (refine sq_yes rfl (by rfl) (fun w' hM => by ((try replace hM := hM.of_drew); obtain ⟨hR1, hR2, hR3⟩ := hM.rules; clear hM; go_simp; with_reducible rfl)) ?_; simp only [Act.put, List.setIfInBounds_toArray, List.set_cons_zero, List.set_cons_succ])
            | (refine sq_no rfl (by rfl) ?_; simp only [Act.put, List.setIfInBounds_toArray, List.set_cons_zero, List.set_cons_succ]))
          clear r_C o_C l_C c_C z_C r_D o_D l_D c_D z_D r_F o_F l_F c_F z_F r_G o_G l_G c_G z_G r_K o_K l_K c_K z_K
          refine sq_do_yes rfl (by rfl) (fun K_ hK_ => ?_)
          go_wp2_with fail
          refine (slot_any gg d k 17 _ G.out).mono ?_
          rintro e w20 ⟨rfl, hb⟩
          have hbs : Below w19.heap.size w19 w20 := step_below (by first | exact Below.refl _ _ | exact (Below.refl _ _).drew | exact (Below.refl _ _).alloc (Nat.le_refl _) _ | exact ((Below.refl _ _).alloc (Nat.le_refl _) _).drew | exact ((Below.refl _ _).drew).alloc (Nat.le_refl _) _ | exact ((Below.refl _ _).alloc (Nat.le_refl _) _).alloc (by simp) _ | exact (((Below.refl _ _).alloc (Nat.le_refl _) _).alloc (by simp) _).drew | exact (((Below.refl _ _).alloc (Nat.le_refl _) _).alloc (by simp) _).alloc (by simp; omega) _) hb
          replace HB := Lib.hid (step_below HB.out hbs)
          replace C := Lib.hid (C.out.below hbs C.out.lt)
          replace D := Lib.hid (D.out.below hbs D.out.lt)
          replace F := Lib.hid (F.out.below hbs F.out.lt)
          replace G := Lib.hid (G.out.below hbs G.out.lt)
          replace K := Lib.hid (K.out.below hbs K.out.lt)
          replace Y1 := Lib.hid (Y1.out.below hbs)
          replace Y2 := Lib.hid (Y2.out.below hbs)
          clear hbs
          rw [SE.out]
          go_wp2_with fail
          refine ⟨Mod.of_below hb, ?_⟩
          clear hb
          have r_C := C.out.row
          have o_C := C.out.open
          have l_C := C.out.lt
          have c_C := C.out.cell
          have z_C := C.out.frozen
          have r_D := D.out.row
          have o_D := D.out.open
          have l_D := D.out.lt
          have c_D := D.out.cell
          have z_D := D.out.frozen
          have r_F := F.out.row
          have o_F := F.out.open
          have l_F := F.out.lt
          have c_F := F.out.cell
          have z_F := F.out.frozen
          have r_G := G.out.row
          have o_G := G.out.open
          have l_G := G.out.lt
          have c_G := G.out.cell
          have z_G := G.out.frozen
          have r_K := K.out.row
          have o_K := K.out.open
          have l_K := K.out.lt
          have c_K := K.out.cell
          have z_K := K.out.frozen
          repeat (first
            | (refine sq_yes rfl (by rfl) (fun w' hM => by ((try replace hM := hM.of_drew); obtain ⟨hR1, hR2, hR3⟩ := hM.rules; clear hM; go_simp; with_reducible rfl)) ?_; simp only [Act.put, List.setIfInBounds_toArray, List.set_cons_zero, List.set_cons_succ])
            | (refine sq_no rfl (by rfl) ?_; simp only [Act.put, List.setIfInBounds_toArray, List.set_cons_zero, List.set_cons_succ]))
          clear r_C o_C l_C c_C z_C r_D o_D l_D c_D z_D r_F o_F l_F c_F z_F r_G o_G l_G c_G z_G r_K o_K l_K c_K z_K
          refine sq_do_yes rfl (by rfl) (fun K_ hK_ => ?_)
          go_wp2_with fail
          refine (awake_any _).mono ?_
          rintro e w21 ⟨rfl, hb⟩
          have hbs : Below w20.heap.size w20 w21 := step_below (by first | exact Below.refl _ _ | exact (Below.refl _ _).drew | exact (Below.refl _ _).alloc (Nat.le_refl _) _ | exact ((Below.refl _ _).alloc (Nat.le_refl _) _).drew | exact ((Below.refl _ _).drew).alloc (Nat.le_refl _) _ | exact ((Below.refl _ _).alloc (Nat.le_refl _) _).alloc (by simp) _ | exact (((Below.refl _ _).alloc (Nat.le_refl _) _).alloc (by simp) _).drew | exact (((Below.refl _ _).alloc (Nat.le_refl _) _).alloc (by simp) _).alloc (by simp; omega) _) hb
          replace HB := Lib.hid (step_below HB.out hbs)
          replace C := Lib.hid (C.out.below hbs C.out.lt)
          replace D := Lib.hid (D.out.below hbs D.out.lt)
          replace F := Lib.hid (F.out.below hbs F.out.lt)
          replace G := Lib.hid (G.out.below hbs G.out.lt)
          replace K := Lib.hid (K.out.below hbs K.out.lt)
          replace Y1 := Lib.hid (Y1.out.below hbs)
          replace Y2 := Lib.hid (Y2.out.below hbs)
          clear hbs
          go_wp2_with fail
          refine ⟨Mod.of_below hb, ?_⟩
          clear hb
          have r_C := C.out.row
          have o_C := C.out.open
          have l_C := C.out.lt
          have c_C := C.out.cell
          have z_C := C.out.frozen
          have r_D := D.out.row
          have o_D := D.out.open
          have l_D := D.out.lt
          have c_D := D.out.cell
          have z_D := D.out.frozen
          have r_F := F.out.row
          have o_F := F.out.open
          have l_F := F.out.lt
          have c_F := F.out.cell
          have z_F := F.out.frozen
          have r_G := G.out.row
          have o_G := G.out.open
          have l_G := G.out.lt
          have c_G := G.out.cell
          have z_G := G.out.frozen
          have r_K := K.out.row
          have o_K := K.out.open
          have l_K := K.out.lt
          have c_K := K.out.cell
          have z_K := K.out.frozen
          repeat (first
            | (refine sq_yes rfl (by rfl) (fun w' hM => by ((try replace hM := hM.of_drew); obtain ⟨hR1, hR2, hR3⟩ := hM.rules; clear hM; go_simp; with_reducible rfl)) ?_; simp only [Act.put, List.setIfInBounds_toArray, List.set_cons_zero, List.set_cons_succ])
            | (refine sq_no rfl (by rfl) ?_; simp only [Act.put, List.setIfInBounds_toArray, List.set_cons_zero, List.set_cons_succ]))
          clear r_C o_C l_C c_C z_C r_D o_D l_D c_D z_D r_F o_F l_F c_F z_F r_G o_G l_G c_G z_G r_K o_K l_K c_K z_K
          refine sq_end ?_
          go_wp2_with fail
          go_ret
          exact ⟨rfl, HB.out⟩
      
    · go_enter Try.func4, Try.ntmps4
      have HB := Lib.hid (Below.refl w.heap.size w)
      go_wp2_with fail
      refine (KC.out _ HI.out).mono ?_
      rintro e w1 ⟨rfl, hb⟩
      have hbs : Below w.heap.size w w1 := step_below (by first | exact Below.refl _ _ | exact (Below.refl _ _).drew | exact (Below.refl _ _).alloc (Nat.le_refl _) _ | exact ((Below.refl _ _).alloc (Nat.le_refl _) _).drew | exact ((Below.refl _ _).drew).alloc (Nat.le_refl _) _ | exact ((Below.refl _ _).alloc (Nat.le_refl _) _).alloc (by simp) _ | exact (((Below.refl _ _).alloc (Nat.le_refl _) _).alloc (by simp) _).drew | exact (((Below.refl _ _).alloc (Nat.le_refl _) _).alloc (by simp) _).alloc (by simp; omega) _) hb
      replace HB := Lib.hid (step_below HB.out hbs)
      clear hbs
      clear hb
      go_wp2_with fail
      have HBp := HB
      have C := at_new w1 29 (cc c1) (w1.heap.size) rfl
      replace HB := Lib.hid (HB.out.alloc HB.out.size (.cells (cc c1) 29))
      obtain ⟨gc, hg⟩ : ∃ g, g = w1.heap.size := ⟨_, rfl⟩
      have hgs : gc = w1.heap.size := by rw [hg]
      have b_gc : w.heap.size ≤ gc := by rw [hgs]; exact HBp.out.size
      have S_w2 := Lib.hid (show (w1.alloc (.cells (cc c1) 29)).heap.size = gc + 1 by rw [World.size_alloc, hgs])
      rw [← hg] at C
      try rw [← hg]
      clear hg hgs HBp
      replace C := Lib.hid C
      generalize w1.alloc (.cells (cc c1) 29) = w2 at *
      have HBp := HB
      have D := at_new w2 29 (cc c1) (gc + 1) (S_w2.out.symm)
      replace HB := Lib.hid (HB.out.alloc HB.out.size (.cells (cc c1) 29))
      have Cp := C
      replace C := Lib.hid (C.out.alloc (.cells (cc c1) 29))
      obtain ⟨gd, hg⟩ : ∃ g, g = gc + 1 := ⟨_, rfl⟩
      have hgs : gd = w2.heap.size := by rw [hg, S_w2.out]
      have b_gd : w.heap.size ≤ gd := by rw [hgs]; exact HBp.out.size
      have S_w3 := Lib.hid (show (w2.alloc (.cells (cc c1) 29)).heap.size = gd + 1 by rw [World.size_alloc, hgs])
      rw [← hg] at D
      try rw [← hg]
      have ne_C_D : gc ≠ gd := by have := Cp.out.lt; omega
      have ne_D_C : gd ≠ gc := fun h => ne_C_D h.symm
      clear hg hgs HBp Cp
      replace D := Lib.hid D
      generalize w2.alloc (.cells (cc c1) 29) = w3 at *
      refine (round_big a3 5 (by omega) (by omega) _).mono ?_
      rintro e w_ ⟨rfl, hw_⟩
      obtain rfl := hw_.symm
      clear hw_
      rw [HR.out]
      obtain ⟨d, hd⟩ : ∃ x, x = ({ c1 with queue := 7, evict := 7, idle := 7 } : Cf) := ⟨_, rfl⟩
      have hds := alone_set2 c1
      rw [← hd] at hds
      have OKD := Lib.hid (show cok d = true by rw [hd]; exact alone_cok2 c1 OK1.out)
      have Q := Lib.hid (show (d.seed = c1.seed ∧ d.size = c1.size ∧ d.bloom = c1.bloom ∧ d.hashes = c1.hashes) ∧ 2 ≤ d.stages ∧ (d.digest = 8 ∨ d.digest = 16) by rw [hd]; simp [Q1.out])
      clear hd
      have hD_ := (((D.out.set 7 (.int .i64 7)).set 8 (.int .i64 7)).set 9 (.int .i64 7))
      rw [hds] at hD_ ; clear hds
      have hHB_ := (((HB.out.setCell (p := ⟨gd, 7, none⟩) b_gd (.int .i64 7)).setCell (p := ⟨gd, 8, none⟩) b_gd (.int .i64 7)).setCell (p := ⟨gd, 9, none⟩) b_gd (.int .i64 7))
      have fC_ := (((C.out.far (p := ⟨gd, 7, none⟩) ne_C_D (.int .i64 7)).far (p := ⟨gd, 8, none⟩) ne_C_D (.int .i64 7)).far (p := ⟨gd, 9, none⟩) ne_C_D (.int .i64 7))
      have r_D2 := hD_.row
      have o_D2 := hD_.open
      have r_C2 := fC_.row
      have o_C2 := fC_.open
      have HH_ := Lib.hid (And.intro hD_ hHB_)
      have HfC_ := Lib.hid fC_
      clear hD_ hHB_ fC_
      have r_C := C.out.row
      have o_C := C.out.open
      have l_C := C.out.lt
      have c_C := C.out.cell
      have z_C := C.out.frozen
      have r_D := D.out.row
      have o_D := D.out.open
      have l_D := D.out.lt
      have c_D := D.out.cell
      have z_D := D.out.frozen
      go_wp2_with fail
      clear r_C o_C l_C c_C z_C r_D o_D l_D c_D z_D
      clear r_D2 o_D2 r_C2 o_C2
      replace HB := Lib.hid HH_.out.2
      replace D := Lib.hid HH_.out.1
      replace C := Lib.hid HfC_.out
      clear HH_ HfC_
      generalize ((w3.setCell ⟨gd, 7, none⟩ (.int .i64 7)).setCell ⟨gd, 8, none⟩ (.int .i64 7)).setCell ⟨gd, 9, none⟩ (.int .i64 7) = w4 at *
      have FC := fits_of OK1.out
      have FD := fits_of OKD.out
      have e1 : c1.stages ≤ 4 := FC.st.2
      have e2 : 1 ≤ c1.size := by have := FC.sz.1; omega
      have e3 : d.stages ≤ 4 := FD.st.2
      have e4 : 1 ≤ d.size := by have := FD.sz.1; omega
      have e5 : 0 ≤ c1.hashes ∧ c1.hashes ≤ 80 := by have := FC.ha; omega
      have e6 : 0 ≤ d.hashes ∧ d.hashes ≤ 80 := by have := FD.ha; omega
      have e7 : 1 ≤ c1.bloom := by have := FC.bl; omega
      have e8 : 1 ≤ d.bloom := by have := FD.bl; omega
      have dg1 := FC.dg
      have dg2 := FD.dg
      have hda := alone_dig c1 d k KV.out Q1.out.2 Q.out.2.2 Q.out.1.1
      have BE := Lib.hid (show (bitsOf c1 k == bitsOf d k) = true by rw [alone_bits c1 d k Q.out.1.1 Q.out.1.2.2.1 Q.out.1.2.2.2]; simp)
      have SE := Lib.hid (show slotOf d k 17 = slotOf c1 k 17 by unfold slotOf; rw [Q.out.1.1])
      have hgp := guardP
      have hnp := neqP
      refine (new_ok c1 _ OK1.out).mono ?_
      rintro e w5 ⟨gf, rfl, hgf, hF, hb⟩
      have hbs : Below w4.heap.size w4 w5 := step_below (by first | exact Below.refl _ _ | exact (Below.refl _ _).drew | exact (Below.refl _ _).alloc (Nat.le_refl _) _ | exact ((Below.refl _ _).alloc (Nat.le_refl _) _).drew | exact ((Below.refl _ _).drew).alloc (Nat.le_refl _) _ | exact ((Below.refl _ _).alloc (Nat.le_refl _) _).alloc (by simp) _ | exact (((Below.refl _ _).alloc (Nat.le_refl _) _).alloc (by simp) _).drew | exact (((Below.refl _ _).alloc (Nat.le_refl _) _).alloc (by simp) _).alloc (by simp; omega) _) hb
      replace HB := Lib.hid (step_below HB.out hbs)
      replace C := Lib.hid (C.out.below hbs C.out.lt)
      replace D := Lib.hid (D.out.below hbs D.out.lt)
      clear hbs
      clear hb
      have F := Lib.hid hF
      clear hF hgf
      
      have r_C := C.out.row
      have o_C := C.out.open
      have l_C := C.out.lt
      have c_C := C.out.cell
      have z_C := C.out.frozen
      have r_D := D.out.row
      have o_D := D.out.open
      have l_D := D.out.lt
      have c_D := D.out.cell
      have z_D := D.out.frozen
      have r_F := F.out.row
      have o_F := F.out.open
      have l_F := F.out.lt
      have c_F := F.out.cell
      have z_F := F.out.frozen
      go_wp2_with fail
      clear r_C o_C l_C c_C z_C r_D o_D l_D c_D z_D r_F o_F l_F c_F z_F
      refine (new_ok d _ OKD.out).mono ?_
      rintro e w6 ⟨gg, rfl, hgg, hG, hb⟩
      have hbs : Below w5.heap.size w5 w6 := step_below (by first | exact Below.refl _ _ | exact (Below.refl _ _).drew | exact (Below.refl _ _).alloc (Nat.le_refl _) _ | exact ((Below.refl _ _).alloc (Nat.le_refl _) _).drew | exact ((Below.refl _ _).drew).alloc (Nat.le_refl _) _ | exact ((Below.refl _ _).alloc (Nat.le_refl _) _).alloc (by simp) _ | exact (((Below.refl _ _).alloc (Nat.le_refl _) _).alloc (by simp) _).drew | exact (((Below.refl _ _).alloc (Nat.le_refl _) _).alloc (by simp) _).alloc (by simp; omega) _) hb
      replace HB := Lib.hid (step_below HB.out hbs)
      replace C := Lib.hid (C.out.below hbs C.out.lt)
      replace D := Lib.hid (D.out.below hbs D.out.lt)
      replace F := Lib.hid (F.out.below hbs F.out.lt)
      clear hbs
      clear hb
      have G := Lib.hid hG
      clear hG hgg
      
      have r_C := C.out.row
      have o_C := C.out.open
      have l_C := C.out.lt
      have c_C := C.out.cell
      have z_C := C.out.frozen
      have r_D := D.out.row
      have o_D := D.out.open
      have l_D := D.out.lt
      have c_D := D.out.cell
      have z_D := D.out.frozen
      have r_F := F.out.row
      have o_F := F.out.open
      have l_F := F.out.lt
      have c_F := F.out.cell
      have z_F := F.out.frozen
      have r_G := G.out.row
      have o_G := G.out.open
      have l_G := G.out.lt
      have c_G := G.out.cell
      have z_G := G.out.frozen
      go_wp2_with fail
      clear r_C o_C l_C c_C z_C r_D o_D l_D c_D z_D r_F o_F l_F c_F z_F r_G o_G l_G c_G z_G
      refine (KK.out _).mono ?_
      rintro e w7 ⟨rfl, hb⟩
      have hbs : Below w6.heap.size w6 w7 := step_below (by first | exact Below.refl _ _ | exact (Below.refl _ _).drew | exact (Below.refl _ _).alloc (Nat.le_refl _) _ | exact ((Below.refl _ _).alloc (Nat.le_refl _) _).drew | exact ((Below.refl _ _).drew).alloc (Nat.le_refl _) _ | exact ((Below.refl _ _).alloc (Nat.le_refl _) _).alloc (by simp) _ | exact (((Below.refl _ _).alloc (Nat.le_refl _) _).alloc (by simp) _).drew | exact (((Below.refl _ _).alloc (Nat.le_refl _) _).alloc (by simp) _).alloc (by simp; omega) _) hb
      replace HB := Lib.hid (step_below HB.out hbs)
      replace C := Lib.hid (C.out.below hbs C.out.lt)
      replace D := Lib.hid (D.out.below hbs D.out.lt)
      replace F := Lib.hid (F.out.below hbs F.out.lt)
      replace G := Lib.hid (G.out.below hbs G.out.lt)
      clear hbs
      clear hb
      go_wp2_with fail
      have HBp := HB
      have K := at_new w7 40 (kc k) (w7.heap.size) rfl
      replace HB := Lib.hid (HB.out.alloc HB.out.size (.cells (kc k) 40))
      have Cp := C
      replace C := Lib.hid (C.out.alloc (.cells (kc k) 40))
      have Dp := D
      replace D := Lib.hid (D.out.alloc (.cells (kc k) 40))
      have Fp := F
      replace F := Lib.hid (F.out.alloc (.cells (kc k) 40))
      have Gp := G
      replace G := Lib.hid (G.out.alloc (.cells (kc k) 40))
      obtain ⟨gk, hg⟩ : ∃ g, g = w7.heap.size := ⟨_, rfl⟩
      have hgs : gk = w7.heap.size := by rw [hg]
      have b_gk : w.heap.size ≤ gk := by rw [hgs]; exact HBp.out.size
      have S_w8 := Lib.hid (show (w7.alloc (.cells (kc k) 40)).heap.size = gk + 1 by rw [World.size_alloc, hgs])
      rw [← hg] at K
      try rw [← hg]
      have ne_C_K : gc ≠ gk := by have := Cp.out.lt; omega
      have ne_K_C : gk ≠ gc := fun h => ne_C_K h.symm
      have ne_D_K : gd ≠ gk := by have := Dp.out.lt; omega
      have ne_K_D : gk ≠ gd := fun h => ne_D_K h.symm
      have ne_F_K : gf ≠ gk := by have := Fp.out.lt; omega
      have ne_K_F : gk ≠ gf := fun h => ne_F_K h.symm
      have ne_G_K : gg ≠ gk := by have := Gp.out.lt; omega
      have ne_K_G : gk ≠ gg := fun h => ne_G_K h.symm
      clear hg hgs HBp Cp Dp Fp Gp
      replace K := Lib.hid K
      generalize w7.alloc (.cells (kc k) 40) = w8 at *
      
      go_loopw [16, 17, 18, 19, 20] (fun i wr_ wr2 wr3 wr4 wr => ∃ s : Nat, s ≤ 2 ∧ i = .int .i64 s ∧ At wr gc 29 (cc c1) ∧ At wr gd 29 (cc d) ∧ At wr gf 80 (fc c1) ∧ At wr gg 80 (fc d) ∧ At wr gk 40 (kc k) ∧ Below w.heap.size w wr) (fun i _ _ _ _ _ => 2 - (intOf i).toNat)
      case atStart => exact ⟨0, by omega, rfl, C.out, D.out, F.out, G.out, K.out, HB.out⟩
      case round =>
        obtain ⟨s, hs, rfl, hC_, hD_, hF_, hG_, hK_, hB_⟩ := hrel
        have C := Lib.hid hC_
        have D := Lib.hid hD_
        have F := Lib.hid hF_
        have G := Lib.hid hG_
        have K := Lib.hid hK_
        have HB := Lib.hid hB_
        clear hC_ hD_ hF_ hG_ hK_ hB_
        by_cases hlt : s < 2
        · have P1 := Lib.hid (placeOf_yes c1 k s KV.out (by rw [Q1.out.1]; omega))
          have P2 := Lib.hid (show placeOf d k s = .tuple #[.agg #[.int .i64 s, .int .i64 (idx c1 k s)], .bool true] by rw [placeOf_yes d k s KV.out (by have := Q.out.2.1; omega)]; unfold idx; rw [Q.out.1.1, Q.out.1.2.1])
          
          have r_C := C.out.row
          have o_C := C.out.open
          have l_C := C.out.lt
          have c_C := C.out.cell
          have z_C := C.out.frozen
          have r_D := D.out.row
          have o_D := D.out.open
          have l_D := D.out.lt
          have c_D := D.out.cell
          have z_D := D.out.frozen
          have r_F := F.out.row
          have o_F := F.out.open
          have l_F := F.out.lt
          have c_F := F.out.cell
          have z_F := F.out.frozen
          have r_G := G.out.row
          have o_G := G.out.open
          have l_G := G.out.lt
          have c_G := G.out.cell
          have z_G := G.out.frozen
          have r_K := K.out.row
          have o_K := K.out.open
          have l_K := K.out.lt
          have c_K := K.out.cell
          have z_K := K.out.frozen
          go_wp2_with fail
          clear r_C o_C l_C c_C z_C r_D o_D l_D c_D z_D r_F o_F l_F c_F z_F r_G o_G l_G c_G z_G r_K o_K l_K c_K z_K
          refine (place_any gf c1 k s _ F.out e1 e2).mono ?_
          rintro e w9 ⟨rfl, hb⟩
          have hbs : Below wr.heap.size wr w9 := step_below (by first | exact Below.refl _ _ | exact (Below.refl _ _).drew | exact (Below.refl _ _).alloc (Nat.le_refl _) _ | exact ((Below.refl _ _).alloc (Nat.le_refl _) _).drew | exact ((Below.refl _ _).drew).alloc (Nat.le_refl _) _ | exact ((Below.refl _ _).alloc (Nat.le_refl _) _).alloc (by simp) _ | exact (((Below.refl _ _).alloc (Nat.le_refl _) _).alloc (by simp) _).drew | exact (((Below.refl _ _).alloc (Nat.le_refl _) _).alloc (by simp) _).alloc (by simp; omega) _) hb
          replace HB := Lib.hid (step_below HB.out hbs)
          replace C := Lib.hid (C.out.below hbs C.out.lt)
          replace D := Lib.hid (D.out.below hbs D.out.lt)
          replace F := Lib.hid (F.out.below hbs F.out.lt)
          replace G := Lib.hid (G.out.below hbs G.out.lt)
          replace K := Lib.hid (K.out.below hbs K.out.lt)
          clear hbs
          clear hb
          rw [P1.out]
          have r_C := C.out.row
          have o_C := C.out.open
          have l_C := C.out.lt
          have c_C := C.out.cell
          have z_C := C.out.frozen
          have r_D := D.out.row
          have o_D := D.out.open
          have l_D := D.out.lt
          have c_D := D.out.cell
          have z_D := D.out.frozen
          have r_F := F.out.row
          have o_F := F.out.open
          have l_F := F.out.lt
          have c_F := F.out.cell
          have z_F := F.out.frozen
          have r_G := G.out.row
          have o_G := G.out.open
          have l_G := G.out.lt
          have c_G := G.out.cell
          have z_G := G.out.frozen
          have r_K := K.out.row
          have o_K := K.out.open
          have l_K := K.out.lt
          have c_K := K.out.cell
          have z_K := K.out.frozen
          go_wp2_with fail
          clear r_C o_C l_C c_C z_C r_D o_D l_D c_D z_D r_F o_F l_F c_F z_F r_G o_G l_G c_G z_G r_K o_K l_K c_K z_K
          have HBp := HB
          have P := at_new w9 43 (#[.int .i64 (s : Int), .int .i64 (idx c1 k s)]) (w9.heap.size) rfl
          replace HB := Lib.hid (HB.out.alloc HB.out.size (.cells (#[.int .i64 (s : Int), .int .i64 (idx c1 k s)]) 43))
          have Cp := C
          replace C := Lib.hid (C.out.alloc (.cells (#[.int .i64 (s : Int), .int .i64 (idx c1 k s)]) 43))
          have Dp := D
          replace D := Lib.hid (D.out.alloc (.cells (#[.int .i64 (s : Int), .int .i64 (idx c1 k s)]) 43))
          have Fp := F
          replace F := Lib.hid (F.out.alloc (.cells (#[.int .i64 (s : Int), .int .i64 (idx c1 k s)]) 43))
          have Gp := G
          replace G := Lib.hid (G.out.alloc (.cells (#[.int .i64 (s : Int), .int .i64 (idx c1 k s)]) 43))
          have Kp := K
          replace K := Lib.hid (K.out.alloc (.cells (#[.int .i64 (s : Int), .int .i64 (idx c1 k s)]) 43))
          obtain ⟨gp, hg⟩ : ∃ g, g = w9.heap.size := ⟨_, rfl⟩
          have hgs : gp = w9.heap.size := by rw [hg]
          have b_gp : w.heap.size ≤ gp := by rw [hgs]; exact HBp.out.size
          have S_w10 := Lib.hid (show (w9.alloc (.cells (#[.int .i64 (s : Int), .int .i64 (idx c1 k s)]) 43)).heap.size = gp + 1 by rw [World.size_alloc, hgs])
          rw [← hg] at P
          try rw [← hg]
          have ne_C_P : gc ≠ gp := by have := Cp.out.lt; omega
          have ne_P_C : gp ≠ gc := fun h => ne_C_P h.symm
          have ne_D_P : gd ≠ gp := by have := Dp.out.lt; omega
          have ne_P_D : gp ≠ gd := fun h => ne_D_P h.symm
          have ne_F_P : gf ≠ gp := by have := Fp.out.lt; omega
          have ne_P_F : gp ≠ gf := fun h => ne_F_P h.symm
          have ne_G_P : gg ≠ gp := by have := Gp.out.lt; omega
          have ne_P_G : gp ≠ gg := fun h => ne_G_P h.symm
          have ne_K_P : gk ≠ gp := by have := Kp.out.lt; omega
          have ne_P_K : gp ≠ gk := fun h => ne_K_P h.symm
          clear hg hgs HBp Cp Dp Fp Gp Kp
          replace P := Lib.hid P
          generalize w9.alloc (.cells (#[.int .i64 (s : Int), .int .i64 (idx c1 k s)]) 43) = w10 at *
          refine (place_any gg d k s _ G.out e3 e4).mono ?_
          rintro e w11 ⟨rfl, hb⟩
          have hbs : Below w10.heap.size w10 w11 := step_below (by first | exact Below.refl _ _ | exact (Below.refl _ _).drew | exact (Below.refl _ _).alloc (Nat.le_refl _) _ | exact ((Below.refl _ _).alloc (Nat.le_refl _) _).drew | exact ((Below.refl _ _).drew).alloc (Nat.le_refl _) _ | exact ((Below.refl _ _).alloc (Nat.le_refl _) _).alloc (by simp) _ | exact (((Below.refl _ _).alloc (Nat.le_refl _) _).alloc (by simp) _).drew | exact (((Below.refl _ _).alloc (Nat.le_refl _) _).alloc (by simp) _).alloc (by simp; omega) _) hb
          replace HB := Lib.hid (step_below HB.out hbs)
          replace C := Lib.hid (C.out.below hbs C.out.lt)
          replace D := Lib.hid (D.out.below hbs D.out.lt)
          replace F := Lib.hid (F.out.below hbs F.out.lt)
          replace G := Lib.hid (G.out.below hbs G.out.lt)
          replace K := Lib.hid (K.out.below hbs K.out.lt)
          replace P := Lib.hid (P.out.below hbs P.out.lt)
          clear hbs
          clear hb
          rw [P2.out]
          have r_C := C.out.row
          have o_C := C.out.open
          have l_C := C.out.lt
          have c_C := C.out.cell
          have z_C := C.out.frozen
          have r_D := D.out.row
          have o_D := D.out.open
          have l_D := D.out.lt
          have c_D := D.out.cell
          have z_D := D.out.frozen
          have r_F := F.out.row
          have o_F := F.out.open
          have l_F := F.out.lt
          have c_F := F.out.cell
          have z_F := F.out.frozen
          have r_G := G.out.row
          have o_G := G.out.open
          have l_G := G.out.lt
          have c_G := G.out.cell
          have z_G := G.out.frozen
          have r_K := K.out.row
          have o_K := K.out.open
          have l_K := K.out.lt
          have c_K := K.out.cell
          have z_K := K.out.frozen
          have r_P := P.out.row
          have o_P := P.out.open
          have l_P := P.out.lt
          have c_P := P.out.cell
          have z_P := P.out.frozen
          go_wp2_with fail
          clear r_C o_C l_C c_C z_C r_D o_D l_D c_D z_D r_F o_F l_F c_F z_F r_G o_G l_G c_G z_G r_K o_K l_K c_K z_K r_P o_P l_P c_P z_P
          have HBp := HB
          have P2 := at_new w11 43 (#[.int .i64 (s : Int), .int .i64 (idx c1 k s)]) (w11.heap.size) rfl
          replace HB := Lib.hid (HB.out.alloc HB.out.size (.cells (#[.int .i64 (s : Int), .int .i64 (idx c1 k s)]) 43))
          have Cp := C
          replace C := Lib.hid (C.out.alloc (.cells (#[.int .i64 (s : Int), .int .i64 (idx c1 k s)]) 43))
          have Dp := D
          replace D := Lib.hid (D.out.alloc (.cells (#[.int .i64 (s : Int), .int .i64 (idx c1 k s)]) 43))
          have Fp := F
          replace F := Lib.hid (F.out.alloc (.cells (#[.int .i64 (s : Int), .int .i64 (idx c1 k s)]) 43))
          have Gp := G
          replace G := Lib.hid (G.out.alloc (.cells (#[.int .i64 (s : Int), .int .i64 (idx c1 k s)]) 43))
          have Kp := K
          replace K := Lib.hid (K.out.alloc (.cells (#[.int .i64 (s : Int), .int .i64 (idx c1 k s)]) 43))
          have Pp := P
          replace P := Lib.hid (P.out.alloc (.cells (#[.int .i64 (s : Int), .int .i64 (idx c1 k s)]) 43))
          obtain ⟨gp2, hg⟩ : ∃ g, g = w11.heap.size := ⟨_, rfl⟩
          have hgs : gp2 = w11.heap.size := by rw [hg]
          have b_gp2 : w.heap.size ≤ gp2 := by rw [hgs]; exact HBp.out.size
          have S_w12 := Lib.hid (show (w11.alloc (.cells (#[.int .i64 (s : Int), .int .i64 (idx c1 k s)]) 43)).heap.size = gp2 + 1 by rw [World.size_alloc, hgs])
          rw [← hg] at P2
          try rw [← hg]
          have ne_C_P2 : gc ≠ gp2 := by have := Cp.out.lt; omega
          have ne_P2_C : gp2 ≠ gc := fun h => ne_C_P2 h.symm
          have ne_D_P2 : gd ≠ gp2 := by have := Dp.out.lt; omega
          have ne_P2_D : gp2 ≠ gd := fun h => ne_D_P2 h.symm
          have ne_F_P2 : gf ≠ gp2 := by have := Fp.out.lt; omega
          have ne_P2_F : gp2 ≠ gf := fun h => ne_F_P2 h.symm
          have ne_G_P2 : gg ≠ gp2 := by have := Gp.out.lt; omega
          have ne_P2_G : gp2 ≠ gg := fun h => ne_G_P2 h.symm
          have ne_K_P2 : gk ≠ gp2 := by have := Kp.out.lt; omega
          have ne_P2_K : gp2 ≠ gk := fun h => ne_K_P2 h.symm
          have ne_P_P2 : gp ≠ gp2 := by have := Pp.out.lt; omega
          have ne_P2_P : gp2 ≠ gp := fun h => ne_P_P2 h.symm
          clear hg hgs HBp Cp Dp Fp Gp Kp Pp
          replace P2 := Lib.hid P2
          generalize w11.alloc (.cells (#[.int .i64 (s : Int), .int .i64 (idx c1 k s)]) 43) = w12 at *
          clear P P2
          go_roundw
          case rel => exact ⟨s + 1, by omega, by go_num, C.out, D.out, F.out, G.out, K.out, HB.out⟩
          case measure => simp [intOf]; omega
          
        · obtain rfl : s = 2 := by omega
          have r_C := C.out.row
          have o_C := C.out.open
          have l_C := C.out.lt
          have c_C := C.out.cell
          have z_C := C.out.frozen
          have r_D := D.out.row
          have o_D := D.out.open
          have l_D := D.out.lt
          have c_D := D.out.cell
          have z_D := D.out.frozen
          have r_F := F.out.row
          have o_F := F.out.open
          have l_F := F.out.lt
          have c_F := F.out.cell
          have z_F := F.out.frozen
          have r_G := G.out.row
          have o_G := G.out.open
          have l_G := G.out.lt
          have c_G := G.out.cell
          have z_G := G.out.frozen
          have r_K := K.out.row
          have o_K := K.out.open
          have l_K := K.out.lt
          have c_K := K.out.cell
          have z_K := K.out.frozen
          go_wp2_with fail
          clear r_C o_C l_C c_C z_C r_D o_D l_D c_D z_D r_F o_F l_F c_F z_F r_G o_G l_G c_G z_G r_K o_K l_K c_K z_K
          have r_C := C.out.row
          have o_C := C.out.open
          have l_C := C.out.lt
          have c_C := C.out.cell
          have z_C := C.out.frozen
          have r_D := D.out.row
          have o_D := D.out.open
          have l_D := D.out.lt
          have c_D := D.out.cell
          have z_D := D.out.frozen
          have r_F := F.out.row
          have o_F := F.out.open
          have l_F := F.out.lt
          have c_F := F.out.cell
          have z_F := F.out.frozen
          have r_G := G.out.row
          have o_G := G.out.open
          have l_G := G.out.lt
          have c_G := G.out.cell
          have z_G := G.out.frozen
          have r_K := K.out.row
          have o_K := K.out.open
          have l_K := K.out.lt
          have c_K := K.out.cell
          have z_K := K.out.frozen
          refine region_sq (fun _ => False) [(0, true), (1, true), (3, true), (4, true), (2, false), (5, false), (6, true), (7, true), (8, true), (9, true), (10, true), (12, true), (13, true), (11, false), (14, false), (15, false), (16, true), (17, true), (18, true), (19, true), (21, true), (22, true), (20, false), (23, false), (24, true), (25, true), (26, true), (27, false), (28, true), (29, true)] (by kernel_rfl) (by kernel_rfl) (fun _ _ d _ _ h => by cases d <;> exact h) ?_
          repeat (first
            | (refine sq_yes rfl (by rfl) (fun w' hM => by ((try replace hM := hM.of_drew); obtain ⟨hR1, hR2, hR3⟩ := hM.rules; clear hM; go_simp; with_reducible rfl)) ?_; simp only [Act.put, List.setIfInBounds_toArray, List.set_cons_zero, List.set_cons_succ])
            | (refine sq_no rfl (by rfl) ?_; simp only [Act.put, List.setIfInBounds_toArray, List.set_cons_zero, List.set_cons_succ]))
          clear r_C o_C l_C c_C z_C r_D o_D l_D c_D z_D r_F o_F l_F c_F z_F r_G o_G l_G c_G z_G r_K o_K l_K c_K z_K
          replace C := Lib.hid C.out.drew
          replace D := Lib.hid D.out.drew
          replace F := Lib.hid F.out.drew
          replace G := Lib.hid G.out.drew
          replace K := Lib.hid K.out.drew
          replace HB := Lib.hid HB.out.drew
          generalize wr.drew = w13 at *
          refine sq_do_yes rfl (by rfl) (fun K_ hK_ => ?_)
          go_wp2_with fail
          refine (digest_any gf c1 k _ F.out dg1.1 dg1.2).mono ?_
          rintro e w14 ⟨rfl, hb⟩
          have hbs : Below w13.heap.size w13 w14 := step_below (by first | exact Below.refl _ _ | exact (Below.refl _ _).drew | exact (Below.refl _ _).alloc (Nat.le_refl _) _ | exact ((Below.refl _ _).alloc (Nat.le_refl _) _).drew | exact ((Below.refl _ _).drew).alloc (Nat.le_refl _) _ | exact ((Below.refl _ _).alloc (Nat.le_refl _) _).alloc (by simp) _ | exact (((Below.refl _ _).alloc (Nat.le_refl _) _).alloc (by simp) _).drew | exact (((Below.refl _ _).alloc (Nat.le_refl _) _).alloc (by simp) _).alloc (by simp; omega) _) hb
          replace HB := Lib.hid (step_below HB.out hbs)
          replace C := Lib.hid (C.out.below hbs C.out.lt)
          replace D := Lib.hid (D.out.below hbs D.out.lt)
          replace F := Lib.hid (F.out.below hbs F.out.lt)
          replace G := Lib.hid (G.out.below hbs G.out.lt)
          replace K := Lib.hid (K.out.below hbs K.out.lt)
          clear hbs
          go_wp2_with fail
          refine ⟨Mod.of_below hb, ?_⟩
          clear hb
          have r_C := C.out.row
          have o_C := C.out.open
          have l_C := C.out.lt
          have c_C := C.out.cell
          have z_C := C.out.frozen
          have r_D := D.out.row
          have o_D := D.out.open
          have l_D := D.out.lt
          have c_D := D.out.cell
          have z_D := D.out.frozen
          have r_F := F.out.row
          have o_F := F.out.open
          have l_F := F.out.lt
          have c_F := F.out.cell
          have z_F := F.out.frozen
          have r_G := G.out.row
          have o_G := G.out.open
          have l_G := G.out.lt
          have c_G := G.out.cell
          have z_G := G.out.frozen
          have r_K := K.out.row
          have o_K := K.out.open
          have l_K := K.out.lt
          have c_K := K.out.cell
          have z_K := K.out.frozen
          repeat (first
            | (refine sq_yes rfl (by rfl) (fun w' hM => by ((try replace hM := hM.of_drew); obtain ⟨hR1, hR2, hR3⟩ := hM.rules; clear hM; go_simp; with_reducible rfl)) ?_; simp only [Act.put, List.setIfInBounds_toArray, List.set_cons_zero, List.set_cons_succ])
            | (refine sq_no rfl (by rfl) ?_; simp only [Act.put, List.setIfInBounds_toArray, List.set_cons_zero, List.set_cons_succ]))
          clear r_C o_C l_C c_C z_C r_D o_D l_D c_D z_D r_F o_F l_F c_F z_F r_G o_G l_G c_G z_G r_K o_K l_K c_K z_K
          refine sq_do_yes rfl (by rfl) (fun K_ hK_ => ?_)
          go_wp2_with fail
          refine (digest_any gg d k _ G.out dg2.1 dg2.2).mono ?_
          rintro e w15 ⟨rfl, hb⟩
          have hbs : Below w14.heap.size w14 w15 := step_below (by first | exact Below.refl _ _ | exact (Below.refl _ _).drew | exact (Below.refl _ _).alloc (Nat.le_refl _) _ | exact ((Below.refl _ _).alloc (Nat.le_refl _) _).drew | exact ((Below.refl _ _).drew).alloc (Nat.le_refl _) _ | exact ((Below.refl _ _).alloc (Nat.le_refl _) _).alloc (by simp) _ | exact (((Below.refl _ _).alloc (Nat.le_refl _) _).alloc (by simp) _).drew | exact (((Below.refl _ _).alloc (Nat.le_refl _) _).alloc (by simp) _).alloc (by simp; omega) _) hb
          replace HB := Lib.hid (step_below HB.out hbs)
          replace C := Lib.hid (C.out.below hbs C.out.lt)
          replace D := Lib.hid (D.out.below hbs D.out.lt)
          replace F := Lib.hid (F.out.below hbs F.out.lt)
          replace G := Lib.hid (G.out.below hbs G.out.lt)
          replace K := Lib.hid (K.out.below hbs K.out.lt)
          clear hbs
          go_wp2_with fail
          refine ⟨Mod.of_below hb, ?_⟩
          clear hb
          have r_C := C.out.row
          have o_C := C.out.open
          have l_C := C.out.lt
          have c_C := C.out.cell
          have z_C := C.out.frozen
          have r_D := D.out.row
          have o_D := D.out.open
          have l_D := D.out.lt
          have c_D := D.out.cell
          have z_D := D.out.frozen
          have r_F := F.out.row
          have o_F := F.out.open
          have l_F := F.out.lt
          have c_F := F.out.cell
          have z_F := F.out.frozen
          have r_G := G.out.row
          have o_G := G.out.open
          have l_G := G.out.lt
          have c_G := G.out.cell
          have z_G := G.out.frozen
          have r_K := K.out.row
          have o_K := K.out.open
          have l_K := K.out.lt
          have c_K := K.out.cell
          have z_K := K.out.frozen
          repeat (first
            | (refine sq_yes rfl (by rfl) (fun w' hM => by ((try replace hM := hM.of_drew); obtain ⟨hR1, hR2, hR3⟩ := hM.rules; clear hM; go_simp; with_reducible rfl)) ?_; simp only [Act.put, List.setIfInBounds_toArray, List.set_cons_zero, List.set_cons_succ])
            | (refine sq_no rfl (by rfl) ?_; simp only [Act.put, List.setIfInBounds_toArray, List.set_cons_zero, List.set_cons_succ]))
          clear r_C o_C l_C c_C z_C r_D o_D l_D c_D z_D r_F o_F l_F c_F z_F r_G o_G l_G c_G z_G r_K o_K l_K c_K z_K
          refine sq_do_yes rfl (by rfl) (fun K_ hK_ => ?_)
          go_wp2_with fail
          refine (bits_any gf c1 k _ F.out e5.1 e5.2 e7).mono ?_
          rintro e w16 ⟨v, rfl, ho, hb⟩
          have hbs : Below w15.heap.size w15 w16 := step_below (by first | exact Below.refl _ _ | exact (Below.refl _ _).drew | exact (Below.refl _ _).alloc (Nat.le_refl _) _ | exact ((Below.refl _ _).alloc (Nat.le_refl _) _).drew | exact ((Below.refl _ _).drew).alloc (Nat.le_refl _) _ | exact ((Below.refl _ _).alloc (Nat.le_refl _) _).alloc (by simp) _ | exact (((Below.refl _ _).alloc (Nat.le_refl _) _).alloc (by simp) _).drew | exact (((Below.refl _ _).alloc (Nat.le_refl _) _).alloc (by simp) _).alloc (by simp; omega) _) hb
          replace HB := Lib.hid (step_below HB.out hbs)
          replace C := Lib.hid (C.out.below hbs C.out.lt)
          replace D := Lib.hid (D.out.below hbs D.out.lt)
          replace F := Lib.hid (F.out.below hbs F.out.lt)
          replace G := Lib.hid (G.out.below hbs G.out.lt)
          replace K := Lib.hid (K.out.below hbs K.out.lt)
          clear hbs
          obtain ⟨b1, m1, q1, rfl, hm1, hy1, _⟩ := ho.parts
          have Y1 := Lib.hid hy1
          rw [bitsOf_length c1 k KV.out] at hm1
          have M1 : m1 ≤ 1000000 := by omega
          clear hm1
          clear ho hy1
          go_wp2_with fail
          refine ⟨Mod.of_below hb, ?_⟩
          clear hb
          have r_C := C.out.row
          have o_C := C.out.open
          have l_C := C.out.lt
          have c_C := C.out.cell
          have z_C := C.out.frozen
          have r_D := D.out.row
          have o_D := D.out.open
          have l_D := D.out.lt
          have c_D := D.out.cell
          have z_D := D.out.frozen
          have r_F := F.out.row
          have o_F := F.out.open
          have l_F := F.out.lt
          have c_F := F.out.cell
          have z_F := F.out.frozen
          have r_G := G.out.row
          have o_G := G.out.open
          have l_G := G.out.lt
          have c_G := G.out.cell
          have z_G := G.out.frozen
          have r_K := K.out.row
          have o_K := K.out.open
          have l_K := K.out.lt
          have c_K := K.out.cell
          have z_K := K.out.frozen
          repeat (first
            | (refine sq_yes rfl (by rfl) (fun w' hM => by ((try replace hM := hM.of_drew); obtain ⟨hR1, hR2, hR3⟩ := hM.rules; clear hM; go_simp; with_reducible rfl)) ?_; simp only [Act.put, List.setIfInBounds_toArray, List.set_cons_zero, List.set_cons_succ])
            | (refine sq_no rfl (by rfl) ?_; simp only [Act.put, List.setIfInBounds_toArray, List.set_cons_zero, List.set_cons_succ]))
          clear r_C o_C l_C c_C z_C r_D o_D l_D c_D z_D r_F o_F l_F c_F z_F r_G o_G l_G c_G z_G r_K o_K l_K c_K z_K
          refine sq_do_yes rfl (by rfl) (fun K_ hK_ => ?_)
          go_wp2_with fail
          refine (bits_any gg d k _ G.out e6.1 e6.2 e8).mono ?_
          rintro e w17 ⟨v, rfl, ho, hb⟩
          have hbs : Below w16.heap.size w16 w17 := step_below (by first | exact Below.refl _ _ | exact (Below.refl _ _).drew | exact (Below.refl _ _).alloc (Nat.le_refl _) _ | exact ((Below.refl _ _).alloc (Nat.le_refl _) _).drew | exact ((Below.refl _ _).drew).alloc (Nat.le_refl _) _ | exact ((Below.refl _ _).alloc (Nat.le_refl _) _).alloc (by simp) _ | exact (((Below.refl _ _).alloc (Nat.le_refl _) _).alloc (by simp) _).drew | exact (((Below.refl _ _).alloc (Nat.le_refl _) _).alloc (by simp) _).alloc (by simp; omega) _) hb
          replace HB := Lib.hid (step_below HB.out hbs)
          replace C := Lib.hid (C.out.below hbs C.out.lt)
          replace D := Lib.hid (D.out.below hbs D.out.lt)
          replace F := Lib.hid (F.out.below hbs F.out.lt)
          replace G := Lib.hid (G.out.below hbs G.out.lt)
          replace K := Lib.hid (K.out.below hbs K.out.lt)
          replace Y1 := Lib.hid (Y1.out.below hbs)
          clear hbs
          obtain ⟨b2, m2, q2, rfl, hm2, hy2, _⟩ := ho.parts
          have Y2 := Lib.hid hy2
          rw [bitsOf_length d k KV.out] at hm2
          have M2 : m2 ≤ 1000000 := by omega
          clear hm2
          clear ho hy2
          go_wp2_with fail
          refine ⟨Mod.of_below hb, ?_⟩
          clear hb
          have r_C := C.out.row
          have o_C := C.out.open
          have l_C := C.out.lt
          have c_C := C.out.cell
          have z_C := C.out.frozen
          have r_D := D.out.row
          have o_D := D.out.open
          have l_D := D.out.lt
          have c_D := D.out.cell
          have z_D := D.out.frozen
          have r_F := F.out.row
          have o_F := F.out.open
          have l_F := F.out.lt
          have c_F := F.out.cell
          have z_F := F.out.frozen
          have r_G := G.out.row
          have o_G := G.out.open
          have l_G := G.out.lt
          have c_G := G.out.cell
          have z_G := G.out.frozen
          have r_K := K.out.row
          have o_K := K.out.open
          have l_K := K.out.lt
          have c_K := K.out.cell
          have z_K := K.out.frozen
          repeat (first
            | (refine sq_yes rfl (by rfl) (fun w' hM => by ((try replace hM := hM.of_drew); obtain ⟨hR1, hR2, hR3⟩ := hM.rules; clear hM; go_simp; with_reducible rfl)) ?_; simp only [Act.put, List.setIfInBounds_toArray, List.set_cons_zero, List.set_cons_succ])
            | (refine sq_no rfl (by rfl) ?_; simp only [Act.put, List.setIfInBounds_toArray, List.set_cons_zero, List.set_cons_succ]))
          clear r_C o_C l_C c_C z_C r_D o_D l_D c_D z_D r_F o_F l_F c_F z_F r_G o_G l_G c_G z_G r_K o_K l_K c_K z_K
          refine sq_do_yes rfl (by rfl) (fun K_ hK_ => ?_)
          go_wp2_with fail
          refine (ints_any b1 m1 q1 _ b2 m2 q2 _ _ Y1.out Y2.out M1 M2).mono ?_
          rintro e w18 ⟨rfl, hb⟩
          have hbs : Below w17.heap.size w17 w18 := step_below (by first | exact Below.refl _ _ | exact (Below.refl _ _).drew | exact (Below.refl _ _).alloc (Nat.le_refl _) _ | exact ((Below.refl _ _).alloc (Nat.le_refl _) _).drew | exact ((Below.refl _ _).drew).alloc (Nat.le_refl _) _ | exact ((Below.refl _ _).alloc (Nat.le_refl _) _).alloc (by simp) _ | exact (((Below.refl _ _).alloc (Nat.le_refl _) _).alloc (by simp) _).drew | exact (((Below.refl _ _).alloc (Nat.le_refl _) _).alloc (by simp) _).alloc (by simp; omega) _) hb
          replace HB := Lib.hid (step_below HB.out hbs)
          replace C := Lib.hid (C.out.below hbs C.out.lt)
          replace D := Lib.hid (D.out.below hbs D.out.lt)
          replace F := Lib.hid (F.out.below hbs F.out.lt)
          replace G := Lib.hid (G.out.below hbs G.out.lt)
          replace K := Lib.hid (K.out.below hbs K.out.lt)
          replace Y1 := Lib.hid (Y1.out.below hbs)
          replace Y2 := Lib.hid (Y2.out.below hbs)
          clear hbs
          rw [BE.out]
          go_wp2_with fail
          refine ⟨Mod.of_below hb, ?_⟩
          clear hb
          have r_C := C.out.row
          have o_C := C.out.open
          have l_C := C.out.lt
          have c_C := C.out.cell
          have z_C := C.out.frozen
          have r_D := D.out.row
          have o_D := D.out.open
          have l_D := D.out.lt
          have c_D := D.out.cell
          have z_D := D.out.frozen
          have r_F := F.out.row
          have o_F := F.out.open
          have l_F := F.out.lt
          have c_F := F.out.cell
          have z_F := F.out.frozen
          have r_G := G.out.row
          have o_G := G.out.open
          have l_G := G.out.lt
          have c_G := G.out.cell
          have z_G := G.out.frozen
          have r_K := K.out.row
          have o_K := K.out.open
          have l_K := K.out.lt
          have c_K := K.out.cell
          have z_K := K.out.frozen
          repeat (first
            | (refine sq_yes rfl (by rfl) (fun w' hM => by ((try replace hM := hM.of_drew); obtain ⟨hR1, hR2, hR3⟩ := hM.rules; clear hM; go_simp; with_reducible rfl)) ?_; simp only [Act.put, List.setIfInBounds_toArray, List.set_cons_zero, List.set_cons_succ])
            | (refine sq_no rfl (by rfl) ?_; simp only [Act.put, List.setIfInBounds_toArray, List.set_cons_zero, List.set_cons_succ]))
          clear r_C o_C l_C c_C z_C r_D o_D l_D c_D z_D r_F o_F l_F c_F z_F r_G o_G l_G c_G z_G r_K o_K l_K c_K z_K
          refine sq_do_yes rfl (by rfl) (fun K_ hK_ => ?_)
          go_wp2_with fail
          refine (slot_any gf c1 k 17 _ F.out).mono ?_
          rintro e w19 ⟨rfl, hb⟩
          have hbs : Below w18.heap.size w18 w19 := step_below (by first | exact Below.refl _ _ | exact (Below.refl _ _).drew | exact (Below.refl _ _).alloc (Nat.le_refl _) _ | exact ((Below.refl _ _).alloc (Nat.le_refl _) _).drew | exact ((Below.refl _ _).drew).alloc (Nat.le_refl _) _ | exact ((Below.refl _ _).alloc (Nat.le_refl _) _).alloc (by simp) _ | exact (((Below.refl _ _).alloc (Nat.le_refl _) _).alloc (by simp) _).drew | exact (((Below.refl _ _).alloc (Nat.le_refl _) _).alloc (by simp) _).alloc (by simp; omega) _) hb
          replace HB := Lib.hid (step_below HB.out hbs)
          replace C := Lib.hid (C.out.below hbs C.out.lt)
          replace D := Lib.hid (D.out.below hbs D.out.lt)
          replace F := Lib.hid (F.out.below hbs F.out.lt)
          replace G := Lib.hid (G.out.below hbs G.out.lt)
          replace K := Lib.hid (K.out.below hbs K.out.lt)
          replace Y1 := Lib.hid (Y1.out.below hbs)
          replace Y2 := Lib.hid (Y2.out.below hbs)
          clear hbs
          go_wp2_with fail
          refine ⟨Mod.of_below hb, ?_⟩
          clear hb
          have r_C := C.out.row
          have o_C := C.out.open
          have l_C := C.out.lt
          have c_C := C.out.cell
          have z_C := C.out.frozen
          have r_D := D.out.row
          have o_D := D.out.open
          have l_D := D.out.lt
          have c_D := D.out.cell
          have z_D := D.out.frozen
          have r_F := F.out.row
          have o_F := F.out.open
          have l_F := F.out.lt
          have c_F := F.out.cell
          have z_F := F.out.frozen
          have r_G := G.out.row
          have o_G := G.out.open
          have l_G := G.out.lt
          have c_G := G.out.cell
          have z_G := G.out.frozen
          have r_K := K.out.row
          have o_K := K.out.open
          have l_K := K.out.lt
          have c_K := K.out.cell
          have z_K := K.out.frozen
          repeat (first
            | (refine sq_yes rfl (by rfl) (fun w' hM => by ((try replace hM := hM.of_drew); obtain ⟨hR1, hR2, hR3⟩ := hM.rules; clear hM; go_simp; with_reducible rfl)) ?_; simp only [Act.put, List.setIfInBounds_toArray, List.set_cons_zero, List.set_cons_succ])
            | (refine sq_no rfl (by rfl) ?_; simp only [Act.put, List.setIfInBounds_toArray, List.set_cons_zero, List.set_cons_succ]))
          clear r_C o_C l_C c_C z_C r_D o_D l_D c_D z_D r_F o_F l_F c_F z_F r_G o_G l_G c_G z_G r_K o_K l_K c_K z_K
          refine sq_do_yes rfl (by rfl) (fun K_ hK_ => ?_)
          go_wp2_with fail
          refine (slot_any gg d k 17 _ G.out).mono ?_
          rintro e w20 ⟨rfl, hb⟩
          have hbs : Below w19.heap.size w19 w20 := step_below (by first | exact Below.refl _ _ | exact (Below.refl _ _).drew | exact (Below.refl _ _).alloc (Nat.le_refl _) _ | exact ((Below.refl _ _).alloc (Nat.le_refl _) _).drew | exact ((Below.refl _ _).drew).alloc (Nat.le_refl _) _ | exact ((Below.refl _ _).alloc (Nat.le_refl _) _).alloc (by simp) _ | exact (((Below.refl _ _).alloc (Nat.le_refl _) _).alloc (by simp) _).drew | exact (((Below.refl _ _).alloc (Nat.le_refl _) _).alloc (by simp) _).alloc (by simp; omega) _) hb
          replace HB := Lib.hid (step_below HB.out hbs)
          replace C := Lib.hid (C.out.below hbs C.out.lt)
          replace D := Lib.hid (D.out.below hbs D.out.lt)
          replace F := Lib.hid (F.out.below hbs F.out.lt)
          replace G := Lib.hid (G.out.below hbs G.out.lt)
          replace K := Lib.hid (K.out.below hbs K.out.lt)
          replace Y1 := Lib.hid (Y1.out.below hbs)
          replace Y2 := Lib.hid (Y2.out.below hbs)
          clear hbs
          rw [SE.out]
          go_wp2_with fail
          refine ⟨Mod.of_below hb, ?_⟩
          clear hb
          have r_C := C.out.row
          have o_C := C.out.open
          have l_C := C.out.lt
          have c_C := C.out.cell
          have z_C := C.out.frozen
          have r_D := D.out.row
          have o_D := D.out.open
          have l_D := D.out.lt
          have c_D := D.out.cell
          have z_D := D.out.frozen
          have r_F := F.out.row
          have o_F := F.out.open
          have l_F := F.out.lt
          have c_F := F.out.cell
          have z_F := F.out.frozen
          have r_G := G.out.row
          have o_G := G.out.open
          have l_G := G.out.lt
          have c_G := G.out.cell
          have z_G := G.out.frozen
          have r_K := K.out.row
          have o_K := K.out.open
          have l_K := K.out.lt
          have c_K := K.out.cell
          have z_K := K.out.frozen
          repeat (first
            | (refine sq_yes rfl (by rfl) (fun w' hM => by ((try replace hM := hM.of_drew); obtain ⟨hR1, hR2, hR3⟩ := hM.rules; clear hM; go_simp; with_reducible rfl)) ?_; simp only [Act.put, List.setIfInBounds_toArray, List.set_cons_zero, List.set_cons_succ])
            | (refine sq_no rfl (by rfl) ?_; simp only [Act.put, List.setIfInBounds_toArray, List.set_cons_zero, List.set_cons_succ]))
          clear r_C o_C l_C c_C z_C r_D o_D l_D c_D z_D r_F o_F l_F c_F z_F r_G o_G l_G c_G z_G r_K o_K l_K c_K z_K
          refine sq_do_yes rfl (by rfl) (fun K_ hK_ => ?_)
          go_wp2_with fail
          refine (awake_any _).mono ?_
          rintro e w21 ⟨rfl, hb⟩
          have hbs : Below w20.heap.size w20 w21 := step_below (by first | exact Below.refl _ _ | exact (Below.refl _ _).drew | exact (Below.refl _ _).alloc (Nat.le_refl _) _ | exact ((Below.refl _ _).alloc (Nat.le_refl _) _).drew | exact ((Below.refl _ _).drew).alloc (Nat.le_refl _) _ | exact ((Below.refl _ _).alloc (Nat.le_refl _) _).alloc (by simp) _ | exact (((Below.refl _ _).alloc (Nat.le_refl _) _).alloc (by simp) _).drew | exact (((Below.refl _ _).alloc (Nat.le_refl _) _).alloc (by simp) _).alloc (by simp; omega) _) hb
          replace HB := Lib.hid (step_below HB.out hbs)
          replace C := Lib.hid (C.out.below hbs C.out.lt)
          replace D := Lib.hid (D.out.below hbs D.out.lt)
          replace F := Lib.hid (F.out.below hbs F.out.lt)
          replace G := Lib.hid (G.out.below hbs G.out.lt)
          replace K := Lib.hid (K.out.below hbs K.out.lt)
          replace Y1 := Lib.hid (Y1.out.below hbs)
          replace Y2 := Lib.hid (Y2.out.below hbs)
          clear hbs
          go_wp2_with fail
          refine ⟨Mod.of_below hb, ?_⟩
          clear hb
          have r_C := C.out.row
          have o_C := C.out.open
          have l_C := C.out.lt
          have c_C := C.out.cell
          have z_C := C.out.frozen
          have r_D := D.out.row
          have o_D := D.out.open
          have l_D := D.out.lt
          have c_D := D.out.cell
          have z_D := D.out.frozen
          have r_F := F.out.row
          have o_F := F.out.open
          have l_F := F.out.lt
          have c_F := F.out.cell
          have z_F := F.out.frozen
          have r_G := G.out.row
          have o_G := G.out.open
          have l_G := G.out.lt
          have c_G := G.out.cell
          have z_G := G.out.frozen
          have r_K := K.out.row
          have o_K := K.out.open
          have l_K := K.out.lt
          have c_K := K.out.cell
          have z_K := K.out.frozen
          repeat (first
            | (refine sq_yes rfl (by rfl) (fun w' hM => by ((try replace hM := hM.of_drew); obtain ⟨hR1, hR2, hR3⟩ := hM.rules; clear hM; go_simp; with_reducible rfl)) ?_; simp only [Act.put, List.setIfInBounds_toArray, List.set_cons_zero, List.set_cons_succ])
            | (refine sq_no rfl (by rfl) ?_; simp only [Act.put, List.setIfInBounds_toArray, List.set_cons_zero, List.set_cons_succ]))
          clear r_C o_C l_C c_C z_C r_D o_D l_D c_D z_D r_F o_F l_F c_F z_F r_G o_G l_G c_G z_G r_K o_K l_K c_K z_K
          refine sq_end ?_
          go_wp2_with fail
          go_ret
          exact ⟨rfl, HB.out⟩
      
    · go_enter Try.func4, Try.ntmps4
      have HB := Lib.hid (Below.refl w.heap.size w)
      go_wp2_with fail
      refine (KC.out _ HI.out).mono ?_
      rintro e w1 ⟨rfl, hb⟩
      have hbs : Below w.heap.size w w1 := step_below (by first | exact Below.refl _ _ | exact (Below.refl _ _).drew | exact (Below.refl _ _).alloc (Nat.le_refl _) _ | exact ((Below.refl _ _).alloc (Nat.le_refl _) _).drew | exact ((Below.refl _ _).drew).alloc (Nat.le_refl _) _ | exact ((Below.refl _ _).alloc (Nat.le_refl _) _).alloc (by simp) _ | exact (((Below.refl _ _).alloc (Nat.le_refl _) _).alloc (by simp) _).drew | exact (((Below.refl _ _).alloc (Nat.le_refl _) _).alloc (by simp) _).alloc (by simp; omega) _) hb
      replace HB := Lib.hid (step_below HB.out hbs)
      clear hbs
      clear hb
      go_wp2_with fail
      have HBp := HB
      have C := at_new w1 29 (cc c1) (w1.heap.size) rfl
      replace HB := Lib.hid (HB.out.alloc HB.out.size (.cells (cc c1) 29))
      obtain ⟨gc, hg⟩ : ∃ g, g = w1.heap.size := ⟨_, rfl⟩
      have hgs : gc = w1.heap.size := by rw [hg]
      have b_gc : w.heap.size ≤ gc := by rw [hgs]; exact HBp.out.size
      have S_w2 := Lib.hid (show (w1.alloc (.cells (cc c1) 29)).heap.size = gc + 1 by rw [World.size_alloc, hgs])
      rw [← hg] at C
      try rw [← hg]
      clear hg hgs HBp
      replace C := Lib.hid C
      generalize w1.alloc (.cells (cc c1) 29) = w2 at *
      have HBp := HB
      have D := at_new w2 29 (cc c1) (gc + 1) (S_w2.out.symm)
      replace HB := Lib.hid (HB.out.alloc HB.out.size (.cells (cc c1) 29))
      have Cp := C
      replace C := Lib.hid (C.out.alloc (.cells (cc c1) 29))
      obtain ⟨gd, hg⟩ : ∃ g, g = gc + 1 := ⟨_, rfl⟩
      have hgs : gd = w2.heap.size := by rw [hg, S_w2.out]
      have b_gd : w.heap.size ≤ gd := by rw [hgs]; exact HBp.out.size
      have S_w3 := Lib.hid (show (w2.alloc (.cells (cc c1) 29)).heap.size = gd + 1 by rw [World.size_alloc, hgs])
      rw [← hg] at D
      try rw [← hg]
      have ne_C_D : gc ≠ gd := by have := Cp.out.lt; omega
      have ne_D_C : gd ≠ gc := fun h => ne_C_D h.symm
      clear hg hgs HBp Cp
      replace D := Lib.hid D
      generalize w2.alloc (.cells (cc c1) 29) = w3 at *
      refine (round_big a3 5 (by omega) (by omega) _).mono ?_
      rintro e w_ ⟨rfl, hw_⟩
      obtain rfl := hw_.symm
      clear hw_
      rw [HR.out]
      obtain ⟨d, hd⟩ : ∃ x, x = ({ c1 with encap := true, own6 := adrE } : Cf) := ⟨_, rfl⟩
      have hds := alone_set3 c1
      rw [← hd] at hds
      have OKD := Lib.hid (show cok d = true by rw [hd]; exact alone_cok3 c1 OK1.out Q6.out)
      have Q := Lib.hid (show (d.seed = c1.seed ∧ d.size = c1.size ∧ d.bloom = c1.bloom ∧ d.hashes = c1.hashes) ∧ 2 ≤ d.stages ∧ (d.digest = 8 ∨ d.digest = 16) by rw [hd]; simp [Q1.out])
      clear hd
      have hbE := build26e
      have hb24 := build24e
      have hsE := store_at (P := Try.prog) _ gd 30 29 _ (ac adrE) (D.out.set 12 (.bool true)) (by rw [Array.size_setIfInBounds, cc_size, ac_size]; decide) (ac_one _)
      have hD_ := (At.setCells (ac adrE).toList 30 _ _ (D.out.set 12 (.bool true)))
      rw [hds] at hD_ ; clear hds
      have hHB_ := ((HB.out.setCell (p := ⟨gd, 12, none⟩) b_gd (.bool true)).trans (mod_below (Mod.setCells (M := fun i => i = gd) rfl (ac adrE).toList 30 _) (HB.out.setCell (p := ⟨gd, 12, none⟩) b_gd (.bool true)).size (fun i hi => by rw [hi]; exact b_gd)))
      have fC_ := ((C.out.far (p := ⟨gd, 12, none⟩) ne_C_D (.bool true)).mod (Mod.setCells (M := fun i => i = gd) rfl (ac adrE).toList 30 _) ne_C_D)
      have r_D2 := hD_.row
      have o_D2 := hD_.open
      have r_C2 := fC_.row
      have o_C2 := fC_.open
      have HH_ := Lib.hid (And.intro hD_ hHB_)
      have HfC_ := Lib.hid fC_
      clear hD_ hHB_ fC_
      have r_C := C.out.row
      have o_C := C.out.open
      have l_C := C.out.lt
      have c_C := C.out.cell
      have z_C := C.out.frozen
      have r_D := D.out.row
      have o_D := D.out.open
      have l_D := D.out.lt
      have c_D := D.out.cell
      have z_D := D.out.frozen
      go_wp2_with fail
      clear r_C o_C l_C c_C z_C r_D o_D l_D c_D z_D
      clear r_D2 o_D2 r_C2 o_C2
      replace HB := Lib.hid HH_.out.2
      replace D := Lib.hid HH_.out.1
      replace C := Lib.hid HfC_.out
      clear HH_ HfC_
      generalize (w3.setCell ⟨gd, 12, none⟩ (.bool true)).setCells gd 30 (ac adrE).toList = w4 at *
      have FC := fits_of OK1.out
      have FD := fits_of OKD.out
      have e1 : c1.stages ≤ 4 := FC.st.2
      have e2 : 1 ≤ c1.size := by have := FC.sz.1; omega
      have e3 : d.stages ≤ 4 := FD.st.2
      have e4 : 1 ≤ d.size := by have := FD.sz.1; omega
      have e5 : 0 ≤ c1.hashes ∧ c1.hashes ≤ 80 := by have := FC.ha; omega
      have e6 : 0 ≤ d.hashes ∧ d.hashes ≤ 80 := by have := FD.ha; omega
      have e7 : 1 ≤ c1.bloom := by have := FC.bl; omega
      have e8 : 1 ≤ d.bloom := by have := FD.bl; omega
      have dg1 := FC.dg
      have dg2 := FD.dg
      have hda := alone_dig c1 d k KV.out Q1.out.2 Q.out.2.2 Q.out.1.1
      have BE := Lib.hid (show (bitsOf c1 k == bitsOf d k) = true by rw [alone_bits c1 d k Q.out.1.1 Q.out.1.2.2.1 Q.out.1.2.2.2]; simp)
      have SE := Lib.hid (show slotOf d k 17 = slotOf c1 k 17 by unfold slotOf; rw [Q.out.1.1])
      have hgp := guardP
      have hnp := neqP
      refine (new_ok c1 _ OK1.out).mono ?_
      rintro e w5 ⟨gf, rfl, hgf, hF, hb⟩
      have hbs : Below w4.heap.size w4 w5 := step_below (by first | exact Below.refl _ _ | exact (Below.refl _ _).drew | exact (Below.refl _ _).alloc (Nat.le_refl _) _ | exact ((Below.refl _ _).alloc (Nat.le_refl _) _).drew | exact ((Below.refl _ _).drew).alloc (Nat.le_refl _) _ | exact ((Below.refl _ _).alloc (Nat.le_refl _) _).alloc (by simp) _ | exact (((Below.refl _ _).alloc (Nat.le_refl _) _).alloc (by simp) _).drew | exact (((Below.refl _ _).alloc (Nat.le_refl _) _).alloc (by simp) _).alloc (by simp; omega) _) hb
      replace HB := Lib.hid (step_below HB.out hbs)
      replace C := Lib.hid (C.out.below hbs C.out.lt)
      replace D := Lib.hid (D.out.below hbs D.out.lt)
      clear hbs
      clear hb
      have F := Lib.hid hF
      clear hF hgf
      
      have r_C := C.out.row
      have o_C := C.out.open
      have l_C := C.out.lt
      have c_C := C.out.cell
      have z_C := C.out.frozen
      have r_D := D.out.row
      have o_D := D.out.open
      have l_D := D.out.lt
      have c_D := D.out.cell
      have z_D := D.out.frozen
      have r_F := F.out.row
      have o_F := F.out.open
      have l_F := F.out.lt
      have c_F := F.out.cell
      have z_F := F.out.frozen
      go_wp2_with fail
      clear r_C o_C l_C c_C z_C r_D o_D l_D c_D z_D r_F o_F l_F c_F z_F
      refine (new_ok d _ OKD.out).mono ?_
      rintro e w6 ⟨gg, rfl, hgg, hG, hb⟩
      have hbs : Below w5.heap.size w5 w6 := step_below (by first | exact Below.refl _ _ | exact (Below.refl _ _).drew | exact (Below.refl _ _).alloc (Nat.le_refl _) _ | exact ((Below.refl _ _).alloc (Nat.le_refl _) _).drew | exact ((Below.refl _ _).drew).alloc (Nat.le_refl _) _ | exact ((Below.refl _ _).alloc (Nat.le_refl _) _).alloc (by simp) _ | exact (((Below.refl _ _).alloc (Nat.le_refl _) _).alloc (by simp) _).drew | exact (((Below.refl _ _).alloc (Nat.le_refl _) _).alloc (by simp) _).alloc (by simp; omega) _) hb
      replace HB := Lib.hid (step_below HB.out hbs)
      replace C := Lib.hid (C.out.below hbs C.out.lt)
      replace D := Lib.hid (D.out.below hbs D.out.lt)
      replace F := Lib.hid (F.out.below hbs F.out.lt)
      clear hbs
      clear hb
      have G := Lib.hid hG
      clear hG hgg
      
      have r_C := C.out.row
      have o_C := C.out.open
      have l_C := C.out.lt
      have c_C := C.out.cell
      have z_C := C.out.frozen
      have r_D := D.out.row
      have o_D := D.out.open
      have l_D := D.out.lt
      have c_D := D.out.cell
      have z_D := D.out.frozen
      have r_F := F.out.row
      have o_F := F.out.open
      have l_F := F.out.lt
      have c_F := F.out.cell
      have z_F := F.out.frozen
      have r_G := G.out.row
      have o_G := G.out.open
      have l_G := G.out.lt
      have c_G := G.out.cell
      have z_G := G.out.frozen
      go_wp2_with fail
      clear r_C o_C l_C c_C z_C r_D o_D l_D c_D z_D r_F o_F l_F c_F z_F r_G o_G l_G c_G z_G
      refine (KK.out _).mono ?_
      rintro e w7 ⟨rfl, hb⟩
      have hbs : Below w6.heap.size w6 w7 := step_below (by first | exact Below.refl _ _ | exact (Below.refl _ _).drew | exact (Below.refl _ _).alloc (Nat.le_refl _) _ | exact ((Below.refl _ _).alloc (Nat.le_refl _) _).drew | exact ((Below.refl _ _).drew).alloc (Nat.le_refl _) _ | exact ((Below.refl _ _).alloc (Nat.le_refl _) _).alloc (by simp) _ | exact (((Below.refl _ _).alloc (Nat.le_refl _) _).alloc (by simp) _).drew | exact (((Below.refl _ _).alloc (Nat.le_refl _) _).alloc (by simp) _).alloc (by simp; omega) _) hb
      replace HB := Lib.hid (step_below HB.out hbs)
      replace C := Lib.hid (C.out.below hbs C.out.lt)
      replace D := Lib.hid (D.out.below hbs D.out.lt)
      replace F := Lib.hid (F.out.below hbs F.out.lt)
      replace G := Lib.hid (G.out.below hbs G.out.lt)
      clear hbs
      clear hb
      go_wp2_with fail
      have HBp := HB
      have K := at_new w7 40 (kc k) (w7.heap.size) rfl
      replace HB := Lib.hid (HB.out.alloc HB.out.size (.cells (kc k) 40))
      have Cp := C
      replace C := Lib.hid (C.out.alloc (.cells (kc k) 40))
      have Dp := D
      replace D := Lib.hid (D.out.alloc (.cells (kc k) 40))
      have Fp := F
      replace F := Lib.hid (F.out.alloc (.cells (kc k) 40))
      have Gp := G
      replace G := Lib.hid (G.out.alloc (.cells (kc k) 40))
      obtain ⟨gk, hg⟩ : ∃ g, g = w7.heap.size := ⟨_, rfl⟩
      have hgs : gk = w7.heap.size := by rw [hg]
      have b_gk : w.heap.size ≤ gk := by rw [hgs]; exact HBp.out.size
      have S_w8 := Lib.hid (show (w7.alloc (.cells (kc k) 40)).heap.size = gk + 1 by rw [World.size_alloc, hgs])
      rw [← hg] at K
      try rw [← hg]
      have ne_C_K : gc ≠ gk := by have := Cp.out.lt; omega
      have ne_K_C : gk ≠ gc := fun h => ne_C_K h.symm
      have ne_D_K : gd ≠ gk := by have := Dp.out.lt; omega
      have ne_K_D : gk ≠ gd := fun h => ne_D_K h.symm
      have ne_F_K : gf ≠ gk := by have := Fp.out.lt; omega
      have ne_K_F : gk ≠ gf := fun h => ne_F_K h.symm
      have ne_G_K : gg ≠ gk := by have := Gp.out.lt; omega
      have ne_K_G : gk ≠ gg := fun h => ne_G_K h.symm
      clear hg hgs HBp Cp Dp Fp Gp
      replace K := Lib.hid K
      generalize w7.alloc (.cells (kc k) 40) = w8 at *
      
      go_loopw [16, 17, 18, 19, 20] (fun i wr_ wr2 wr3 wr4 wr => ∃ s : Nat, s ≤ 2 ∧ i = .int .i64 s ∧ At wr gc 29 (cc c1) ∧ At wr gd 29 (cc d) ∧ At wr gf 80 (fc c1) ∧ At wr gg 80 (fc d) ∧ At wr gk 40 (kc k) ∧ Below w.heap.size w wr) (fun i _ _ _ _ _ => 2 - (intOf i).toNat)
      case atStart => exact ⟨0, by omega, rfl, C.out, D.out, F.out, G.out, K.out, HB.out⟩
      case round =>
        obtain ⟨s, hs, rfl, hC_, hD_, hF_, hG_, hK_, hB_⟩ := hrel
        have C := Lib.hid hC_
        have D := Lib.hid hD_
        have F := Lib.hid hF_
        have G := Lib.hid hG_
        have K := Lib.hid hK_
        have HB := Lib.hid hB_
        clear hC_ hD_ hF_ hG_ hK_ hB_
        by_cases hlt : s < 2
        · have P1 := Lib.hid (placeOf_yes c1 k s KV.out (by rw [Q1.out.1]; omega))
          have P2 := Lib.hid (show placeOf d k s = .tuple #[.agg #[.int .i64 s, .int .i64 (idx c1 k s)], .bool true] by rw [placeOf_yes d k s KV.out (by have := Q.out.2.1; omega)]; unfold idx; rw [Q.out.1.1, Q.out.1.2.1])
          
          have r_C := C.out.row
          have o_C := C.out.open
          have l_C := C.out.lt
          have c_C := C.out.cell
          have z_C := C.out.frozen
          have r_D := D.out.row
          have o_D := D.out.open
          have l_D := D.out.lt
          have c_D := D.out.cell
          have z_D := D.out.frozen
          have r_F := F.out.row
          have o_F := F.out.open
          have l_F := F.out.lt
          have c_F := F.out.cell
          have z_F := F.out.frozen
          have r_G := G.out.row
          have o_G := G.out.open
          have l_G := G.out.lt
          have c_G := G.out.cell
          have z_G := G.out.frozen
          have r_K := K.out.row
          have o_K := K.out.open
          have l_K := K.out.lt
          have c_K := K.out.cell
          have z_K := K.out.frozen
          go_wp2_with fail
          clear r_C o_C l_C c_C z_C r_D o_D l_D c_D z_D r_F o_F l_F c_F z_F r_G o_G l_G c_G z_G r_K o_K l_K c_K z_K
          refine (place_any gf c1 k s _ F.out e1 e2).mono ?_
          rintro e w9 ⟨rfl, hb⟩
          have hbs : Below wr.heap.size wr w9 := step_below (by first | exact Below.refl _ _ | exact (Below.refl _ _).drew | exact (Below.refl _ _).alloc (Nat.le_refl _) _ | exact ((Below.refl _ _).alloc (Nat.le_refl _) _).drew | exact ((Below.refl _ _).drew).alloc (Nat.le_refl _) _ | exact ((Below.refl _ _).alloc (Nat.le_refl _) _).alloc (by simp) _ | exact (((Below.refl _ _).alloc (Nat.le_refl _) _).alloc (by simp) _).drew | exact (((Below.refl _ _).alloc (Nat.le_refl _) _).alloc (by simp) _).alloc (by simp; omega) _) hb
          replace HB := Lib.hid (step_below HB.out hbs)
          replace C := Lib.hid (C.out.below hbs C.out.lt)
          replace D := Lib.hid (D.out.below hbs D.out.lt)
          replace F := Lib.hid (F.out.below hbs F.out.lt)
          replace G := Lib.hid (G.out.below hbs G.out.lt)
          replace K := Lib.hid (K.out.below hbs K.out.lt)
          clear hbs
          clear hb
          rw [P1.out]
          have r_C := C.out.row
          have o_C := C.out.open
          have l_C := C.out.lt
          have c_C := C.out.cell
          have z_C := C.out.frozen
          have r_D := D.out.row
          have o_D := D.out.open
          have l_D := D.out.lt
          have c_D := D.out.cell
          have z_D := D.out.frozen
          have r_F := F.out.row
          have o_F := F.out.open
          have l_F := F.out.lt
          have c_F := F.out.cell
          have z_F := F.out.frozen
          have r_G := G.out.row
          have o_G := G.out.open
          have l_G := G.out.lt
          have c_G := G.out.cell
          have z_G := G.out.frozen
          have r_K := K.out.row
          have o_K := K.out.open
          have l_K := K.out.lt
          have c_K := K.out.cell
          have z_K := K.out.frozen
          go_wp2_with fail
          clear r_C o_C l_C c_C z_C r_D o_D l_D c_D z_D r_F o_F l_F c_F z_F r_G o_G l_G c_G z_G r_K o_K l_K c_K z_K
          have HBp := HB
          have P := at_new w9 43 (#[.int .i64 (s : Int), .int .i64 (idx c1 k s)]) (w9.heap.size) rfl
          replace HB := Lib.hid (HB.out.alloc HB.out.size (.cells (#[.int .i64 (s : Int), .int .i64 (idx c1 k s)]) 43))
          have Cp := C
          replace C := Lib.hid (C.out.alloc (.cells (#[.int .i64 (s : Int), .int .i64 (idx c1 k s)]) 43))
          have Dp := D
          replace D := Lib.hid (D.out.alloc (.cells (#[.int .i64 (s : Int), .int .i64 (idx c1 k s)]) 43))
          have Fp := F
          replace F := Lib.hid (F.out.alloc (.cells (#[.int .i64 (s : Int), .int .i64 (idx c1 k s)]) 43))
          have Gp := G
          replace G := Lib.hid (G.out.alloc (.cells (#[.int .i64 (s : Int), .int .i64 (idx c1 k s)]) 43))
          have Kp := K
          replace K := Lib.hid (K.out.alloc (.cells (#[.int .i64 (s : Int), .int .i64 (idx c1 k s)]) 43))
          obtain ⟨gp, hg⟩ : ∃ g, g = w9.heap.size := ⟨_, rfl⟩
          have hgs : gp = w9.heap.size := by rw [hg]
          have b_gp : w.heap.size ≤ gp := by rw [hgs]; exact HBp.out.size
          have S_w10 := Lib.hid (show (w9.alloc (.cells (#[.int .i64 (s : Int), .int .i64 (idx c1 k s)]) 43)).heap.size = gp + 1 by rw [World.size_alloc, hgs])
          rw [← hg] at P
          try rw [← hg]
          have ne_C_P : gc ≠ gp := by have := Cp.out.lt; omega
          have ne_P_C : gp ≠ gc := fun h => ne_C_P h.symm
          have ne_D_P : gd ≠ gp := by have := Dp.out.lt; omega
          have ne_P_D : gp ≠ gd := fun h => ne_D_P h.symm
          have ne_F_P : gf ≠ gp := by have := Fp.out.lt; omega
          have ne_P_F : gp ≠ gf := fun h => ne_F_P h.symm
          have ne_G_P : gg ≠ gp := by have := Gp.out.lt; omega
          have ne_P_G : gp ≠ gg := fun h => ne_G_P h.symm
          have ne_K_P : gk ≠ gp := by have := Kp.out.lt; omega
          have ne_P_K : gp ≠ gk := fun h => ne_K_P h.symm
          clear hg hgs HBp Cp Dp Fp Gp Kp
          replace P := Lib.hid P
          generalize w9.alloc (.cells (#[.int .i64 (s : Int), .int .i64 (idx c1 k s)]) 43) = w10 at *
          refine (place_any gg d k s _ G.out e3 e4).mono ?_
          rintro e w11 ⟨rfl, hb⟩
          have hbs : Below w10.heap.size w10 w11 := step_below (by first | exact Below.refl _ _ | exact (Below.refl _ _).drew | exact (Below.refl _ _).alloc (Nat.le_refl _) _ | exact ((Below.refl _ _).alloc (Nat.le_refl _) _).drew | exact ((Below.refl _ _).drew).alloc (Nat.le_refl _) _ | exact ((Below.refl _ _).alloc (Nat.le_refl _) _).alloc (by simp) _ | exact (((Below.refl _ _).alloc (Nat.le_refl _) _).alloc (by simp) _).drew | exact (((Below.refl _ _).alloc (Nat.le_refl _) _).alloc (by simp) _).alloc (by simp; omega) _) hb
          replace HB := Lib.hid (step_below HB.out hbs)
          replace C := Lib.hid (C.out.below hbs C.out.lt)
          replace D := Lib.hid (D.out.below hbs D.out.lt)
          replace F := Lib.hid (F.out.below hbs F.out.lt)
          replace G := Lib.hid (G.out.below hbs G.out.lt)
          replace K := Lib.hid (K.out.below hbs K.out.lt)
          replace P := Lib.hid (P.out.below hbs P.out.lt)
          clear hbs
          clear hb
          rw [P2.out]
          have r_C := C.out.row
          have o_C := C.out.open
          have l_C := C.out.lt
          have c_C := C.out.cell
          have z_C := C.out.frozen
          have r_D := D.out.row
          have o_D := D.out.open
          have l_D := D.out.lt
          have c_D := D.out.cell
          have z_D := D.out.frozen
          have r_F := F.out.row
          have o_F := F.out.open
          have l_F := F.out.lt
          have c_F := F.out.cell
          have z_F := F.out.frozen
          have r_G := G.out.row
          have o_G := G.out.open
          have l_G := G.out.lt
          have c_G := G.out.cell
          have z_G := G.out.frozen
          have r_K := K.out.row
          have o_K := K.out.open
          have l_K := K.out.lt
          have c_K := K.out.cell
          have z_K := K.out.frozen
          have r_P := P.out.row
          have o_P := P.out.open
          have l_P := P.out.lt
          have c_P := P.out.cell
          have z_P := P.out.frozen
          go_wp2_with fail
          clear r_C o_C l_C c_C z_C r_D o_D l_D c_D z_D r_F o_F l_F c_F z_F r_G o_G l_G c_G z_G r_K o_K l_K c_K z_K r_P o_P l_P c_P z_P
          have HBp := HB
          have P2 := at_new w11 43 (#[.int .i64 (s : Int), .int .i64 (idx c1 k s)]) (w11.heap.size) rfl
          replace HB := Lib.hid (HB.out.alloc HB.out.size (.cells (#[.int .i64 (s : Int), .int .i64 (idx c1 k s)]) 43))
          have Cp := C
          replace C := Lib.hid (C.out.alloc (.cells (#[.int .i64 (s : Int), .int .i64 (idx c1 k s)]) 43))
          have Dp := D
          replace D := Lib.hid (D.out.alloc (.cells (#[.int .i64 (s : Int), .int .i64 (idx c1 k s)]) 43))
          have Fp := F
          replace F := Lib.hid (F.out.alloc (.cells (#[.int .i64 (s : Int), .int .i64 (idx c1 k s)]) 43))
          have Gp := G
          replace G := Lib.hid (G.out.alloc (.cells (#[.int .i64 (s : Int), .int .i64 (idx c1 k s)]) 43))
          have Kp := K
          replace K := Lib.hid (K.out.alloc (.cells (#[.int .i64 (s : Int), .int .i64 (idx c1 k s)]) 43))
          have Pp := P
          replace P := Lib.hid (P.out.alloc (.cells (#[.int .i64 (s : Int), .int .i64 (idx c1 k s)]) 43))
          obtain ⟨gp2, hg⟩ : ∃ g, g = w11.heap.size := ⟨_, rfl⟩
          have hgs : gp2 = w11.heap.size := by rw [hg]
          have b_gp2 : w.heap.size ≤ gp2 := by rw [hgs]; exact HBp.out.size
          have S_w12 := Lib.hid (show (w11.alloc (.cells (#[.int .i64 (s : Int), .int .i64 (idx c1 k s)]) 43)).heap.size = gp2 + 1 by rw [World.size_alloc, hgs])
          rw [← hg] at P2
          try rw [← hg]
          have ne_C_P2 : gc ≠ gp2 := by have := Cp.out.lt; omega
          have ne_P2_C : gp2 ≠ gc := fun h => ne_C_P2 h.symm
          have ne_D_P2 : gd ≠ gp2 := by have := Dp.out.lt; omega
          have ne_P2_D : gp2 ≠ gd := fun h => ne_D_P2 h.symm
          have ne_F_P2 : gf ≠ gp2 := by have := Fp.out.lt; omega
          have ne_P2_F : gp2 ≠ gf := fun h => ne_F_P2 h.symm
          have ne_G_P2 : gg ≠ gp2 := by have := Gp.out.lt; omega
          have ne_P2_G : gp2 ≠ gg := fun h => ne_G_P2 h.symm
          have ne_K_P2 : gk ≠ gp2 := by have := Kp.out.lt; omega
          have ne_P2_K : gp2 ≠ gk := fun h => ne_K_P2 h.symm
          have ne_P_P2 : gp ≠ gp2 := by have := Pp.out.lt; omega
          have ne_P2_P : gp2 ≠ gp := fun h => ne_P_P2 h.symm
          clear hg hgs HBp Cp Dp Fp Gp Kp Pp
          replace P2 := Lib.hid P2
          generalize w11.alloc (.cells (#[.int .i64 (s : Int), .int .i64 (idx c1 k s)]) 43) = w12 at *
          clear P P2
          go_roundw
          case rel => exact ⟨s + 1, by omega, by go_num, C.out, D.out, F.out, G.out, K.out, HB.out⟩
          case measure => simp [intOf]; omega
          
        · obtain rfl : s = 2 := by omega
          have r_C := C.out.row
          have o_C := C.out.open
          have l_C := C.out.lt
          have c_C := C.out.cell
          have z_C := C.out.frozen
          have r_D := D.out.row
          have o_D := D.out.open
          have l_D := D.out.lt
          have c_D := D.out.cell
          have z_D := D.out.frozen
          have r_F := F.out.row
          have o_F := F.out.open
          have l_F := F.out.lt
          have c_F := F.out.cell
          have z_F := F.out.frozen
          have r_G := G.out.row
          have o_G := G.out.open
          have l_G := G.out.lt
          have c_G := G.out.cell
          have z_G := G.out.frozen
          have r_K := K.out.row
          have o_K := K.out.open
          have l_K := K.out.lt
          have c_K := K.out.cell
          have z_K := K.out.frozen
          go_wp2_with fail
          clear r_C o_C l_C c_C z_C r_D o_D l_D c_D z_D r_F o_F l_F c_F z_F r_G o_G l_G c_G z_G r_K o_K l_K c_K z_K
          have r_C := C.out.row
          have o_C := C.out.open
          have l_C := C.out.lt
          have c_C := C.out.cell
          have z_C := C.out.frozen
          have r_D := D.out.row
          have o_D := D.out.open
          have l_D := D.out.lt
          have c_D := D.out.cell
          have z_D := D.out.frozen
          have r_F := F.out.row
          have o_F := F.out.open
          have l_F := F.out.lt
          have c_F := F.out.cell
          have z_F := F.out.frozen
          have r_G := G.out.row
          have o_G := G.out.open
          have l_G := G.out.lt
          have c_G := G.out.cell
          have z_G := G.out.frozen
          have r_K := K.out.row
          have o_K := K.out.open
          have l_K := K.out.lt
          have c_K := K.out.cell
          have z_K := K.out.frozen
          refine region_sq (fun _ => False) [(0, true), (1, true), (3, true), (4, true), (2, false), (5, false), (6, true), (7, true), (8, true), (9, true), (10, true), (12, true), (13, true), (11, false), (14, false), (15, false), (16, true), (17, true), (18, true), (19, true), (21, true), (22, true), (20, false), (23, false), (24, true), (25, true), (26, true), (27, false), (28, true), (29, true)] (by kernel_rfl) (by kernel_rfl) (fun _ _ d _ _ h => by cases d <;> exact h) ?_
          repeat (first
            | (refine sq_yes rfl (by rfl) (fun w' hM => by ((try replace hM := hM.of_drew); obtain ⟨hR1, hR2, hR3⟩ := hM.rules; clear hM; go_simp; with_reducible rfl)) ?_; simp only [Act.put, List.setIfInBounds_toArray, List.set_cons_zero, List.set_cons_succ])
            | (refine sq_no rfl (by rfl) ?_; simp only [Act.put, List.setIfInBounds_toArray, List.set_cons_zero, List.set_cons_succ]))
          clear r_C o_C l_C c_C z_C r_D o_D l_D c_D z_D r_F o_F l_F c_F z_F r_G o_G l_G c_G z_G r_K o_K l_K c_K z_K
          replace C := Lib.hid C.out.drew
          replace D := Lib.hid D.out.drew
          replace F := Lib.hid F.out.drew
          replace G := Lib.hid G.out.drew
          replace K := Lib.hid K.out.drew
          replace HB := Lib.hid HB.out.drew
          generalize wr.drew = w13 at *
          refine sq_do_yes rfl (by rfl) (fun K_ hK_ => ?_)
          go_wp2_with fail
          refine (digest_any gf c1 k _ F.out dg1.1 dg1.2).mono ?_
          rintro e w14 ⟨rfl, hb⟩
          have hbs : Below w13.heap.size w13 w14 := step_below (by first | exact Below.refl _ _ | exact (Below.refl _ _).drew | exact (Below.refl _ _).alloc (Nat.le_refl _) _ | exact ((Below.refl _ _).alloc (Nat.le_refl _) _).drew | exact ((Below.refl _ _).drew).alloc (Nat.le_refl _) _ | exact ((Below.refl _ _).alloc (Nat.le_refl _) _).alloc (by simp) _ | exact (((Below.refl _ _).alloc (Nat.le_refl _) _).alloc (by simp) _).drew | exact (((Below.refl _ _).alloc (Nat.le_refl _) _).alloc (by simp) _).alloc (by simp; omega) _) hb
          replace HB := Lib.hid (step_below HB.out hbs)
          replace C := Lib.hid (C.out.below hbs C.out.lt)
          replace D := Lib.hid (D.out.below hbs D.out.lt)
          replace F := Lib.hid (F.out.below hbs F.out.lt)
          replace G := Lib.hid (G.out.below hbs G.out.lt)
          replace K := Lib.hid (K.out.below hbs K.out.lt)
          clear hbs
          go_wp2_with fail
          refine ⟨Mod.of_below hb, ?_⟩
          clear hb
          have r_C := C.out.row
          have o_C := C.out.open
          have l_C := C.out.lt
          have c_C := C.out.cell
          have z_C := C.out.frozen
          have r_D := D.out.row
          have o_D := D.out.open
          have l_D := D.out.lt
          have c_D := D.out.cell
          have z_D := D.out.frozen
          have r_F := F.out.row
          have o_F := F.out.open
          have l_F := F.out.lt
          have c_F := F.out.cell
          have z_F := F.out.frozen
          have r_G := G.out.row
          have o_G := G.out.open
          have l_G := G.out.lt
          have c_G := G.out.cell
          have z_G := G.out.frozen
          have r_K := K.out.row
          have o_K := K.out.open
          have l_K := K.out.lt
          have c_K := K.out.cell
          have z_K := K.out.frozen
          repeat (first
            | (refine sq_yes rfl (by rfl) (fun w' hM => by ((try replace hM := hM.of_drew); obtain ⟨hR1, hR2, hR3⟩ := hM.rules; clear hM; go_simp; with_reducible rfl)) ?_; simp only [Act.put, List.setIfInBounds_toArray, List.set_cons_zero, List.set_cons_succ])
            | (refine sq_no rfl (by rfl) ?_; simp only [Act.put, List.setIfInBounds_toArray, List.set_cons_zero, List.set_cons_succ]))
          clear r_C o_C l_C c_C z_C r_D o_D l_D c_D z_D r_F o_F l_F c_F z_F r_G o_G l_G c_G z_G r_K o_K l_K c_K z_K
          refine sq_do_yes rfl (by rfl) (fun K_ hK_ => ?_)
          go_wp2_with fail
          refine (digest_any gg d k _ G.out dg2.1 dg2.2).mono ?_
          rintro e w15 ⟨rfl, hb⟩
          have hbs : Below w14.heap.size w14 w15 := step_below (by first | exact Below.refl _ _ | exact (Below.refl _ _).drew | exact (Below.refl _ _).alloc (Nat.le_refl _) _ | exact ((Below.refl _ _).alloc (Nat.le_refl _) _).drew | exact ((Below.refl _ _).drew).alloc (Nat.le_refl _) _ | exact ((Below.refl _ _).alloc (Nat.le_refl _) _).alloc (by simp) _ | exact (((Below.refl _ _).alloc (Nat.le_refl _) _).alloc (by simp) _).drew | exact (((Below.refl _ _).alloc (Nat.le_refl _) _).alloc (by simp) _).alloc (by simp; omega) _) hb
          replace HB := Lib.hid (step_below HB.out hbs)
          replace C := Lib.hid (C.out.below hbs C.out.lt)
          replace D := Lib.hid (D.out.below hbs D.out.lt)
          replace F := Lib.hid (F.out.below hbs F.out.lt)
          replace G := Lib.hid (G.out.below hbs G.out.lt)
          replace K := Lib.hid (K.out.below hbs K.out.lt)
          clear hbs
          go_wp2_with fail
          refine ⟨Mod.of_below hb, ?_⟩
          clear hb
          have r_C := C.out.row
          have o_C := C.out.open
          have l_C := C.out.lt
          have c_C := C.out.cell
          have z_C := C.out.frozen
          have r_D := D.out.row
          have o_D := D.out.open
          have l_D := D.out.lt
          have c_D := D.out.cell
          have z_D := D.out.frozen
          have r_F := F.out.row
          have o_F := F.out.open
          have l_F := F.out.lt
          have c_F := F.out.cell
          have z_F := F.out.frozen
          have r_G := G.out.row
          have o_G := G.out.open
          have l_G := G.out.lt
          have c_G := G.out.cell
          have z_G := G.out.frozen
          have r_K := K.out.row
          have o_K := K.out.open
          have l_K := K.out.lt
          have c_K := K.out.cell
          have z_K := K.out.frozen
          repeat (first
            | (refine sq_yes rfl (by rfl) (fun w' hM => by ((try replace hM := hM.of_drew); obtain ⟨hR1, hR2, hR3⟩ := hM.rules; clear hM; go_simp; with_reducible rfl)) ?_; simp only [Act.put, List.setIfInBounds_toArray, List.set_cons_zero, List.set_cons_succ])
            | (refine sq_no rfl (by rfl) ?_; simp only [Act.put, List.setIfInBounds_toArray, List.set_cons_zero, List.set_cons_succ]))
          clear r_C o_C l_C c_C z_C r_D o_D l_D c_D z_D r_F o_F l_F c_F z_F r_G o_G l_G c_G z_G r_K o_K l_K c_K z_K
          refine sq_do_yes rfl (by rfl) (fun K_ hK_ => ?_)
          go_wp2_with fail
          refine (bits_any gf c1 k _ F.out e5.1 e5.2 e7).mono ?_
          rintro e w16 ⟨v, rfl, ho, hb⟩
          have hbs : Below w15.heap.size w15 w16 := step_below (by first | exact Below.refl _ _ | exact (Below.refl _ _).drew | exact (Below.refl _ _).alloc (Nat.le_refl _) _ | exact ((Below.refl _ _).alloc (Nat.le_refl _) _).drew | exact ((Below.refl _ _).drew).alloc (Nat.le_refl _) _ | exact ((Below.refl _ _).alloc (Nat.le_refl _) _).alloc (by simp) _ | exact (((Below.refl _ _).alloc (Nat.le_refl _) _).alloc (by simp) _).drew | exact (((Below.refl _ _).alloc (Nat.le_refl _) _).alloc (by simp) _).alloc (by simp; omega) _) hb
          replace HB := Lib.hid (step_below HB.out hbs)
          replace C := Lib.hid (C.out.below hbs C.out.lt)
          replace D := Lib.hid (D.out.below hbs D.out.lt)
          replace F := Lib.hid (F.out.below hbs F.out.lt)
          replace G := Lib.hid (G.out.below hbs G.out.lt)
          replace K := Lib.hid (K.out.below hbs K.out.lt)
          clear hbs
          obtain ⟨b1, m1, q1, rfl, hm1, hy1, _⟩ := ho.parts
          have Y1 := Lib.hid hy1
          rw [bitsOf_length c1 k KV.out] at hm1
          have M1 : m1 ≤ 1000000 := by omega
          clear hm1
          clear ho hy1
          go_wp2_with fail
          refine ⟨Mod.of_below hb, ?_⟩
          clear hb
          have r_C := C.out.row
          have o_C := C.out.open
          have l_C := C.out.lt
          have c_C := C.out.cell
          have z_C := C.out.frozen
          have r_D := D.out.row
          have o_D := D.out.open
          have l_D := D.out.lt
          have c_D := D.out.cell
          have z_D := D.out.frozen
          have r_F := F.out.row
          have o_F := F.out.open
          have l_F := F.out.lt
          have c_F := F.out.cell
          have z_F := F.out.frozen
          have r_G := G.out.row
          have o_G := G.out.open
          have l_G := G.out.lt
          have c_G := G.out.cell
          have z_G := G.out.frozen
          have r_K := K.out.row
          have o_K := K.out.open
          have l_K := K.out.lt
          have c_K := K.out.cell
          have z_K := K.out.frozen
          repeat (first
            | (refine sq_yes rfl (by rfl) (fun w' hM => by ((try replace hM := hM.of_drew); obtain ⟨hR1, hR2, hR3⟩ := hM.rules; clear hM; go_simp; with_reducible rfl)) ?_; simp only [Act.put, List.setIfInBounds_toArray, List.set_cons_zero, List.set_cons_succ])
            | (refine sq_no rfl (by rfl) ?_; simp only [Act.put, List.setIfInBounds_toArray, List.set_cons_zero, List.set_cons_succ]))
          clear r_C o_C l_C c_C z_C r_D o_D l_D c_D z_D r_F o_F l_F c_F z_F r_G o_G l_G c_G z_G r_K o_K l_K c_K z_K
          refine sq_do_yes rfl (by rfl) (fun K_ hK_ => ?_)
          go_wp2_with fail
          refine (bits_any gg d k _ G.out e6.1 e6.2 e8).mono ?_
          rintro e w17 ⟨v, rfl, ho, hb⟩
          have hbs : Below w16.heap.size w16 w17 := step_below (by first | exact Below.refl _ _ | exact (Below.refl _ _).drew | exact (Below.refl _ _).alloc (Nat.le_refl _) _ | exact ((Below.refl _ _).alloc (Nat.le_refl _) _).drew | exact ((Below.refl _ _).drew).alloc (Nat.le_refl _) _ | exact ((Below.refl _ _).alloc (Nat.le_refl _) _).alloc (by simp) _ | exact (((Below.refl _ _).alloc (Nat.le_refl _) _).alloc (by simp) _).drew | exact (((Below.refl _ _).alloc (Nat.le_refl _) _).alloc (by simp) _).alloc (by simp; omega) _) hb
          replace HB := Lib.hid (step_below HB.out hbs)
          replace C := Lib.hid (C.out.below hbs C.out.lt)
          replace D := Lib.hid (D.out.below hbs D.out.lt)
          replace F := Lib.hid (F.out.below hbs F.out.lt)
          replace G := Lib.hid (G.out.below hbs G.out.lt)
          replace K := Lib.hid (K.out.below hbs K.out.lt)
          replace Y1 := Lib.hid (Y1.out.below hbs)
          clear hbs
          obtain ⟨b2, m2, q2, rfl, hm2, hy2, _⟩ := ho.parts
          have Y2 := Lib.hid hy2
          rw [bitsOf_length d k KV.out] at hm2
          have M2 : m2 ≤ 1000000 := by omega
          clear hm2
          clear ho hy2
          go_wp2_with fail
          refine ⟨Mod.of_below hb, ?_⟩
          clear hb
          have r_C := C.out.row
          have o_C := C.out.open
          have l_C := C.out.lt
          have c_C := C.out.cell
          have z_C := C.out.frozen
          have r_D := D.out.row
          have o_D := D.out.open
          have l_D := D.out.lt
          have c_D := D.out.cell
          have z_D := D.out.frozen
          have r_F := F.out.row
          have o_F := F.out.open
          have l_F := F.out.lt
          have c_F := F.out.cell
          have z_F := F.out.frozen
          have r_G := G.out.row
          have o_G := G.out.open
          have l_G := G.out.lt
          have c_G := G.out.cell
          have z_G := G.out.frozen
          have r_K := K.out.row
          have o_K := K.out.open
          have l_K := K.out.lt
          have c_K := K.out.cell
          have z_K := K.out.frozen
          repeat (first
            | (refine sq_yes rfl (by rfl) (fun w' hM => by ((try replace hM := hM.of_drew); obtain ⟨hR1, hR2, hR3⟩ := hM.rules; clear hM; go_simp; with_reducible rfl)) ?_; simp only [Act.put, List.setIfInBounds_toArray, List.set_cons_zero, List.set_cons_succ])
            | (refine sq_no rfl (by rfl) ?_; simp only [Act.put, List.setIfInBounds_toArray, List.set_cons_zero, List.set_cons_succ]))
          clear r_C o_C l_C c_C z_C r_D o_D l_D c_D z_D r_F o_F l_F c_F z_F r_G o_G l_G c_G z_G r_K o_K l_K c_K z_K
          refine sq_do_yes rfl (by rfl) (fun K_ hK_ => ?_)
          go_wp2_with fail
          refine (ints_any b1 m1 q1 _ b2 m2 q2 _ _ Y1.out Y2.out M1 M2).mono ?_
          rintro e w18 ⟨rfl, hb⟩
          have hbs : Below w17.heap.size w17 w18 := step_below (by first | exact Below.refl _ _ | exact (Below.refl _ _).drew | exact (Below.refl _ _).alloc (Nat.le_refl _) _ | exact ((Below.refl _ _).alloc (Nat.le_refl _) _).drew | exact ((Below.refl _ _).drew).alloc (Nat.le_refl _) _ | exact ((Below.refl _ _).alloc (Nat.le_refl _) _).alloc (by simp) _ | exact (((Below.refl _ _).alloc (Nat.le_refl _) _).alloc (by simp) _).drew | exact (((Below.refl _ _).alloc (Nat.le_refl _) _).alloc (by simp) _).alloc (by simp; omega) _) hb
          replace HB := Lib.hid (step_below HB.out hbs)
          replace C := Lib.hid (C.out.below hbs C.out.lt)
          replace D := Lib.hid (D.out.below hbs D.out.lt)
          replace F := Lib.hid (F.out.below hbs F.out.lt)
          replace G := Lib.hid (G.out.below hbs G.out.lt)
          replace K := Lib.hid (K.out.below hbs K.out.lt)
          replace Y1 := Lib.hid (Y1.out.below hbs)
          replace Y2 := Lib.hid (Y2.out.below hbs)
          clear hbs
          rw [BE.out]
          go_wp2_with fail
          refine ⟨Mod.of_below hb, ?_⟩
          clear hb
          have r_C := C.out.row
          have o_C := C.out.open
          have l_C := C.out.lt
          have c_C := C.out.cell
          have z_C := C.out.frozen
          have r_D := D.out.row
          have o_D := D.out.open
          have l_D := D.out.lt
          have c_D := D.out.cell
          have z_D := D.out.frozen
          have r_F := F.out.row
          have o_F := F.out.open
          have l_F := F.out.lt
          have c_F := F.out.cell
          have z_F := F.out.frozen
          have r_G := G.out.row
          have o_G := G.out.open
          have l_G := G.out.lt
          have c_G := G.out.cell
          have z_G := G.out.frozen
          have r_K := K.out.row
          have o_K := K.out.open
          have l_K := K.out.lt
          have c_K := K.out.cell
          have z_K := K.out.frozen
          repeat (first
            | (refine sq_yes rfl (by rfl) (fun w' hM => by ((try replace hM := hM.of_drew); obtain ⟨hR1, hR2, hR3⟩ := hM.rules; clear hM; go_simp; with_reducible rfl)) ?_; simp only [Act.put, List.setIfInBounds_toArray, List.set_cons_zero, List.set_cons_succ])
            | (refine sq_no rfl (by rfl) ?_; simp only [Act.put, List.setIfInBounds_toArray, List.set_cons_zero, List.set_cons_succ]))
          clear r_C o_C l_C c_C z_C r_D o_D l_D c_D z_D r_F o_F l_F c_F z_F r_G o_G l_G c_G z_G r_K o_K l_K c_K z_K
          refine sq_do_yes rfl (by rfl) (fun K_ hK_ => ?_)
          go_wp2_with fail
          refine (slot_any gf c1 k 17 _ F.out).mono ?_
          rintro e w19 ⟨rfl, hb⟩
          have hbs : Below w18.heap.size w18 w19 := step_below (by first | exact Below.refl _ _ | exact (Below.refl _ _).drew | exact (Below.refl _ _).alloc (Nat.le_refl _) _ | exact ((Below.refl _ _).alloc (Nat.le_refl _) _).drew | exact ((Below.refl _ _).drew).alloc (Nat.le_refl _) _ | exact ((Below.refl _ _).alloc (Nat.le_refl _) _).alloc (by simp) _ | exact (((Below.refl _ _).alloc (Nat.le_refl _) _).alloc (by simp) _).drew | exact (((Below.refl _ _).alloc (Nat.le_refl _) _).alloc (by simp) _).alloc (by simp; omega) _) hb
          replace HB := Lib.hid (step_below HB.out hbs)
          replace C := Lib.hid (C.out.below hbs C.out.lt)
          replace D := Lib.hid (D.out.below hbs D.out.lt)
          replace F := Lib.hid (F.out.below hbs F.out.lt)
          replace G := Lib.hid (G.out.below hbs G.out.lt)
          replace K := Lib.hid (K.out.below hbs K.out.lt)
          replace Y1 := Lib.hid (Y1.out.below hbs)
          replace Y2 := Lib.hid (Y2.out.below hbs)
          clear hbs
          go_wp2_with fail
          refine ⟨Mod.of_below hb, ?_⟩
          clear hb
          have r_C := C.out.row
          have o_C := C.out.open
          have l_C := C.out.lt
          have c_C := C.out.cell
          have z_C := C.out.frozen
          have r_D := D.out.row
          have o_D := D.out.open
          have l_D := D.out.lt
          have c_D := D.out.cell
          have z_D := D.out.frozen
          have r_F := F.out.row
          have o_F := F.out.open
          have l_F := F.out.lt
          have c_F := F.out.cell
          have z_F := F.out.frozen
          have r_G := G.out.row
          have o_G := G.out.open
          have l_G := G.out.lt
          have c_G := G.out.cell
          have z_G := G.out.frozen
          have r_K := K.out.row
          have o_K := K.out.open
          have l_K := K.out.lt
          have c_K := K.out.cell
          have z_K := K.out.frozen
          repeat (first
            | (refine sq_yes rfl (by rfl) (fun w' hM => by ((try replace hM := hM.of_drew); obtain ⟨hR1, hR2, hR3⟩ := hM.rules; clear hM; go_simp; with_reducible rfl)) ?_; simp only [Act.put, List.setIfInBounds_toArray, List.set_cons_zero, List.set_cons_succ])
            | (refine sq_no rfl (by rfl) ?_; simp only [Act.put, List.setIfInBounds_toArray, List.set_cons_zero, List.set_cons_succ]))
          clear r_C o_C l_C c_C z_C r_D o_D l_D c_D z_D r_F o_F l_F c_F z_F r_G o_G l_G c_G z_G r_K o_K l_K c_K z_K
          refine sq_do_yes rfl (by rfl) (fun K_ hK_ => ?_)
          go_wp2_with fail
          refine (slot_any gg d k 17 _ G.out).mono ?_
          rintro e w20 ⟨rfl, hb⟩
          have hbs : Below w19.heap.size w19 w20 := step_below (by first | exact Below.refl _ _ | exact (Below.refl _ _).drew | exact (Below.refl _ _).alloc (Nat.le_refl _) _ | exact ((Below.refl _ _).alloc (Nat.le_refl _) _).drew | exact ((Below.refl _ _).drew).alloc (Nat.le_refl _) _ | exact ((Below.refl _ _).alloc (Nat.le_refl _) _).alloc (by simp) _ | exact (((Below.refl _ _).alloc (Nat.le_refl _) _).alloc (by simp) _).drew | exact (((Below.refl _ _).alloc (Nat.le_refl _) _).alloc (by simp) _).alloc (by simp; omega) _) hb
          replace HB := Lib.hid (step_below HB.out hbs)
          replace C := Lib.hid (C.out.below hbs C.out.lt)
          replace D := Lib.hid (D.out.below hbs D.out.lt)
          replace F := Lib.hid (F.out.below hbs F.out.lt)
          replace G := Lib.hid (G.out.below hbs G.out.lt)
          replace K := Lib.hid (K.out.below hbs K.out.lt)
          replace Y1 := Lib.hid (Y1.out.below hbs)
          replace Y2 := Lib.hid (Y2.out.below hbs)
          clear hbs
          rw [SE.out]
          go_wp2_with fail
          refine ⟨Mod.of_below hb, ?_⟩
          clear hb
          have r_C := C.out.row
          have o_C := C.out.open
          have l_C := C.out.lt
          have c_C := C.out.cell
          have z_C := C.out.frozen
          have r_D := D.out.row
          have o_D := D.out.open
          have l_D := D.out.lt
          have c_D := D.out.cell
          have z_D := D.out.frozen
          have r_F := F.out.row
          have o_F := F.out.open
          have l_F := F.out.lt
          have c_F := F.out.cell
          have z_F := F.out.frozen
          have r_G := G.out.row
          have o_G := G.out.open
          have l_G := G.out.lt
          have c_G := G.out.cell
          have z_G := G.out.frozen
          have r_K := K.out.row
          have o_K := K.out.open
          have l_K := K.out.lt
          have c_K := K.out.cell
          have z_K := K.out.frozen
          repeat (first
            | (refine sq_yes rfl (by rfl) (fun w' hM => by ((try replace hM := hM.of_drew); obtain ⟨hR1, hR2, hR3⟩ := hM.rules; clear hM; go_simp; with_reducible rfl)) ?_; simp only [Act.put, List.setIfInBounds_toArray, List.set_cons_zero, List.set_cons_succ])
            | (refine sq_no rfl (by rfl) ?_; simp only [Act.put, List.setIfInBounds_toArray, List.set_cons_zero, List.set_cons_succ]))
          clear r_C o_C l_C c_C z_C r_D o_D l_D c_D z_D r_F o_F l_F c_F z_F r_G o_G l_G c_G z_G r_K o_K l_K c_K z_K
          refine sq_do_yes rfl (by rfl) (fun K_ hK_ => ?_)
          go_wp2_with fail
          refine (awake_any _).mono ?_
          rintro e w21 ⟨rfl, hb⟩
          have hbs : Below w20.heap.size w20 w21 := step_below (by first | exact Below.refl _ _ | exact (Below.refl _ _).drew | exact (Below.refl _ _).alloc (Nat.le_refl _) _ | exact ((Below.refl _ _).alloc (Nat.le_refl _) _).drew | exact ((Below.refl _ _).drew).alloc (Nat.le_refl _) _ | exact ((Below.refl _ _).alloc (Nat.le_refl _) _).alloc (by simp) _ | exact (((Below.refl _ _).alloc (Nat.le_refl _) _).alloc (by simp) _).drew | exact (((Below.refl _ _).alloc (Nat.le_refl _) _).alloc (by simp) _).alloc (by simp; omega) _) hb
          replace HB := Lib.hid (step_below HB.out hbs)
          replace C := Lib.hid (C.out.below hbs C.out.lt)
          replace D := Lib.hid (D.out.below hbs D.out.lt)
          replace F := Lib.hid (F.out.below hbs F.out.lt)
          replace G := Lib.hid (G.out.below hbs G.out.lt)
          replace K := Lib.hid (K.out.below hbs K.out.lt)
          replace Y1 := Lib.hid (Y1.out.below hbs)
          replace Y2 := Lib.hid (Y2.out.below hbs)
          clear hbs
          go_wp2_with fail
          refine ⟨Mod.of_below hb, ?_⟩
          clear hb
          have r_C := C.out.row
          have o_C := C.out.open
          have l_C := C.out.lt
          have c_C := C.out.cell
          have z_C := C.out.frozen
          have r_D := D.out.row
          have o_D := D.out.open
          have l_D := D.out.lt
          have c_D := D.out.cell
          have z_D := D.out.frozen
          have r_F := F.out.row
          have o_F := F.out.open
          have l_F := F.out.lt
          have c_F := F.out.cell
          have z_F := F.out.frozen
          have r_G := G.out.row
          have o_G := G.out.open
          have l_G := G.out.lt
          have c_G := G.out.cell
          have z_G := G.out.frozen
          have r_K := K.out.row
          have o_K := K.out.open
          have l_K := K.out.lt
          have c_K := K.out.cell
          have z_K := K.out.frozen
          repeat (first
            | (refine sq_yes rfl (by rfl) (fun w' hM => by ((try replace hM := hM.of_drew); obtain ⟨hR1, hR2, hR3⟩ := hM.rules; clear hM; go_simp; with_reducible rfl)) ?_; simp only [Act.put, List.setIfInBounds_toArray, List.set_cons_zero, List.set_cons_succ])
            | (refine sq_no rfl (by rfl) ?_; simp only [Act.put, List.setIfInBounds_toArray, List.set_cons_zero, List.set_cons_succ]))
          clear r_C o_C l_C c_C z_C r_D o_D l_D c_D z_D r_F o_F l_F c_F z_F r_G o_G l_G c_G z_G r_K o_K l_K c_K z_K
          refine sq_end ?_
          go_wp2_with fail
          go_ret
          exact ⟨rfl, HB.out⟩
      
    · go_enter Try.func4, Try.ntmps4
      have HB := Lib.hid (Below.refl w.heap.size w)
      go_wp2_with fail
      refine (KC.out _ HI.out).mono ?_
      rintro e w1 ⟨rfl, hb⟩
      have hbs : Below w.heap.size w w1 := step_below (by first | exact Below.refl _ _ | exact (Below.refl _ _).drew | exact (Below.refl _ _).alloc (Nat.le_refl _) _ | exact ((Below.refl _ _).alloc (Nat.le_refl _) _).drew | exact ((Below.refl _ _).drew).alloc (Nat.le_refl _) _ | exact ((Below.refl _ _).alloc (Nat.le_refl _) _).alloc (by simp) _ | exact (((Below.refl _ _).alloc (Nat.le_refl _) _).alloc (by simp) _).drew | exact (((Below.refl _ _).alloc (Nat.le_refl _) _).alloc (by simp) _).alloc (by simp; omega) _) hb
      replace HB := Lib.hid (step_below HB.out hbs)
      clear hbs
      clear hb
      go_wp2_with fail
      have HBp := HB
      have C := at_new w1 29 (cc c1) (w1.heap.size) rfl
      replace HB := Lib.hid (HB.out.alloc HB.out.size (.cells (cc c1) 29))
      obtain ⟨gc, hg⟩ : ∃ g, g = w1.heap.size := ⟨_, rfl⟩
      have hgs : gc = w1.heap.size := by rw [hg]
      have b_gc : w.heap.size ≤ gc := by rw [hgs]; exact HBp.out.size
      have S_w2 := Lib.hid (show (w1.alloc (.cells (cc c1) 29)).heap.size = gc + 1 by rw [World.size_alloc, hgs])
      rw [← hg] at C
      try rw [← hg]
      clear hg hgs HBp
      replace C := Lib.hid C
      generalize w1.alloc (.cells (cc c1) 29) = w2 at *
      have HBp := HB
      have D := at_new w2 29 (cc c1) (gc + 1) (S_w2.out.symm)
      replace HB := Lib.hid (HB.out.alloc HB.out.size (.cells (cc c1) 29))
      have Cp := C
      replace C := Lib.hid (C.out.alloc (.cells (cc c1) 29))
      obtain ⟨gd, hg⟩ : ∃ g, g = gc + 1 := ⟨_, rfl⟩
      have hgs : gd = w2.heap.size := by rw [hg, S_w2.out]
      have b_gd : w.heap.size ≤ gd := by rw [hgs]; exact HBp.out.size
      have S_w3 := Lib.hid (show (w2.alloc (.cells (cc c1) 29)).heap.size = gd + 1 by rw [World.size_alloc, hgs])
      rw [← hg] at D
      try rw [← hg]
      have ne_C_D : gc ≠ gd := by have := Cp.out.lt; omega
      have ne_D_C : gd ≠ gc := fun h => ne_C_D h.symm
      clear hg hgs HBp Cp
      replace D := Lib.hid D
      generalize w2.alloc (.cells (cc c1) 29) = w3 at *
      refine (round_big a3 5 (by omega) (by omega) _).mono ?_
      rintro e w_ ⟨rfl, hw_⟩
      obtain rfl := hw_.symm
      clear hw_
      rw [HR.out]
      obtain ⟨d, hd⟩ : ∃ x, x = ({ c1 with slots := 9, versions := 9, fails := 9 } : Cf) := ⟨_, rfl⟩
      have hds := alone_set4 c1
      rw [← hd] at hds
      have OKD := Lib.hid (show cok d = true by rw [hd]; exact alone_cok4 c1 OK1.out)
      have Q := Lib.hid (show (d.seed = c1.seed ∧ d.size = c1.size ∧ d.bloom = c1.bloom ∧ d.hashes = c1.hashes) ∧ 2 ≤ d.stages ∧ (d.digest = 8 ∨ d.digest = 16) by rw [hd]; simp [Q1.out])
      clear hd
      have hD_ := (((D.out.set 5 (.int .i64 9)).set 6 (.int .i64 9)).set 11 (.int .i64 9))
      rw [hds] at hD_ ; clear hds
      have hHB_ := (((HB.out.setCell (p := ⟨gd, 5, none⟩) b_gd (.int .i64 9)).setCell (p := ⟨gd, 6, none⟩) b_gd (.int .i64 9)).setCell (p := ⟨gd, 11, none⟩) b_gd (.int .i64 9))
      have fC_ := (((C.out.far (p := ⟨gd, 5, none⟩) ne_C_D (.int .i64 9)).far (p := ⟨gd, 6, none⟩) ne_C_D (.int .i64 9)).far (p := ⟨gd, 11, none⟩) ne_C_D (.int .i64 9))
      have r_D2 := hD_.row
      have o_D2 := hD_.open
      have r_C2 := fC_.row
      have o_C2 := fC_.open
      have HH_ := Lib.hid (And.intro hD_ hHB_)
      have HfC_ := Lib.hid fC_
      clear hD_ hHB_ fC_
      have r_C := C.out.row
      have o_C := C.out.open
      have l_C := C.out.lt
      have c_C := C.out.cell
      have z_C := C.out.frozen
      have r_D := D.out.row
      have o_D := D.out.open
      have l_D := D.out.lt
      have c_D := D.out.cell
      have z_D := D.out.frozen
      go_wp2_with fail
      clear r_C o_C l_C c_C z_C r_D o_D l_D c_D z_D
      clear r_D2 o_D2 r_C2 o_C2
      replace HB := Lib.hid HH_.out.2
      replace D := Lib.hid HH_.out.1
      replace C := Lib.hid HfC_.out
      clear HH_ HfC_
      generalize ((w3.setCell ⟨gd, 5, none⟩ (.int .i64 9)).setCell ⟨gd, 6, none⟩ (.int .i64 9)).setCell ⟨gd, 11, none⟩ (.int .i64 9) = w4 at *
      have FC := fits_of OK1.out
      have FD := fits_of OKD.out
      have e1 : c1.stages ≤ 4 := FC.st.2
      have e2 : 1 ≤ c1.size := by have := FC.sz.1; omega
      have e3 : d.stages ≤ 4 := FD.st.2
      have e4 : 1 ≤ d.size := by have := FD.sz.1; omega
      have e5 : 0 ≤ c1.hashes ∧ c1.hashes ≤ 80 := by have := FC.ha; omega
      have e6 : 0 ≤ d.hashes ∧ d.hashes ≤ 80 := by have := FD.ha; omega
      have e7 : 1 ≤ c1.bloom := by have := FC.bl; omega
      have e8 : 1 ≤ d.bloom := by have := FD.bl; omega
      have dg1 := FC.dg
      have dg2 := FD.dg
      have hda := alone_dig c1 d k KV.out Q1.out.2 Q.out.2.2 Q.out.1.1
      have BE := Lib.hid (show (bitsOf c1 k == bitsOf d k) = true by rw [alone_bits c1 d k Q.out.1.1 Q.out.1.2.2.1 Q.out.1.2.2.2]; simp)
      have SE := Lib.hid (show slotOf d k 17 = slotOf c1 k 17 by unfold slotOf; rw [Q.out.1.1])
      have hgp := guardP
      have hnp := neqP
      refine (new_ok c1 _ OK1.out).mono ?_
      rintro e w5 ⟨gf, rfl, hgf, hF, hb⟩
      have hbs : Below w4.heap.size w4 w5 := step_below (by first | exact Below.refl _ _ | exact (Below.refl _ _).drew | exact (Below.refl _ _).alloc (Nat.le_refl _) _ | exact ((Below.refl _ _).alloc (Nat.le_refl _) _).drew | exact ((Below.refl _ _).drew).alloc (Nat.le_refl _) _ | exact ((Below.refl _ _).alloc (Nat.le_refl _) _).alloc (by simp) _ | exact (((Below.refl _ _).alloc (Nat.le_refl _) _).alloc (by simp) _).drew | exact (((Below.refl _ _).alloc (Nat.le_refl _) _).alloc (by simp) _).alloc (by simp; omega) _) hb
      replace HB := Lib.hid (step_below HB.out hbs)
      replace C := Lib.hid (C.out.below hbs C.out.lt)
      replace D := Lib.hid (D.out.below hbs D.out.lt)
      clear hbs
      clear hb
      have F := Lib.hid hF
      clear hF hgf
      
      have r_C := C.out.row
      have o_C := C.out.open
      have l_C := C.out.lt
      have c_C := C.out.cell
      have z_C := C.out.frozen
      have r_D := D.out.row
      have o_D := D.out.open
      have l_D := D.out.lt
      have c_D := D.out.cell
      have z_D := D.out.frozen
      have r_F := F.out.row
      have o_F := F.out.open
      have l_F := F.out.lt
      have c_F := F.out.cell
      have z_F := F.out.frozen
      go_wp2_with fail
      clear r_C o_C l_C c_C z_C r_D o_D l_D c_D z_D r_F o_F l_F c_F z_F
      refine (new_ok d _ OKD.out).mono ?_
      rintro e w6 ⟨gg, rfl, hgg, hG, hb⟩
      have hbs : Below w5.heap.size w5 w6 := step_below (by first | exact Below.refl _ _ | exact (Below.refl _ _).drew | exact (Below.refl _ _).alloc (Nat.le_refl _) _ | exact ((Below.refl _ _).alloc (Nat.le_refl _) _).drew | exact ((Below.refl _ _).drew).alloc (Nat.le_refl _) _ | exact ((Below.refl _ _).alloc (Nat.le_refl _) _).alloc (by simp) _ | exact (((Below.refl _ _).alloc (Nat.le_refl _) _).alloc (by simp) _).drew | exact (((Below.refl _ _).alloc (Nat.le_refl _) _).alloc (by simp) _).alloc (by simp; omega) _) hb
      replace HB := Lib.hid (step_below HB.out hbs)
      replace C := Lib.hid (C.out.below hbs C.out.lt)
      replace D := Lib.hid (D.out.below hbs D.out.lt)
      replace F := Lib.hid (F.out.below hbs F.out.lt)
      clear hbs
      clear hb
      have G := Lib.hid hG
      clear hG hgg
      
      have r_C := C.out.row
      have o_C := C.out.open
      have l_C := C.out.lt
      have c_C := C.out.cell
      have z_C := C.out.frozen
      have r_D := D.out.row
      have o_D := D.out.open
      have l_D := D.out.lt
      have c_D := D.out.cell
      have z_D := D.out.frozen
      have r_F := F.out.row
      have o_F := F.out.open
      have l_F := F.out.lt
      have c_F := F.out.cell
      have z_F := F.out.frozen
      have r_G := G.out.row
      have o_G := G.out.open
      have l_G := G.out.lt
      have c_G := G.out.cell
      have z_G := G.out.frozen
      go_wp2_with fail
      clear r_C o_C l_C c_C z_C r_D o_D l_D c_D z_D r_F o_F l_F c_F z_F r_G o_G l_G c_G z_G
      refine (KK.out _).mono ?_
      rintro e w7 ⟨rfl, hb⟩
      have hbs : Below w6.heap.size w6 w7 := step_below (by first | exact Below.refl _ _ | exact (Below.refl _ _).drew | exact (Below.refl _ _).alloc (Nat.le_refl _) _ | exact ((Below.refl _ _).alloc (Nat.le_refl _) _).drew | exact ((Below.refl _ _).drew).alloc (Nat.le_refl _) _ | exact ((Below.refl _ _).alloc (Nat.le_refl _) _).alloc (by simp) _ | exact (((Below.refl _ _).alloc (Nat.le_refl _) _).alloc (by simp) _).drew | exact (((Below.refl _ _).alloc (Nat.le_refl _) _).alloc (by simp) _).alloc (by simp; omega) _) hb
      replace HB := Lib.hid (step_below HB.out hbs)
      replace C := Lib.hid (C.out.below hbs C.out.lt)
      replace D := Lib.hid (D.out.below hbs D.out.lt)
      replace F := Lib.hid (F.out.below hbs F.out.lt)
      replace G := Lib.hid (G.out.below hbs G.out.lt)
      clear hbs
      clear hb
      go_wp2_with fail
      have HBp := HB
      have K := at_new w7 40 (kc k) (w7.heap.size) rfl
      replace HB := Lib.hid (HB.out.alloc HB.out.size (.cells (kc k) 40))
      have Cp := C
      replace C := Lib.hid (C.out.alloc (.cells (kc k) 40))
      have Dp := D
      replace D := Lib.hid (D.out.alloc (.cells (kc k) 40))
      have Fp := F
      replace F := Lib.hid (F.out.alloc (.cells (kc k) 40))
      have Gp := G
      replace G := Lib.hid (G.out.alloc (.cells (kc k) 40))
      obtain ⟨gk, hg⟩ : ∃ g, g = w7.heap.size := ⟨_, rfl⟩
      have hgs : gk = w7.heap.size := by rw [hg]
      have b_gk : w.heap.size ≤ gk := by rw [hgs]; exact HBp.out.size
      have S_w8 := Lib.hid (show (w7.alloc (.cells (kc k) 40)).heap.size = gk + 1 by rw [World.size_alloc, hgs])
      rw [← hg] at K
      try rw [← hg]
      have ne_C_K : gc ≠ gk := by have := Cp.out.lt; omega
      have ne_K_C : gk ≠ gc := fun h => ne_C_K h.symm
      have ne_D_K : gd ≠ gk := by have := Dp.out.lt; omega
      have ne_K_D : gk ≠ gd := fun h => ne_D_K h.symm
      have ne_F_K : gf ≠ gk := by have := Fp.out.lt; omega
      have ne_K_F : gk ≠ gf := fun h => ne_F_K h.symm
      have ne_G_K : gg ≠ gk := by have := Gp.out.lt; omega
      have ne_K_G : gk ≠ gg := fun h => ne_G_K h.symm
      clear hg hgs HBp Cp Dp Fp Gp
      replace K := Lib.hid K
      generalize w7.alloc (.cells (kc k) 40) = w8 at *
      
      go_loopw [16, 17, 18, 19, 20] (fun i wr_ wr2 wr3 wr4 wr => ∃ s : Nat, s ≤ 2 ∧ i = .int .i64 s ∧ At wr gc 29 (cc c1) ∧ At wr gd 29 (cc d) ∧ At wr gf 80 (fc c1) ∧ At wr gg 80 (fc d) ∧ At wr gk 40 (kc k) ∧ Below w.heap.size w wr) (fun i _ _ _ _ _ => 2 - (intOf i).toNat)
      case atStart => exact ⟨0, by omega, rfl, C.out, D.out, F.out, G.out, K.out, HB.out⟩
      case round =>
        obtain ⟨s, hs, rfl, hC_, hD_, hF_, hG_, hK_, hB_⟩ := hrel
        have C := Lib.hid hC_
        have D := Lib.hid hD_
        have F := Lib.hid hF_
        have G := Lib.hid hG_
        have K := Lib.hid hK_
        have HB := Lib.hid hB_
        clear hC_ hD_ hF_ hG_ hK_ hB_
        by_cases hlt : s < 2
        · have P1 := Lib.hid (placeOf_yes c1 k s KV.out (by rw [Q1.out.1]; omega))
          have P2 := Lib.hid (show placeOf d k s = .tuple #[.agg #[.int .i64 s, .int .i64 (idx c1 k s)], .bool true] by rw [placeOf_yes d k s KV.out (by have := Q.out.2.1; omega)]; unfold idx; rw [Q.out.1.1, Q.out.1.2.1])
          
          have r_C := C.out.row
          have o_C := C.out.open
          have l_C := C.out.lt
          have c_C := C.out.cell
          have z_C := C.out.frozen
          have r_D := D.out.row
          have o_D := D.out.open
          have l_D := D.out.lt
          have c_D := D.out.cell
          have z_D := D.out.frozen
          have r_F := F.out.row
          have o_F := F.out.open
          have l_F := F.out.lt
          have c_F := F.out.cell
          have z_F := F.out.frozen
          have r_G := G.out.row
          have o_G := G.out.open
          have l_G := G.out.lt
          have c_G := G.out.cell
          have z_G := G.out.frozen
          have r_K := K.out.row
          have o_K := K.out.open
          have l_K := K.out.lt
          have c_K := K.out.cell
          have z_K := K.out.frozen
          go_wp2_with fail
          clear r_C o_C l_C c_C z_C r_D o_D l_D c_D z_D r_F o_F l_F c_F z_F r_G o_G l_G c_G z_G r_K o_K l_K c_K z_K
          refine (place_any gf c1 k s _ F.out e1 e2).mono ?_
          rintro e w9 ⟨rfl, hb⟩
          have hbs : Below wr.heap.size wr w9 := step_below (by first | exact Below.refl _ _ | exact (Below.refl _ _).drew | exact (Below.refl _ _).alloc (Nat.le_refl _) _ | exact ((Below.refl _ _).alloc (Nat.le_refl _) _).drew | exact ((Below.refl _ _).drew).alloc (Nat.le_refl _) _ | exact ((Below.refl _ _).alloc (Nat.le_refl _) _).alloc (by simp) _ | exact (((Below.refl _ _).alloc (Nat.le_refl _) _).alloc (by simp) _).drew | exact (((Below.refl _ _).alloc (Nat.le_refl _) _).alloc (by simp) _).alloc (by simp; omega) _) hb
          replace HB := Lib.hid (step_below HB.out hbs)
          replace C := Lib.hid (C.out.below hbs C.out.lt)
          replace D := Lib.hid (D.out.below hbs D.out.lt)
          replace F := Lib.hid (F.out.below hbs F.out.lt)
          replace G := Lib.hid (G.out.below hbs G.out.lt)
          replace K := Lib.hid (K.out.below hbs K.out.lt)
          clear hbs
          clear hb
          rw [P1.out]
          have r_C := C.out.row
          have o_C := C.out.open
          have l_C := C.out.lt
          have c_C := C.out.cell
          have z_C := C.out.frozen
          have r_D := D.out.row
          have o_D := D.out.open
          have l_D := D.out.lt
          have c_D := D.out.cell
          have z_D := D.out.frozen
          have r_F := F.out.row
          have o_F := F.out.open
          have l_F := F.out.lt
          have c_F := F.out.cell
          have z_F := F.out.frozen
          have r_G := G.out.row
          have o_G := G.out.open
          have l_G := G.out.lt
          have c_G := G.out.cell
          have z_G := G.out.frozen
          have r_K := K.out.row
          have o_K := K.out.open
          have l_K := K.out.lt
          have c_K := K.out.cell
          have z_K := K.out.frozen
          go_wp2_with fail
          clear r_C o_C l_C c_C z_C r_D o_D l_D c_D z_D r_F o_F l_F c_F z_F r_G o_G l_G c_G z_G r_K o_K l_K c_K z_K
          have HBp := HB
          have P := at_new w9 43 (#[.int .i64 (s : Int), .int .i64 (idx c1 k s)]) (w9.heap.size) rfl
          replace HB := Lib.hid (HB.out.alloc HB.out.size (.cells (#[.int .i64 (s : Int), .int .i64 (idx c1 k s)]) 43))
          have Cp := C
          replace C := Lib.hid (C.out.alloc (.cells (#[.int .i64 (s : Int), .int .i64 (idx c1 k s)]) 43))
          have Dp := D
          replace D := Lib.hid (D.out.alloc (.cells (#[.int .i64 (s : Int), .int .i64 (idx c1 k s)]) 43))
          have Fp := F
          replace F := Lib.hid (F.out.alloc (.cells (#[.int .i64 (s : Int), .int .i64 (idx c1 k s)]) 43))
          have Gp := G
          replace G := Lib.hid (G.out.alloc (.cells (#[.int .i64 (s : Int), .int .i64 (idx c1 k s)]) 43))
          have Kp := K
          replace K := Lib.hid (K.out.alloc (.cells (#[.int .i64 (s : Int), .int .i64 (idx c1 k s)]) 43))
          obtain ⟨gp, hg⟩ : ∃ g, g = w9.heap.size := ⟨_, rfl⟩
          have hgs : gp = w9.heap.size := by rw [hg]
          have b_gp : w.heap.size ≤ gp := by rw [hgs]; exact HBp.out.size
          have S_w10 := Lib.hid (show (w9.alloc (.cells (#[.int .i64 (s : Int), .int .i64 (idx c1 k s)]) 43)).heap.size = gp + 1 by rw [World.size_alloc, hgs])
          rw [← hg] at P
          try rw [← hg]
          have ne_C_P : gc ≠ gp := by have := Cp.out.lt; omega
          have ne_P_C : gp ≠ gc := fun h => ne_C_P h.symm
          have ne_D_P : gd ≠ gp := by have := Dp.out.lt; omega
          have ne_P_D : gp ≠ gd := fun h => ne_D_P h.symm
          have ne_F_P : gf ≠ gp := by have := Fp.out.lt; omega
          have ne_P_F : gp ≠ gf := fun h => ne_F_P h.symm
          have ne_G_P : gg ≠ gp := by have := Gp.out.lt; omega
          have ne_P_G : gp ≠ gg := fun h => ne_G_P h.symm
          have ne_K_P : gk ≠ gp := by have := Kp.out.lt; omega
          have ne_P_K : gp ≠ gk := fun h => ne_K_P h.symm
          clear hg hgs HBp Cp Dp Fp Gp Kp
          replace P := Lib.hid P
          generalize w9.alloc (.cells (#[.int .i64 (s : Int), .int .i64 (idx c1 k s)]) 43) = w10 at *
          refine (place_any gg d k s _ G.out e3 e4).mono ?_
          rintro e w11 ⟨rfl, hb⟩
          have hbs : Below w10.heap.size w10 w11 := step_below (by first | exact Below.refl _ _ | exact (Below.refl _ _).drew | exact (Below.refl _ _).alloc (Nat.le_refl _) _ | exact ((Below.refl _ _).alloc (Nat.le_refl _) _).drew | exact ((Below.refl _ _).drew).alloc (Nat.le_refl _) _ | exact ((Below.refl _ _).alloc (Nat.le_refl _) _).alloc (by simp) _ | exact (((Below.refl _ _).alloc (Nat.le_refl _) _).alloc (by simp) _).drew | exact (((Below.refl _ _).alloc (Nat.le_refl _) _).alloc (by simp) _).alloc (by simp; omega) _) hb
          replace HB := Lib.hid (step_below HB.out hbs)
          replace C := Lib.hid (C.out.below hbs C.out.lt)
          replace D := Lib.hid (D.out.below hbs D.out.lt)
          replace F := Lib.hid (F.out.below hbs F.out.lt)
          replace G := Lib.hid (G.out.below hbs G.out.lt)
          replace K := Lib.hid (K.out.below hbs K.out.lt)
          replace P := Lib.hid (P.out.below hbs P.out.lt)
          clear hbs
          clear hb
          rw [P2.out]
          have r_C := C.out.row
          have o_C := C.out.open
          have l_C := C.out.lt
          have c_C := C.out.cell
          have z_C := C.out.frozen
          have r_D := D.out.row
          have o_D := D.out.open
          have l_D := D.out.lt
          have c_D := D.out.cell
          have z_D := D.out.frozen
          have r_F := F.out.row
          have o_F := F.out.open
          have l_F := F.out.lt
          have c_F := F.out.cell
          have z_F := F.out.frozen
          have r_G := G.out.row
          have o_G := G.out.open
          have l_G := G.out.lt
          have c_G := G.out.cell
          have z_G := G.out.frozen
          have r_K := K.out.row
          have o_K := K.out.open
          have l_K := K.out.lt
          have c_K := K.out.cell
          have z_K := K.out.frozen
          have r_P := P.out.row
          have o_P := P.out.open
          have l_P := P.out.lt
          have c_P := P.out.cell
          have z_P := P.out.frozen
          go_wp2_with fail
          clear r_C o_C l_C c_C z_C r_D o_D l_D c_D z_D r_F o_F l_F c_F z_F r_G o_G l_G c_G z_G r_K o_K l_K c_K z_K r_P o_P l_P c_P z_P
          have HBp := HB
          have P2 := at_new w11 43 (#[.int .i64 (s : Int), .int .i64 (idx c1 k s)]) (w11.heap.size) rfl
          replace HB := Lib.hid (HB.out.alloc HB.out.size (.cells (#[.int .i64 (s : Int), .int .i64 (idx c1 k s)]) 43))
          have Cp := C
          replace C := Lib.hid (C.out.alloc (.cells (#[.int .i64 (s : Int), .int .i64 (idx c1 k s)]) 43))
          have Dp := D
          replace D := Lib.hid (D.out.alloc (.cells (#[.int .i64 (s : Int), .int .i64 (idx c1 k s)]) 43))
          have Fp := F
          replace F := Lib.hid (F.out.alloc (.cells (#[.int .i64 (s : Int), .int .i64 (idx c1 k s)]) 43))
          have Gp := G
          replace G := Lib.hid (G.out.alloc (.cells (#[.int .i64 (s : Int), .int .i64 (idx c1 k s)]) 43))
          have Kp := K
          replace K := Lib.hid (K.out.alloc (.cells (#[.int .i64 (s : Int), .int .i64 (idx c1 k s)]) 43))
          have Pp := P
          replace P := Lib.hid (P.out.alloc (.cells (#[.int .i64 (s : Int), .int .i64 (idx c1 k s)]) 43))
          obtain ⟨gp2, hg⟩ : ∃ g, g = w11.heap.size := ⟨_, rfl⟩
          have hgs : gp2 = w11.heap.size := by rw [hg]
          have b_gp2 : w.heap.size ≤ gp2 := by rw [hgs]; exact HBp.out.size
          have S_w12 := Lib.hid (show (w11.alloc (.cells (#[.int .i64 (s : Int), .int .i64 (idx c1 k s)]) 43)).heap.size = gp2 + 1 by rw [World.size_alloc, hgs])
          rw [← hg] at P2
          try rw [← hg]
          have ne_C_P2 : gc ≠ gp2 := by have := Cp.out.lt; omega
          have ne_P2_C : gp2 ≠ gc := fun h => ne_C_P2 h.symm
          have ne_D_P2 : gd ≠ gp2 := by have := Dp.out.lt; omega
          have ne_P2_D : gp2 ≠ gd := fun h => ne_D_P2 h.symm
          have ne_F_P2 : gf ≠ gp2 := by have := Fp.out.lt; omega
          have ne_P2_F : gp2 ≠ gf := fun h => ne_F_P2 h.symm
          have ne_G_P2 : gg ≠ gp2 := by have := Gp.out.lt; omega
          have ne_P2_G : gp2 ≠ gg := fun h => ne_G_P2 h.symm
          have ne_K_P2 : gk ≠ gp2 := by have := Kp.out.lt; omega
          have ne_P2_K : gp2 ≠ gk := fun h => ne_K_P2 h.symm
          have ne_P_P2 : gp ≠ gp2 := by have := Pp.out.lt; omega
          have ne_P2_P : gp2 ≠ gp := fun h => ne_P_P2 h.symm
          clear hg hgs HBp Cp Dp Fp Gp Kp Pp
          replace P2 := Lib.hid P2
          generalize w11.alloc (.cells (#[.int .i64 (s : Int), .int .i64 (idx c1 k s)]) 43) = w12 at *
          clear P P2
          go_roundw
          case rel => exact ⟨s + 1, by omega, by go_num, C.out, D.out, F.out, G.out, K.out, HB.out⟩
          case measure => simp [intOf]; omega
          
        · obtain rfl : s = 2 := by omega
          have r_C := C.out.row
          have o_C := C.out.open
          have l_C := C.out.lt
          have c_C := C.out.cell
          have z_C := C.out.frozen
          have r_D := D.out.row
          have o_D := D.out.open
          have l_D := D.out.lt
          have c_D := D.out.cell
          have z_D := D.out.frozen
          have r_F := F.out.row
          have o_F := F.out.open
          have l_F := F.out.lt
          have c_F := F.out.cell
          have z_F := F.out.frozen
          have r_G := G.out.row
          have o_G := G.out.open
          have l_G := G.out.lt
          have c_G := G.out.cell
          have z_G := G.out.frozen
          have r_K := K.out.row
          have o_K := K.out.open
          have l_K := K.out.lt
          have c_K := K.out.cell
          have z_K := K.out.frozen
          go_wp2_with fail
          clear r_C o_C l_C c_C z_C r_D o_D l_D c_D z_D r_F o_F l_F c_F z_F r_G o_G l_G c_G z_G r_K o_K l_K c_K z_K
          have r_C := C.out.row
          have o_C := C.out.open
          have l_C := C.out.lt
          have c_C := C.out.cell
          have z_C := C.out.frozen
          have r_D := D.out.row
          have o_D := D.out.open
          have l_D := D.out.lt
          have c_D := D.out.cell
          have z_D := D.out.frozen
          have r_F := F.out.row
          have o_F := F.out.open
          have l_F := F.out.lt
          have c_F := F.out.cell
          have z_F := F.out.frozen
          have r_G := G.out.row
          have o_G := G.out.open
          have l_G := G.out.lt
          have c_G := G.out.cell
          have z_G := G.out.frozen
          have r_K := K.out.row
          have o_K := K.out.open
          have l_K := K.out.lt
          have c_K := K.out.cell
          have z_K := K.out.frozen
          refine region_sq (fun _ => False) [(0, true), (1, true), (3, true), (4, true), (2, false), (5, false), (6, true), (7, true), (8, true), (9, true), (10, true), (12, true), (13, true), (11, false), (14, false), (15, false), (16, true), (17, true), (18, true), (19, true), (21, true), (22, true), (20, false), (23, false), (24, true), (25, true), (26, true), (27, false), (28, true), (29, true)] (by kernel_rfl) (by kernel_rfl) (fun _ _ d _ _ h => by cases d <;> exact h) ?_
          repeat (first
            | (refine sq_yes rfl (by rfl) (fun w' hM => by ((try replace hM := hM.of_drew); obtain ⟨hR1, hR2, hR3⟩ := hM.rules; clear hM; go_simp; with_reducible rfl)) ?_; simp only [Act.put, List.setIfInBounds_toArray, List.set_cons_zero, List.set_cons_succ])
            | (refine sq_no rfl (by rfl) ?_; simp only [Act.put, List.setIfInBounds_toArray, List.set_cons_zero, List.set_cons_succ]))
          clear r_C o_C l_C c_C z_C r_D o_D l_D c_D z_D r_F o_F l_F c_F z_F r_G o_G l_G c_G z_G r_K o_K l_K c_K z_K
          replace C := Lib.hid C.out.drew
          replace D := Lib.hid D.out.drew
          replace F := Lib.hid F.out.drew
          replace G := Lib.hid G.out.drew
          replace K := Lib.hid K.out.drew
          replace HB := Lib.hid HB.out.drew
          generalize wr.drew = w13 at *
          refine sq_do_yes rfl (by rfl) (fun K_ hK_ => ?_)
          go_wp2_with fail
          refine (digest_any gf c1 k _ F.out dg1.1 dg1.2).mono ?_
          rintro e w14 ⟨rfl, hb⟩
          have hbs : Below w13.heap.size w13 w14 := step_below (by first | exact Below.refl _ _ | exact (Below.refl _ _).drew | exact (Below.refl _ _).alloc (Nat.le_refl _) _ | exact ((Below.refl _ _).alloc (Nat.le_refl _) _).drew | exact ((Below.refl _ _).drew).alloc (Nat.le_refl _) _ | exact ((Below.refl _ _).alloc (Nat.le_refl _) _).alloc (by simp) _ | exact (((Below.refl _ _).alloc (Nat.le_refl _) _).alloc (by simp) _).drew | exact (((Below.refl _ _).alloc (Nat.le_refl _) _).alloc (by simp) _).alloc (by simp; omega) _) hb
          replace HB := Lib.hid (step_below HB.out hbs)
          replace C := Lib.hid (C.out.below hbs C.out.lt)
          replace D := Lib.hid (D.out.below hbs D.out.lt)
          replace F := Lib.hid (F.out.below hbs F.out.lt)
          replace G := Lib.hid (G.out.below hbs G.out.lt)
          replace K := Lib.hid (K.out.below hbs K.out.lt)
          clear hbs
          go_wp2_with fail
          refine ⟨Mod.of_below hb, ?_⟩
          clear hb
          have r_C := C.out.row
          have o_C := C.out.open
          have l_C := C.out.lt
          have c_C := C.out.cell
          have z_C := C.out.frozen
          have r_D := D.out.row
          have o_D := D.out.open
          have l_D := D.out.lt
          have c_D := D.out.cell
          have z_D := D.out.frozen
          have r_F := F.out.row
          have o_F := F.out.open
          have l_F := F.out.lt
          have c_F := F.out.cell
          have z_F := F.out.frozen
          have r_G := G.out.row
          have o_G := G.out.open
          have l_G := G.out.lt
          have c_G := G.out.cell
          have z_G := G.out.frozen
          have r_K := K.out.row
          have o_K := K.out.open
          have l_K := K.out.lt
          have c_K := K.out.cell
          have z_K := K.out.frozen
          repeat (first
            | (refine sq_yes rfl (by rfl) (fun w' hM => by ((try replace hM := hM.of_drew); obtain ⟨hR1, hR2, hR3⟩ := hM.rules; clear hM; go_simp; with_reducible rfl)) ?_; simp only [Act.put, List.setIfInBounds_toArray, List.set_cons_zero, List.set_cons_succ])
            | (refine sq_no rfl (by rfl) ?_; simp only [Act.put, List.setIfInBounds_toArray, List.set_cons_zero, List.set_cons_succ]))
          clear r_C o_C l_C c_C z_C r_D o_D l_D c_D z_D r_F o_F l_F c_F z_F r_G o_G l_G c_G z_G r_K o_K l_K c_K z_K
          refine sq_do_yes rfl (by rfl) (fun K_ hK_ => ?_)
          go_wp2_with fail
          refine (digest_any gg d k _ G.out dg2.1 dg2.2).mono ?_
          rintro e w15 ⟨rfl, hb⟩
          have hbs : Below w14.heap.size w14 w15 := step_below (by first | exact Below.refl _ _ | exact (Below.refl _ _).drew | exact (Below.refl _ _).alloc (Nat.le_refl _) _ | exact ((Below.refl _ _).alloc (Nat.le_refl _) _).drew | exact ((Below.refl _ _).drew).alloc (Nat.le_refl _) _ | exact ((Below.refl _ _).alloc (Nat.le_refl _) _).alloc (by simp) _ | exact (((Below.refl _ _).alloc (Nat.le_refl _) _).alloc (by simp) _).drew | exact (((Below.refl _ _).alloc (Nat.le_refl _) _).alloc (by simp) _).alloc (by simp; omega) _) hb
          replace HB := Lib.hid (step_below HB.out hbs)
          replace C := Lib.hid (C.out.below hbs C.out.lt)
          replace D := Lib.hid (D.out.below hbs D.out.lt)
          replace F := Lib.hid (F.out.below hbs F.out.lt)
          replace G := Lib.hid (G.out.below hbs G.out.lt)
          replace K := Lib.hid (K.out.below hbs K.out.lt)
          clear hbs
          go_wp2_with fail
          refine ⟨Mod.of_below hb, ?_⟩
          clear hb
          have r_C := C.out.row
          have o_C := C.out.open
          have l_C := C.out.lt
          have c_C := C.out.cell
          have z_C := C.out.frozen
          have r_D := D.out.row
          have o_D := D.out.open
          have l_D := D.out.lt
          have c_D := D.out.cell
          have z_D := D.out.frozen
          have r_F := F.out.row
          have o_F := F.out.open
          have l_F := F.out.lt
          have c_F := F.out.cell
          have z_F := F.out.frozen
          have r_G := G.out.row
          have o_G := G.out.open
          have l_G := G.out.lt
          have c_G := G.out.cell
          have z_G := G.out.frozen
          have r_K := K.out.row
          have o_K := K.out.open
          have l_K := K.out.lt
          have c_K := K.out.cell
          have z_K := K.out.frozen
          repeat (first
            | (refine sq_yes rfl (by rfl) (fun w' hM => by ((try replace hM := hM.of_drew); obtain ⟨hR1, hR2, hR3⟩ := hM.rules; clear hM; go_simp; with_reducible rfl)) ?_; simp only [Act.put, List.setIfInBounds_toArray, List.set_cons_zero, List.set_cons_succ])
            | (refine sq_no rfl (by rfl) ?_; simp only [Act.put, List.setIfInBounds_toArray, List.set_cons_zero, List.set_cons_succ]))
          clear r_C o_C l_C c_C z_C r_D o_D l_D c_D z_D r_F o_F l_F c_F z_F r_G o_G l_G c_G z_G r_K o_K l_K c_K z_K
          refine sq_do_yes rfl (by rfl) (fun K_ hK_ => ?_)
          go_wp2_with fail
          refine (bits_any gf c1 k _ F.out e5.1 e5.2 e7).mono ?_
          rintro e w16 ⟨v, rfl, ho, hb⟩
          have hbs : Below w15.heap.size w15 w16 := step_below (by first | exact Below.refl _ _ | exact (Below.refl _ _).drew | exact (Below.refl _ _).alloc (Nat.le_refl _) _ | exact ((Below.refl _ _).alloc (Nat.le_refl _) _).drew | exact ((Below.refl _ _).drew).alloc (Nat.le_refl _) _ | exact ((Below.refl _ _).alloc (Nat.le_refl _) _).alloc (by simp) _ | exact (((Below.refl _ _).alloc (Nat.le_refl _) _).alloc (by simp) _).drew | exact (((Below.refl _ _).alloc (Nat.le_refl _) _).alloc (by simp) _).alloc (by simp; omega) _) hb
          replace HB := Lib.hid (step_below HB.out hbs)
          replace C := Lib.hid (C.out.below hbs C.out.lt)
          replace D := Lib.hid (D.out.below hbs D.out.lt)
          replace F := Lib.hid (F.out.below hbs F.out.lt)
          replace G := Lib.hid (G.out.below hbs G.out.lt)
          replace K := Lib.hid (K.out.below hbs K.out.lt)
          clear hbs
          obtain ⟨b1, m1, q1, rfl, hm1, hy1, _⟩ := ho.parts
          have Y1 := Lib.hid hy1
          rw [bitsOf_length c1 k KV.out] at hm1
          have M1 : m1 ≤ 1000000 := by omega
          clear hm1
          clear ho hy1
          go_wp2_with fail
          refine ⟨Mod.of_below hb, ?_⟩
          clear hb
          have r_C := C.out.row
          have o_C := C.out.open
          have l_C := C.out.lt
          have c_C := C.out.cell
          have z_C := C.out.frozen
          have r_D := D.out.row
          have o_D := D.out.open
          have l_D := D.out.lt
          have c_D := D.out.cell
          have z_D := D.out.frozen
          have r_F := F.out.row
          have o_F := F.out.open
          have l_F := F.out.lt
          have c_F := F.out.cell
          have z_F := F.out.frozen
          have r_G := G.out.row
          have o_G := G.out.open
          have l_G := G.out.lt
          have c_G := G.out.cell
          have z_G := G.out.frozen
          have r_K := K.out.row
          have o_K := K.out.open
          have l_K := K.out.lt
          have c_K := K.out.cell
          have z_K := K.out.frozen
          repeat (first
            | (refine sq_yes rfl (by rfl) (fun w' hM => by ((try replace hM := hM.of_drew); obtain ⟨hR1, hR2, hR3⟩ := hM.rules; clear hM; go_simp; with_reducible rfl)) ?_; simp only [Act.put, List.setIfInBounds_toArray, List.set_cons_zero, List.set_cons_succ])
            | (refine sq_no rfl (by rfl) ?_; simp only [Act.put, List.setIfInBounds_toArray, List.set_cons_zero, List.set_cons_succ]))
          clear r_C o_C l_C c_C z_C r_D o_D l_D c_D z_D r_F o_F l_F c_F z_F r_G o_G l_G c_G z_G r_K o_K l_K c_K z_K
          refine sq_do_yes rfl (by rfl) (fun K_ hK_ => ?_)
          go_wp2_with fail
          refine (bits_any gg d k _ G.out e6.1 e6.2 e8).mono ?_
          rintro e w17 ⟨v, rfl, ho, hb⟩
          have hbs : Below w16.heap.size w16 w17 := step_below (by first | exact Below.refl _ _ | exact (Below.refl _ _).drew | exact (Below.refl _ _).alloc (Nat.le_refl _) _ | exact ((Below.refl _ _).alloc (Nat.le_refl _) _).drew | exact ((Below.refl _ _).drew).alloc (Nat.le_refl _) _ | exact ((Below.refl _ _).alloc (Nat.le_refl _) _).alloc (by simp) _ | exact (((Below.refl _ _).alloc (Nat.le_refl _) _).alloc (by simp) _).drew | exact (((Below.refl _ _).alloc (Nat.le_refl _) _).alloc (by simp) _).alloc (by simp; omega) _) hb
          replace HB := Lib.hid (step_below HB.out hbs)
          replace C := Lib.hid (C.out.below hbs C.out.lt)
          replace D := Lib.hid (D.out.below hbs D.out.lt)
          replace F := Lib.hid (F.out.below hbs F.out.lt)
          replace G := Lib.hid (G.out.below hbs G.out.lt)
          replace K := Lib.hid (K.out.below hbs K.out.lt)
          replace Y1 := Lib.hid (Y1.out.below hbs)
          clear hbs
          obtain ⟨b2, m2, q2, rfl, hm2, hy2, _⟩ := ho.parts
          have Y2 := Lib.hid hy2
          rw [bitsOf_length d k KV.out] at hm2
          have M2 : m2 ≤ 1000000 := by omega
          clear hm2
          clear ho hy2
          go_wp2_with fail
          refine ⟨Mod.of_below hb, ?_⟩
          clear hb
          have r_C := C.out.row
          have o_C := C.out.open
          have l_C := C.out.lt
          have c_C := C.out.cell
          have z_C := C.out.frozen
          have r_D := D.out.row
          have o_D := D.out.open
          have l_D := D.out.lt
          have c_D := D.out.cell
          have z_D := D.out.frozen
          have r_F := F.out.row
          have o_F := F.out.open
          have l_F := F.out.lt
          have c_F := F.out.cell
          have z_F := F.out.frozen
          have r_G := G.out.row
          have o_G := G.out.open
          have l_G := G.out.lt
          have c_G := G.out.cell
          have z_G := G.out.frozen
          have r_K := K.out.row
          have o_K := K.out.open
          have l_K := K.out.lt
          have c_K := K.out.cell
          have z_K := K.out.frozen
          repeat (first
            | (refine sq_yes rfl (by rfl) (fun w' hM => by ((try replace hM := hM.of_drew); obtain ⟨hR1, hR2, hR3⟩ := hM.rules; clear hM; go_simp; with_reducible rfl)) ?_; simp only [Act.put, List.setIfInBounds_toArray, List.set_cons_zero, List.set_cons_succ])
            | (refine sq_no rfl (by rfl) ?_; simp only [Act.put, List.setIfInBounds_toArray, List.set_cons_zero, List.set_cons_succ]))
          clear r_C o_C l_C c_C z_C r_D o_D l_D c_D z_D r_F o_F l_F c_F z_F r_G o_G l_G c_G z_G r_K o_K l_K c_K z_K
          refine sq_do_yes rfl (by rfl) (fun K_ hK_ => ?_)
          go_wp2_with fail
          refine (ints_any b1 m1 q1 _ b2 m2 q2 _ _ Y1.out Y2.out M1 M2).mono ?_
          rintro e w18 ⟨rfl, hb⟩
          have hbs : Below w17.heap.size w17 w18 := step_below (by first | exact Below.refl _ _ | exact (Below.refl _ _).drew | exact (Below.refl _ _).alloc (Nat.le_refl _) _ | exact ((Below.refl _ _).alloc (Nat.le_refl _) _).drew | exact ((Below.refl _ _).drew).alloc (Nat.le_refl _) _ | exact ((Below.refl _ _).alloc (Nat.le_refl _) _).alloc (by simp) _ | exact (((Below.refl _ _).alloc (Nat.le_refl _) _).alloc (by simp) _).drew | exact (((Below.refl _ _).alloc (Nat.le_refl _) _).alloc (by simp) _).alloc (by simp; omega) _) hb
          replace HB := Lib.hid (step_below HB.out hbs)
          replace C := Lib.hid (C.out.below hbs C.out.lt)
          replace D := Lib.hid (D.out.below hbs D.out.lt)
          replace F := Lib.hid (F.out.below hbs F.out.lt)
          replace G := Lib.hid (G.out.below hbs G.out.lt)
          replace K := Lib.hid (K.out.below hbs K.out.lt)
          replace Y1 := Lib.hid (Y1.out.below hbs)
          replace Y2 := Lib.hid (Y2.out.below hbs)
          clear hbs
          rw [BE.out]
          go_wp2_with fail
          refine ⟨Mod.of_below hb, ?_⟩
          clear hb
          have r_C := C.out.row
          have o_C := C.out.open
          have l_C := C.out.lt
          have c_C := C.out.cell
          have z_C := C.out.frozen
          have r_D := D.out.row
          have o_D := D.out.open
          have l_D := D.out.lt
          have c_D := D.out.cell
          have z_D := D.out.frozen
          have r_F := F.out.row
          have o_F := F.out.open
          have l_F := F.out.lt
          have c_F := F.out.cell
          have z_F := F.out.frozen
          have r_G := G.out.row
          have o_G := G.out.open
          have l_G := G.out.lt
          have c_G := G.out.cell
          have z_G := G.out.frozen
          have r_K := K.out.row
          have o_K := K.out.open
          have l_K := K.out.lt
          have c_K := K.out.cell
          have z_K := K.out.frozen
          repeat (first
            | (refine sq_yes rfl (by rfl) (fun w' hM => by ((try replace hM := hM.of_drew); obtain ⟨hR1, hR2, hR3⟩ := hM.rules; clear hM; go_simp; with_reducible rfl)) ?_; simp only [Act.put, List.setIfInBounds_toArray, List.set_cons_zero, List.set_cons_succ])
            | (refine sq_no rfl (by rfl) ?_; simp only [Act.put, List.setIfInBounds_toArray, List.set_cons_zero, List.set_cons_succ]))
          clear r_C o_C l_C c_C z_C r_D o_D l_D c_D z_D r_F o_F l_F c_F z_F r_G o_G l_G c_G z_G r_K o_K l_K c_K z_K
          refine sq_do_yes rfl (by rfl) (fun K_ hK_ => ?_)
          go_wp2_with fail
          refine (slot_any gf c1 k 17 _ F.out).mono ?_
          rintro e w19 ⟨rfl, hb⟩
          have hbs : Below w18.heap.size w18 w19 := step_below (by first | exact Below.refl _ _ | exact (Below.refl _ _).drew | exact (Below.refl _ _).alloc (Nat.le_refl _) _ | exact ((Below.refl _ _).alloc (Nat.le_refl _) _).drew | exact ((Below.refl _ _).drew).alloc (Nat.le_refl _) _ | exact ((Below.refl _ _).alloc (Nat.le_refl _) _).alloc (by simp) _ | exact (((Below.refl _ _).alloc (Nat.le_refl _) _).alloc (by simp) _).drew | exact (((Below.refl _ _).alloc (Nat.le_refl _) _).alloc (by simp) _).alloc (by simp; omega) _) hb
          replace HB := Lib.hid (step_below HB.out hbs)
          replace C := Lib.hid (C.out.below hbs C.out.lt)
          replace D := Lib.hid (D.out.below hbs D.out.lt)
          replace F := Lib.hid (F.out.below hbs F.out.lt)
          replace G := Lib.hid (G.out.below hbs G.out.lt)
          replace K := Lib.hid (K.out.below hbs K.out.lt)
          replace Y1 := Lib.hid (Y1.out.below hbs)
          replace Y2 := Lib.hid (Y2.out.below hbs)
          clear hbs
          go_wp2_with fail
          refine ⟨Mod.of_below hb, ?_⟩
          clear hb
          have r_C := C.out.row
          have o_C := C.out.open
          have l_C := C.out.lt
          have c_C := C.out.cell
          have z_C := C.out.frozen
          have r_D := D.out.row
          have o_D := D.out.open
          have l_D := D.out.lt
          have c_D := D.out.cell
          have z_D := D.out.frozen
          have r_F := F.out.row
          have o_F := F.out.open
          have l_F := F.out.lt
          have c_F := F.out.cell
          have z_F := F.out.frozen
          have r_G := G.out.row
          have o_G := G.out.open
          have l_G := G.out.lt
          have c_G := G.out.cell
          have z_G := G.out.frozen
          have r_K := K.out.row
          have o_K := K.out.open
          have l_K := K.out.lt
          have c_K := K.out.cell
          have z_K := K.out.frozen
          repeat (first
            | (refine sq_yes rfl (by rfl) (fun w' hM => by ((try replace hM := hM.of_drew); obtain ⟨hR1, hR2, hR3⟩ := hM.rules; clear hM; go_simp; with_reducible rfl)) ?_; simp only [Act.put, List.setIfInBounds_toArray, List.set_cons_zero, List.set_cons_succ])
            | (refine sq_no rfl (by rfl) ?_; simp only [Act.put, List.setIfInBounds_toArray, List.set_cons_zero, List.set_cons_succ]))
          clear r_C o_C l_C c_C z_C r_D o_D l_D c_D z_D r_F o_F l_F c_F z_F r_G o_G l_G c_G z_G r_K o_K l_K c_K z_K
          refine sq_do_yes rfl (by rfl) (fun K_ hK_ => ?_)
          go_wp2_with fail
          refine (slot_any gg d k 17 _ G.out).mono ?_
          rintro e w20 ⟨rfl, hb⟩
          have hbs : Below w19.heap.size w19 w20 := step_below (by first | exact Below.refl _ _ | exact (Below.refl _ _).drew | exact (Below.refl _ _).alloc (Nat.le_refl _) _ | exact ((Below.refl _ _).alloc (Nat.le_refl _) _).drew | exact ((Below.refl _ _).drew).alloc (Nat.le_refl _) _ | exact ((Below.refl _ _).alloc (Nat.le_refl _) _).alloc (by simp) _ | exact (((Below.refl _ _).alloc (Nat.le_refl _) _).alloc (by simp) _).drew | exact (((Below.refl _ _).alloc (Nat.le_refl _) _).alloc (by simp) _).alloc (by simp; omega) _) hb
          replace HB := Lib.hid (step_below HB.out hbs)
          replace C := Lib.hid (C.out.below hbs C.out.lt)
          replace D := Lib.hid (D.out.below hbs D.out.lt)
          replace F := Lib.hid (F.out.below hbs F.out.lt)
          replace G := Lib.hid (G.out.below hbs G.out.lt)
          replace K := Lib.hid (K.out.below hbs K.out.lt)
          replace Y1 := Lib.hid (Y1.out.below hbs)
          replace Y2 := Lib.hid (Y2.out.below hbs)
          clear hbs
          rw [SE.out]
          go_wp2_with fail
          refine ⟨Mod.of_below hb, ?_⟩
          clear hb
          have r_C := C.out.row
          have o_C := C.out.open
          have l_C := C.out.lt
          have c_C := C.out.cell
          have z_C := C.out.frozen
          have r_D := D.out.row
          have o_D := D.out.open
          have l_D := D.out.lt
          have c_D := D.out.cell
          have z_D := D.out.frozen
          have r_F := F.out.row
          have o_F := F.out.open
          have l_F := F.out.lt
          have c_F := F.out.cell
          have z_F := F.out.frozen
          have r_G := G.out.row
          have o_G := G.out.open
          have l_G := G.out.lt
          have c_G := G.out.cell
          have z_G := G.out.frozen
          have r_K := K.out.row
          have o_K := K.out.open
          have l_K := K.out.lt
          have c_K := K.out.cell
          have z_K := K.out.frozen
          repeat (first
            | (refine sq_yes rfl (by rfl) (fun w' hM => by ((try replace hM := hM.of_drew); obtain ⟨hR1, hR2, hR3⟩ := hM.rules; clear hM; go_simp; with_reducible rfl)) ?_; simp only [Act.put, List.setIfInBounds_toArray, List.set_cons_zero, List.set_cons_succ])
            | (refine sq_no rfl (by rfl) ?_; simp only [Act.put, List.setIfInBounds_toArray, List.set_cons_zero, List.set_cons_succ]))
          clear r_C o_C l_C c_C z_C r_D o_D l_D c_D z_D r_F o_F l_F c_F z_F r_G o_G l_G c_G z_G r_K o_K l_K c_K z_K
          refine sq_do_yes rfl (by rfl) (fun K_ hK_ => ?_)
          go_wp2_with fail
          refine (awake_any _).mono ?_
          rintro e w21 ⟨rfl, hb⟩
          have hbs : Below w20.heap.size w20 w21 := step_below (by first | exact Below.refl _ _ | exact (Below.refl _ _).drew | exact (Below.refl _ _).alloc (Nat.le_refl _) _ | exact ((Below.refl _ _).alloc (Nat.le_refl _) _).drew | exact ((Below.refl _ _).drew).alloc (Nat.le_refl _) _ | exact ((Below.refl _ _).alloc (Nat.le_refl _) _).alloc (by simp) _ | exact (((Below.refl _ _).alloc (Nat.le_refl _) _).alloc (by simp) _).drew | exact (((Below.refl _ _).alloc (Nat.le_refl _) _).alloc (by simp) _).alloc (by simp; omega) _) hb
          replace HB := Lib.hid (step_below HB.out hbs)
          replace C := Lib.hid (C.out.below hbs C.out.lt)
          replace D := Lib.hid (D.out.below hbs D.out.lt)
          replace F := Lib.hid (F.out.below hbs F.out.lt)
          replace G := Lib.hid (G.out.below hbs G.out.lt)
          replace K := Lib.hid (K.out.below hbs K.out.lt)
          replace Y1 := Lib.hid (Y1.out.below hbs)
          replace Y2 := Lib.hid (Y2.out.below hbs)
          clear hbs
          go_wp2_with fail
          refine ⟨Mod.of_below hb, ?_⟩
          clear hb
          have r_C := C.out.row
          have o_C := C.out.open
          have l_C := C.out.lt
          have c_C := C.out.cell
          have z_C := C.out.frozen
          have r_D := D.out.row
          have o_D := D.out.open
          have l_D := D.out.lt
          have c_D := D.out.cell
          have z_D := D.out.frozen
          have r_F := F.out.row
          have o_F := F.out.open
          have l_F := F.out.lt
          have c_F := F.out.cell
          have z_F := F.out.frozen
          have r_G := G.out.row
          have o_G := G.out.open
          have l_G := G.out.lt
          have c_G := G.out.cell
          have z_G := G.out.frozen
          have r_K := K.out.row
          have o_K := K.out.open
          have l_K := K.out.lt
          have c_K := K.out.cell
          have z_K := K.out.frozen
          repeat (first
            | (refine sq_yes rfl (by rfl) (fun w' hM => by ((try replace hM := hM.of_drew); obtain ⟨hR1, hR2, hR3⟩ := hM.rules; clear hM; go_simp; with_reducible rfl)) ?_; simp only [Act.put, List.setIfInBounds_toArray, List.set_cons_zero, List.set_cons_succ])
            | (refine sq_no rfl (by rfl) ?_; simp only [Act.put, List.setIfInBounds_toArray, List.set_cons_zero, List.set_cons_succ]))
          clear r_C o_C l_C c_C z_C r_D o_D l_D c_D z_D r_F o_F l_F c_F z_F r_G o_G l_G c_G z_G r_K o_K l_K c_K z_K
          refine sq_end ?_
          go_wp2_with fail
          go_ret
          exact ⟨rfl, HB.out⟩
      
end Go.Proofs.Ytjjadakjkkmjgaa
