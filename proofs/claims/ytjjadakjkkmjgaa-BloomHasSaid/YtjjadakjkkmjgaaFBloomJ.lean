/-
  BloomHas: its walk.
-/
import Derived.Test.YtjjadakjkkmjgaaFBloomI
import Derived.Test.YtjjadakjkkmjgaaFBloomP
namespace Go.Proofs.Ytjjadakjkkmjgaa
open Go.RowKit
/-- A slice of integers that came in: what is made later leaves it alone. -/
def InI (B : Nat) (w : World) (a : Option Addr) (n : Nat) (l : List Int) : Prop := Ints w a n l ∧ (0 < n → ∀ b o, a = some ⟨b, o, none⟩ → b < B)
theorem InI.below {B : Nat} {w w' : World} {a : Option Addr} {n : Nat} {l : List Int} (h : InI B w a n l) (hb : Below w.heap.size w w') : InI B w' a n l := ⟨h.1.below hb, h.2⟩
theorem InI.drew {B : Nat} {w : World} {a : Option Addr} {n : Nat} {l : List Int} (h : InI B w a n l) : InI B w.drew a n l := h
theorem InI.modb {B : Nat} {w w' : World} {M : Nat → Prop} {a : Option Addr} {n : Nat} {l : List Int} (h : InI B w a n l) (hm : Mod M w w') (hM : ∀ i, M i → B ≤ i) : InI B w' a n l := by
  refine ⟨⟨h.1.1, fun hn => ?_⟩, h.2⟩
  exact (h.1.mod hm (fun b o hab hb => by have := h.2 hn b o hab; have := hM b hb; omega)).2 hn
theorem InI.get {B : Nat} {w : World} {b o n : Nat} {l : List Int} (h : InI B w (some ⟨b, o, none⟩) n l) (t : Nat) (ht : t < n) : w.cell? ⟨b, o + t, none⟩ = some (.int .i64 (l.getD t 0)) := by
  obtain ⟨b', o', hab, _, hc⟩ := h.1.2 (by omega)
  simp only [Option.some.injEq, Addr.mk.injEq, and_true] at hab
  obtain ⟨rfl, rfl⟩ := hab
  exact hc t ht
theorem InI.addr {B : Nat} {w : World} {a : Option Addr} {n : Nat} {l : List Int} (h : InI B w a n l) (hn : 0 < n) : ∃ b o, a = some ⟨b, o, none⟩ := by
  obtain ⟨b, o, hab, _, _⟩ := h.1.2 hn
  exact ⟨b, o, hab⟩
theorem IsRow.inI {w : World} {a : Option Addr} {len cap : Nat} {zs : List Int} (h : IsRow .i64 w a len cap zs) : InI w.heap.size w a len (zs.take len) := by
  refine ⟨h.ints.1, fun hn b o hab => ?_⟩
  obtain ⟨b', o', hab', hlt, _⟩ := h.ints.1.2 hn
  rw [hab] at hab'
  simp only [Option.some.injEq, Addr.mk.injEq, and_true] at hab'
  omega
/-- A filter into which some flows were put. -/
def fill (key : Int → Ky) (c : Cf) (N : Nat) (ws : List Nat) (L : List Int) : List Nat := L.foldl (fun ws a => insAll ws (pN c (key a) N)) ws
theorem fill_snoc (key : Int → Ky) (c : Cf) (N : Nat) (ws : List Nat) (L : List Int) (a : Int) : fill key c N ws (L ++ [a]) = insAll (fill key c N ws L) (pN c (key a) N) := by simp [fill, List.foldl_append]
theorem fill_length (key : Int → Ky) (c : Cf) (N : Nat) : ∀ (L : List Int) (ws : List Nat), (fill key c N ws L).length = ws.length
  | [], _ => rfl
  | a :: r, ws => by show (fill key c N (insAll ws (pN c (key a) N)) r).length = _; rw [fill_length key c N r, insAll_length]
theorem fill_lt (key : Int → Ky) (c : Cf) (N : Nat) : ∀ (L : List Int) (ws : List Nat), (∀ x ∈ ws, x < 18446744073709551616) → ∀ x ∈ fill key c N ws L, x < 18446744073709551616
  | [], _, h => h
  | a :: r, ws, h => fill_lt key c N r (insAll ws (pN c (key a) N)) (insAll_lt _ ws h)
theorem fill_take (key : Int → Ky) (c : Cf) (N : Nat) (ws : List Nat) (L : List Int) (t : Nat) (h : t < L.length) : insAll (fill key c N ws (L.take t)) (pN c (key (L.getD t 0)) N) = fill key c N ws (L.take (t + 1)) := by
  rw [List.take_succ_eq_append_getElem h, fill_snoc]
  congr 2
  rw [List.getD_eq_getElem?_getD, List.getElem?_eq_getElem h]; rfl
theorem bt_fill (key : Int → Ky) (c : Cf) (N : Nat) (hN : 1 ≤ N) : ∀ (L : List Int) (ws : List Nat) (p : Nat), N ≤ ws.length * 64 → bt (fill key c N ws L) p = (decide (∃ a, a ∈ L ∧ p ∈ pN c (key a) N) || bt ws p)
  | [], ws, p, _ => by simp [fill]
  | a :: r, ws, p, h => by
    have hl : ∀ q ∈ pN c (key a) N, q / 64 < ws.length := fun q hq => by have := pN_lt c (key a) N hN q hq; omega
    show bt (fill key c N (insAll ws (pN c (key a) N)) r) p = _
    rw [bt_fill key c N hN r _ p (by rw [insAll_length]; exact h), bt_insAll _ _ _ hl]
    by_cases h1 : p ∈ pN c (key a) N <;> by_cases h2 : ∃ b, b ∈ r ∧ p ∈ pN c (key b) N <;> simp [h1, h2]
theorem has_fill (key : Int → Ky) (c : Cf) (N : Nat) (hN : 1 ≤ N) (L : List Int) (ws : List Nat) (h : N ≤ ws.length * 64) (a : Int) (ha : a ∈ L) (hk : kvld (key a) = true) (hh : 1 ≤ c.hashes) : hasB (fill key c N ws L) (pN c (key a) N) = true := by
  unfold hasB
  have hne : pN c (key a) N ≠ [] := fun he => by
    have h1 : (pN c (key a) N).length = c.hashes.toNat := by unfold pN; rw [List.length_map, bitsOf_length c _ hk]
    rw [he] at h1; simp at h1; omega
  have hall : (pN c (key a) N).all (bt (fill key c N ws L)) = true := by
    rw [List.all_eq_true]
    intro p hp
    rw [bt_fill key c N hN L ws p h]
    have : ∃ b, b ∈ L ∧ p ∈ pN c (key b) N := ⟨a, ha, hp⟩
    simp [this]
  rw [hall]
  cases hq : pN c (key a) N with
  | nil => exact absurd hq hne
  | cons _ _ => rfl
theorem hasB_eq (c : Cf) (k : Ky) (N : Nat) (ws : List Nat) (hk : kvld k = true) (hh : 1 ≤ c.hashes) : hasB ws (pN c k N) = (pN c k N).all (bt ws) := by
  have h1 : (pN c k N).length = c.hashes.toNat := by unfold pN; rw [List.length_map, bitsOf_length c k hk]
  unfold hasB
  cases hq : pN c k N with
  | nil => rw [hq] at h1; simp at h1; omega
  | cons _ _ => simp
theorem bt_zero (n p : Nat) : bt (List.replicate n 0) p = false := by
  unfold bt
  have : (List.replicate n 0).getD (p / 64) 0 = 0 := by
    rw [List.getD_eq_getElem?_getD, List.getElem?_replicate]
    split <;> rfl
  rw [this, Nat.zero_testBit]
theorem has_zero (c : Cf) (k : Ky) (N n : Nat) : hasB (List.replicate n 0) (pN c k N) = false := by
  unfold hasB
  cases pN c k N with
  | nil => rfl
  | cons p r => simp [bt_zero]
theorem cnt_zero : ∀ n : Nat, cntW (List.replicate n 0) = 0
  | 0 => rfl
  | n + 1 => by
    have := cnt_zero n
    unfold cntW at *
    rw [List.replicate_succ, List.map_cons, List.sum_cons, this]
    rfl
theorem ones_zero (n N : Nat) : onesTo (List.replicate n 0) N = [] := by
  unfold onesTo
  rw [List.filter_eq_nil_iff]
  intro p _
  rw [bt_zero]; simp
def kyZ : Ky := ⟨0, adr0 false, adr0 false, 0, 0, by omega, by omega, by omega⟩
attribute [local go_sem ↓] exec_bldK
theorem build40z (w : World) : bldX Try.prog 40 #[] w = .ok (.value (.agg (kc kyZ))) w := bldX_of w (by kernel_rfl)
theorem pN_zero (c : Cf) (N : Nat) : pN c kyZ N = [] := by
  unfold pN bitsOf
  rw [show kvld kyZ = false from by kernel_rfl]; rfl
def akF (a : Int) : Ky := akey a false false
set_option maxRecDepth 100000 in
set_option maxHeartbeats 32000000 in
theorem has_law (a0 : Option Addr) (n0 c0 : Nat) (z0 : List Int) (a1 : Int) (a2 : Option Addr) (n2 c2 : Nat) (z2 : List Int) (w : World) (h0 : IsRow .i64 w a0 n0 c0 z0) (_ : (Lit.int .i64 a1).wf = true) (h2 : IsRow .i64 w a2 n2 c2 z2) :
    Calls Try.prog 8 #[.slice a0 n0 c0, .int .i64 a1, .slice a2 n2 c2] w fun e w' => e = .returned (.bool true) ∧ Below w.heap.size w w' := by
  obtain ⟨hI, hm, _⟩ := h0.ints
  have HI := Lib.hid hI
  have Y := Lib.hid h2.inI
  have hm2 := h2.ints.2.1
  have HZ := Lib.hid h2.ints.1.1
  clear h0 hI h2
  unfold maxLen at hm hm2
  have hcase : 30 < n0 ∨ (n0 ≤ 30 ∧ 60 < n2) ∨ (n0 ≤ 30 ∧ n2 ≤ 60 ∧ a1 < 1) ∨ (n0 ≤ 30 ∧ n2 ≤ 60 ∧ 1 ≤ a1 ∧ 65536 < a1) ∨ (n0 ≤ 30 ∧ n2 ≤ 60 ∧ 1 ≤ a1 ∧ a1 ≤ 65536) := by omega
  rcases hcase with hn | ⟨hn, hn2⟩ | ⟨hn, hn2, hn3⟩ | ⟨hn, hn2, hn3, hn4⟩ | ⟨hn, hn2, hn3, hn4⟩
  iterate 4
    · go_enter Try.func8, Try.ntmps8
      go_wp2_with fail
      refine (bawake_any _).mono ?_
      rintro e w1 ⟨rfl, hb⟩
      go_wp2_with fail
      go_ret
      exact ⟨rfl, hb⟩
  · obtain ⟨N, rfl⟩ : ∃ N : Nat, a1 = N := ⟨a1.toNat, by omega⟩
    have hN1 : 1 ≤ N := by omega
    have hN2 : N ≤ 65536 := by omega
    clear hn3 hn4
    obtain ⟨c, hc⟩ : ∃ c, c = config (z0.take n0) := ⟨_, rfl⟩
    have KC := Lib.hid (fun (w : World) (h : Ints w a0 n0 (z0.take n0)) => config_any a0 n0 c0 (z0.take n0) w h (by omega))
    rw [← hc] at KC
    have OK := Lib.hid (show cok c = true by rw [hc]; exact cok_config _)
    have FC := Lib.hid (fits_of OK.out)
    clear hc
    have hst := fun (w : World) (n : Nat) (Z : Array Value) (hn : n = w.heap.size) (hZ : Z.size = 48) => store_new (P := Try.prog) sizeC w n Z (cc c) hn hZ (cc_size _) (cc_one _)
    have KK := Lib.hid (fun a w => key_any a false false w)
    have KV := Lib.hid (fun a => kvld_akey a false false)
    have hbz := build40z
    obtain ⟨hh, hhh⟩ : ∃ hh : Nat, c.hashes = hh := ⟨c.hashes.toNat, by have := FC.out.ha; omega⟩
    have HH := Lib.hid hhh
    have hh4 : 1 ≤ hh ∧ hh ≤ 4 := by have := FC.out.ha; omega
    have e5 : Hid (0 ≤ c.hashes ∧ c.hashes ≤ 80) := Lib.hid (by have := FC.out.ha; omega)
    have e7 : Hid (1 ≤ c.bloom) := Lib.hid (by have := FC.out.bl; omega)
    clear hhh
    obtain ⟨I, hIe⟩ : ∃ I, I = z2.take n2 := ⟨_, rfl⟩
    rw [← hIe] at Y HZ
    clear hIe
    obtain ⟨n, hne⟩ : ∃ n, n = nw N := ⟨_, rfl⟩
    have NW := Lib.hid hne
    have hn64 : N ≤ n * 64 := by rw [hne]; unfold nw; omega
    have hn1k : n ≤ 1024 ∧ 1 ≤ n := by rw [hne]; unfold nw; omega
    obtain ⟨Z, hZe⟩ : ∃ Z, Z = List.replicate n 0 := ⟨_, rfl⟩
    have ZE := Lib.hid hZe
    have ZL := Lib.hid (show Z.length = n by rw [hZe]; simp)
    have ZX := Lib.hid (show ∀ x ∈ Z, x < 18446744073709551616 by rw [hZe]; exact lt_of_rep n)
    clear hne hZe
    have FL := Lib.hid (fun L => (fill_length akF c N L Z).trans ZL.out)
    have FX := Lib.hid (fun L => fill_lt akF c N L Z ZX.out)
    go_enter Try.func8, Try.ntmps8
    have HB := Lib.hid (Below.refl w.heap.size w)
    
    go_wp2_with fail
    refine (KC.out _ HI.out).mono ?_
    rintro e w1 ⟨rfl, hb⟩
    have hbs : Below w.heap.size w w1 := step_below (by first | exact Below.refl _ _ | exact (Below.refl _ _).drew | exact (Below.refl _ _).alloc (Nat.le_refl _) _ | exact ((Below.refl _ _).alloc (Nat.le_refl _) _).drew | exact ((Below.refl _ _).drew).alloc (Nat.le_refl _) _ | exact ((Below.refl _ _).alloc (Nat.le_refl _) _).alloc (by simp) _ | exact (((Below.refl _ _).alloc (Nat.le_refl _) _).alloc (by simp) _).drew | exact (((Below.refl _ _).alloc (Nat.le_refl _) _).alloc (by simp) _).alloc (by simp; omega) _) hb
    try clear HBz
    have HBz := HB.out.size
    replace HB := Lib.hid (step_below HB.out hbs)
    replace Y := Lib.hid (Y.out.below hbs)
    clear hbs
    clear hb
    go_wp2_with fail
    have HBp := HB
    have C := at_new w1 29 (cc c) (w1.heap.size) rfl
    replace HB := Lib.hid (HB.out.alloc HB.out.size (.cells (cc c) 29))
    have Yp := Y
    replace Y := Lib.hid (Y.out.below ((Below.refl _ _).alloc (Nat.le_refl _) (.cells (cc c) 29)))
    obtain ⟨gc, hg⟩ : ∃ g, g = w1.heap.size := ⟨_, rfl⟩
    have hgs : gc = w1.heap.size := by rw [hg]
    have b_gc : w.heap.size ≤ gc := by rw [hgs]; exact HBp.out.size
    have S_w2 := Lib.hid (show (w1.alloc (.cells (cc c) 29)).heap.size = gc + 1 by rw [World.size_alloc, hgs])
    rw [← hg] at C
    try rw [← hg]
    clear hg hgs HBp Yp
    replace C := Lib.hid C
    generalize w1.alloc (.cells (cc c) 29) = w2 at *
    have r_C := C.out.row
    have o_C := C.out.open
    have l_C := C.out.lt
    have c_C := C.out.cell
    have z_C := C.out.frozen
    go_wp2_with fail
    clear r_C o_C l_C c_C z_C
    refine (new_ok c _ OK.out).mono ?_
    rintro e w3 ⟨gf, rfl, hgf, hF, hb⟩
    have hbs : Below w2.heap.size w2 w3 := step_below (by first | exact Below.refl _ _ | exact (Below.refl _ _).drew | exact (Below.refl _ _).alloc (Nat.le_refl _) _ | exact ((Below.refl _ _).alloc (Nat.le_refl _) _).drew | exact ((Below.refl _ _).drew).alloc (Nat.le_refl _) _ | exact ((Below.refl _ _).alloc (Nat.le_refl _) _).alloc (by simp) _ | exact (((Below.refl _ _).alloc (Nat.le_refl _) _).alloc (by simp) _).drew | exact (((Below.refl _ _).alloc (Nat.le_refl _) _).alloc (by simp) _).alloc (by simp; omega) _) hb
    try clear HBz
    have HBz := HB.out.size
    replace HB := Lib.hid (step_below HB.out hbs)
    replace Y := Lib.hid (Y.out.below hbs)
    replace C := Lib.hid (C.out.below hbs C.out.lt)
    clear hbs
    clear hb
    have F := Lib.hid hF
    clear hF hgf
    
    have r_C := C.out.row
    have o_C := C.out.open
    have l_C := C.out.lt
    have c_C := C.out.cell
    have z_C := C.out.frozen
    have r_F := F.out.row
    have o_F := F.out.open
    have l_F := F.out.lt
    have c_F := F.out.cell
    have z_F := F.out.frozen
    go_wp2_with fail
    clear r_C o_C l_C c_C z_C r_F o_F l_F c_F z_F
    refine (bnew_ok gf N hN1 hN2 _).mono ?_
    rintro e w_ ⟨rfl, rfl⟩
    rw [← NW.out, ← ZE.out]
    have HBp := HB
    have Wd := at_new w3 86 (wd Z) (w3.heap.size) rfl
    replace HB := Lib.hid (HB.out.alloc HB.out.size (.cells (wd Z) 86))
    have Yp := Y
    replace Y := Lib.hid (Y.out.below ((Below.refl _ _).alloc (Nat.le_refl _) (.cells (wd Z) 86)))
    have Cp := C
    replace C := Lib.hid (C.out.alloc (.cells (wd Z) 86))
    have Fp := F
    replace F := Lib.hid (F.out.alloc (.cells (wd Z) 86))
    obtain ⟨gw, hg⟩ : ∃ g, g = w3.heap.size := ⟨_, rfl⟩
    have hgs : gw = w3.heap.size := by rw [hg]
    have b_gw : w.heap.size ≤ gw := by rw [hgs]; exact HBp.out.size
    have S_w4 := Lib.hid (show (w3.alloc (.cells (wd Z) 86)).heap.size = gw + 1 by rw [World.size_alloc, hgs])
    rw [← hg] at Wd
    try rw [← hg]
    have ne_C_Wd : gc ≠ gw := by have := Cp.out.lt; omega
    have ne_Wd_C : gw ≠ gc := fun h => ne_C_Wd h.symm
    have ne_F_Wd : gf ≠ gw := by have := Fp.out.lt; omega
    have ne_Wd_F : gw ≠ gf := fun h => ne_F_Wd h.symm
    clear hg hgs HBp Yp Cp Fp
    replace Wd := Lib.hid Wd
    generalize w3.alloc (.cells (wd Z) 86) = w4 at *
    have HBp := HB
    have B := at_new w4 92 (bcs gf N gw n) (gw + 1) (S_w4.out.symm)
    replace HB := Lib.hid (HB.out.alloc HB.out.size (.cells (bcs gf N gw n) 92))
    have Yp := Y
    replace Y := Lib.hid (Y.out.below ((Below.refl _ _).alloc (Nat.le_refl _) (.cells (bcs gf N gw n) 92)))
    have Cp := C
    replace C := Lib.hid (C.out.alloc (.cells (bcs gf N gw n) 92))
    have Fp := F
    replace F := Lib.hid (F.out.alloc (.cells (bcs gf N gw n) 92))
    have Wdp := Wd
    replace Wd := Lib.hid (Wd.out.alloc (.cells (bcs gf N gw n) 92))
    obtain ⟨gb, hg⟩ : ∃ g, g = gw + 1 := ⟨_, rfl⟩
    have hgs : gb = w4.heap.size := by rw [hg, S_w4.out]
    have b_gb : w.heap.size ≤ gb := by rw [hgs]; exact HBp.out.size
    have S_w5 := Lib.hid (show (w4.alloc (.cells (bcs gf N gw n) 92)).heap.size = gb + 1 by rw [World.size_alloc, hgs])
    rw [← hg] at B
    try rw [← hg]
    have ne_C_B : gc ≠ gb := by have := Cp.out.lt; omega
    have ne_B_C : gb ≠ gc := fun h => ne_C_B h.symm
    have ne_F_B : gf ≠ gb := by have := Fp.out.lt; omega
    have ne_B_F : gb ≠ gf := fun h => ne_F_B h.symm
    have ne_Wd_B : gw ≠ gb := by have := Wdp.out.lt; omega
    have ne_B_Wd : gb ≠ gw := fun h => ne_Wd_B h.symm
    clear hg hgs HBp Yp Cp Fp Wdp
    replace B := Lib.hid B
    generalize w4.alloc (.cells (bcs gf N gw n) 92) = w5 at *
    have r_C := C.out.row
    have o_C := C.out.open
    have l_C := C.out.lt
    have c_C := C.out.cell
    have z_C := C.out.frozen
    have r_F := F.out.row
    have o_F := F.out.open
    have l_F := F.out.lt
    have c_F := F.out.cell
    have z_F := F.out.frozen
    have r_Wd := Wd.out.row
    have o_Wd := Wd.out.open
    have l_Wd := Wd.out.lt
    have c_Wd := Wd.out.cell
    have z_Wd := Wd.out.frozen
    have r_B := B.out.row
    have o_B := B.out.open
    have l_B := B.out.lt
    have c_B := B.out.cell
    have z_B := B.out.frozen
    go_wp2_with fail
    clear r_C o_C l_C c_C z_C r_F o_F l_F c_F z_F r_Wd o_Wd l_Wd c_Wd z_Wd r_B o_B l_B c_B z_B
    
    
    go_loopw [12, 13, 14, 15, 16] (fun i _ _ _ _ wr => ∃ t : Nat, t ≤ n2 ∧ i = .int .i64 t ∧ InI w.heap.size wr a2 n2 I ∧ At wr gc 29 (cc c) ∧ At wr gf 80 (fc c) ∧ At wr gw 86 (wd (fill akF c N Z (I.take t))) ∧ At wr gb 92 (bcs gf N gw n) ∧ Below w.heap.size w wr) (fun i _ _ _ _ _ => n2 - (intOf i).toNat)
    case atStart => exact ⟨0, Nat.zero_le _, rfl, Y.out, C.out, F.out, Wd.out, B.out, HB.out⟩
    case round =>
      obtain ⟨t, ht, rfl, hY_, hC_, hF_, hWd_, hB_, hBel_⟩ := hrel
      have Y := Lib.hid hY_
      have C := Lib.hid hC_
      have F := Lib.hid hF_
      have Wd := Lib.hid hWd_
      have B := Lib.hid hB_
      have HB := Lib.hid hBel_
      clear hY_ hC_ hF_ hWd_ hB_ hBel_
      by_cases hlt : t < n2
      · obtain ⟨b, o, hab⟩ := Y.out.addr (by omega)
        subst hab
        
        have htl : t < I.length := by rw [HZ.out]; exact hlt
        have FT0 := fill_take akF c N Z I t htl
        obtain ⟨x, hx⟩ : ∃ x, x = I.getD t 0 := ⟨_, rfl⟩
        obtain ⟨ws, hws⟩ : ∃ ws, ws = fill akF c N Z (I.take t) := ⟨_, rfl⟩
        obtain ⟨ws2, hws2⟩ : ∃ ws2, ws2 = fill akF c N Z (I.take (t + 1)) := ⟨_, rfl⟩
        obtain ⟨k, hk⟩ : ∃ k, k = akey x false false := ⟨_, rfl⟩
        have L1 := Lib.hid (show ws.length = n by rw [hws]; exact FL.out _)
        have X1 := Lib.hid (show ∀ x ∈ ws, x < 18446744073709551616 by rw [hws]; exact FX.out _)
        have L2 := Lib.hid (show ws2.length = n by rw [hws2]; exact FL.out _)
        have X2 := Lib.hid (show ∀ x ∈ ws2, x < 18446744073709551616 by rw [hws2]; exact FX.out _)
        rw [← hx, ← hws, ← hws2] at FT0
        have FT := Lib.hid (show insAll ws (pN c k N) = ws2 by rw [hk]; exact FT0)
        have KX := Lib.hid (fun w => KK.out x w)
        rw [← hk] at KX
        have HQ0 := Lib.hid (show hasB ws (pN c k N) = (pN c k N).all (bt ws) by rw [hk]; exact hasB_eq c _ N ws (KV.out x) FC.out.ha.1)
        have CA := Lib.hid (cntW_all (pN c k N) ws (fun q hq => by have := pN_lt c k N hN1 q hq; rw [L1.out]; omega) X1.out)
        have PL : (pN c k N).length = hh := by unfold pN; rw [List.length_map, bitsOf_length c k (by rw [hk]; exact KV.out x), HH.out]; rfl
        obtain ⟨cn, hcn0⟩ : ∃ cn, cn = cntW ws := ⟨_, rfl⟩
        obtain ⟨cn2, hcn2⟩ : ∃ cn, cn = cntW ws2 := ⟨_, rfl⟩
        have CN := Lib.hid hcn0.symm
        have CN2 := Lib.hid hcn2.symm
        have hcb : cn ≤ 131072 ∧ cn2 ≤ cn + hh := by
          refine ⟨by rw [hcn0]; have := cntW_le ws; rw [L1.out] at this; omega, ?_⟩
          rw [hcn0, hcn2, ← FT.out, ← PL]
          exact CA.out.2.1
        have HX := Lib.hid hx
        have WS2 := Lib.hid hws2.symm
        rw [← hws] at Wd
        clear FT0 hx hws hws2 hk hcn0 hcn2 PL
        cases hq : (pN c k N).all (bt ws)
        · have HQ := Lib.hid (show hasB ws (pN c k N) = false by rw [HQ0.out, hq])
          have QI := Lib.hid (show (!(pN c k N).all (bt ws)) = true by rw [hq]; rfl)
          have hcn : cn < cn2 := by
            rw [← CN.out, ← CN2.out, ← FT.out]
            exact CA.out.2.2.2 hq
          clear hq
          have x0 := Y.out.get t hlt
          rw [← HX.out] at x0
          have r_C := C.out.row
          have o_C := C.out.open
          have l_C := C.out.lt
          have c_C := C.out.cell
          have z_C := C.out.frozen
          have r_F := F.out.row
          have o_F := F.out.open
          have l_F := F.out.lt
          have c_F := F.out.cell
          have z_F := F.out.frozen
          have r_Wd := Wd.out.row
          have o_Wd := Wd.out.open
          have l_Wd := Wd.out.lt
          have c_Wd := Wd.out.cell
          have z_Wd := Wd.out.frozen
          have r_B := B.out.row
          have o_B := B.out.open
          have l_B := B.out.lt
          have c_B := B.out.cell
          have z_B := B.out.frozen
          go_wp2_with fail
          clear r_C o_C l_C c_C z_C r_F o_F l_F c_F z_F r_Wd o_Wd l_Wd c_Wd z_Wd r_B o_B l_B c_B z_B
          clear x0
          refine (KX.out _).mono ?_
          rintro e w6 ⟨rfl, hb⟩
          have hbs : Below wr.heap.size wr w6 := step_below (by first | exact Below.refl _ _ | exact (Below.refl _ _).drew | exact (Below.refl _ _).alloc (Nat.le_refl _) _ | exact ((Below.refl _ _).alloc (Nat.le_refl _) _).drew | exact ((Below.refl _ _).drew).alloc (Nat.le_refl _) _ | exact ((Below.refl _ _).alloc (Nat.le_refl _) _).alloc (by simp) _ | exact (((Below.refl _ _).alloc (Nat.le_refl _) _).alloc (by simp) _).drew | exact (((Below.refl _ _).alloc (Nat.le_refl _) _).alloc (by simp) _).alloc (by simp; omega) _) hb
          try clear HBz
          have HBz := HB.out.size
          replace HB := Lib.hid (step_below HB.out hbs)
          replace Y := Lib.hid (Y.out.below hbs)
          replace C := Lib.hid (C.out.below hbs C.out.lt)
          replace F := Lib.hid (F.out.below hbs F.out.lt)
          replace Wd := Lib.hid (Wd.out.below hbs Wd.out.lt)
          replace B := Lib.hid (B.out.below hbs B.out.lt)
          clear hbs
          clear hb
          have r_C := C.out.row
          have o_C := C.out.open
          have l_C := C.out.lt
          have c_C := C.out.cell
          have z_C := C.out.frozen
          have r_F := F.out.row
          have o_F := F.out.open
          have l_F := F.out.lt
          have c_F := F.out.cell
          have z_F := F.out.frozen
          have r_Wd := Wd.out.row
          have o_Wd := Wd.out.open
          have l_Wd := Wd.out.lt
          have c_Wd := Wd.out.cell
          have z_Wd := Wd.out.frozen
          have r_B := B.out.row
          have o_B := B.out.open
          have l_B := B.out.lt
          have c_B := B.out.cell
          have z_B := B.out.frozen
          go_wp2_with fail
          clear r_C o_C l_C c_C z_C r_F o_F l_F c_F z_F r_Wd o_Wd l_Wd c_Wd z_Wd r_B o_B l_B c_B z_B
          refine (has_any gb gw gf c k N n ws _ B.out Wd.out F.out hN1 hN2 NW.out L1.out X1.out e5.out.1 e5.out.2 e7.out).mono ?_
          rintro e w7 ⟨rfl, hb⟩
          have hbs : Below w6.heap.size w6 w7 := step_below (by first | exact Below.refl _ _ | exact (Below.refl _ _).drew | exact (Below.refl _ _).alloc (Nat.le_refl _) _ | exact ((Below.refl _ _).alloc (Nat.le_refl _) _).drew | exact ((Below.refl _ _).drew).alloc (Nat.le_refl _) _ | exact ((Below.refl _ _).alloc (Nat.le_refl _) _).alloc (by simp) _ | exact (((Below.refl _ _).alloc (Nat.le_refl _) _).alloc (by simp) _).drew | exact (((Below.refl _ _).alloc (Nat.le_refl _) _).alloc (by simp) _).alloc (by simp; omega) _) hb
          try clear HBz
          have HBz := HB.out.size
          replace HB := Lib.hid (step_below HB.out hbs)
          replace Y := Lib.hid (Y.out.below hbs)
          replace C := Lib.hid (C.out.below hbs C.out.lt)
          replace F := Lib.hid (F.out.below hbs F.out.lt)
          replace Wd := Lib.hid (Wd.out.below hbs Wd.out.lt)
          replace B := Lib.hid (B.out.below hbs B.out.lt)
          clear hbs
          clear hb
          rw [HQ.out]
          have r_C := C.out.row
          have o_C := C.out.open
          have l_C := C.out.lt
          have c_C := C.out.cell
          have z_C := C.out.frozen
          have r_F := F.out.row
          have o_F := F.out.open
          have l_F := F.out.lt
          have c_F := F.out.cell
          have z_F := F.out.frozen
          have r_Wd := Wd.out.row
          have o_Wd := Wd.out.open
          have l_Wd := Wd.out.lt
          have c_Wd := Wd.out.cell
          have z_Wd := Wd.out.frozen
          have r_B := B.out.row
          have o_B := B.out.open
          have l_B := B.out.lt
          have c_B := B.out.cell
          have z_B := B.out.frozen
          go_wp2_with fail
          clear r_C o_C l_C c_C z_C r_F o_F l_F c_F z_F r_Wd o_Wd l_Wd c_Wd z_Wd r_B o_B l_B c_B z_B
          refine (count_any gb gw gf N n ws _ B.out Wd.out L1.out hn1k.1 X1.out).mono ?_
          rintro e w8 ⟨rfl, hb⟩
          have hbs : Below w7.heap.size w7 w8 := step_below (by first | exact Below.refl _ _ | exact (Below.refl _ _).drew | exact (Below.refl _ _).alloc (Nat.le_refl _) _ | exact ((Below.refl _ _).alloc (Nat.le_refl _) _).drew | exact ((Below.refl _ _).drew).alloc (Nat.le_refl _) _ | exact ((Below.refl _ _).alloc (Nat.le_refl _) _).alloc (by simp) _ | exact (((Below.refl _ _).alloc (Nat.le_refl _) _).alloc (by simp) _).drew | exact (((Below.refl _ _).alloc (Nat.le_refl _) _).alloc (by simp) _).alloc (by simp; omega) _) hb
          try clear HBz
          have HBz := HB.out.size
          replace HB := Lib.hid (step_below HB.out hbs)
          replace Y := Lib.hid (Y.out.below hbs)
          replace C := Lib.hid (C.out.below hbs C.out.lt)
          replace F := Lib.hid (F.out.below hbs F.out.lt)
          replace Wd := Lib.hid (Wd.out.below hbs Wd.out.lt)
          replace B := Lib.hid (B.out.below hbs B.out.lt)
          clear hbs
          clear hb
          rw [CN.out]
          have x0 := Y.out.get t hlt
          rw [← HX.out] at x0
          have r_C := C.out.row
          have o_C := C.out.open
          have l_C := C.out.lt
          have c_C := C.out.cell
          have z_C := C.out.frozen
          have r_F := F.out.row
          have o_F := F.out.open
          have l_F := F.out.lt
          have c_F := F.out.cell
          have z_F := F.out.frozen
          have r_Wd := Wd.out.row
          have o_Wd := Wd.out.open
          have l_Wd := Wd.out.lt
          have c_Wd := Wd.out.cell
          have z_Wd := Wd.out.frozen
          have r_B := B.out.row
          have o_B := B.out.open
          have l_B := B.out.lt
          have c_B := B.out.cell
          have z_B := B.out.frozen
          go_wp2_with fail
          clear r_C o_C l_C c_C z_C r_F o_F l_F c_F z_F r_Wd o_Wd l_Wd c_Wd z_Wd r_B o_B l_B c_B z_B
          clear x0
          refine (KX.out _).mono ?_
          rintro e w9 ⟨rfl, hb⟩
          have hbs : Below w8.heap.size w8 w9 := step_below (by first | exact Below.refl _ _ | exact (Below.refl _ _).drew | exact (Below.refl _ _).alloc (Nat.le_refl _) _ | exact ((Below.refl _ _).alloc (Nat.le_refl _) _).drew | exact ((Below.refl _ _).drew).alloc (Nat.le_refl _) _ | exact ((Below.refl _ _).alloc (Nat.le_refl _) _).alloc (by simp) _ | exact (((Below.refl _ _).alloc (Nat.le_refl _) _).alloc (by simp) _).drew | exact (((Below.refl _ _).alloc (Nat.le_refl _) _).alloc (by simp) _).alloc (by simp; omega) _) hb
          try clear HBz
          have HBz := HB.out.size
          replace HB := Lib.hid (step_below HB.out hbs)
          replace Y := Lib.hid (Y.out.below hbs)
          replace C := Lib.hid (C.out.below hbs C.out.lt)
          replace F := Lib.hid (F.out.below hbs F.out.lt)
          replace Wd := Lib.hid (Wd.out.below hbs Wd.out.lt)
          replace B := Lib.hid (B.out.below hbs B.out.lt)
          clear hbs
          clear hb
          have r_C := C.out.row
          have o_C := C.out.open
          have l_C := C.out.lt
          have c_C := C.out.cell
          have z_C := C.out.frozen
          have r_F := F.out.row
          have o_F := F.out.open
          have l_F := F.out.lt
          have c_F := F.out.cell
          have z_F := F.out.frozen
          have r_Wd := Wd.out.row
          have o_Wd := Wd.out.open
          have l_Wd := Wd.out.lt
          have c_Wd := Wd.out.cell
          have z_Wd := Wd.out.frozen
          have r_B := B.out.row
          have o_B := B.out.open
          have l_B := B.out.lt
          have c_B := B.out.cell
          have z_B := B.out.frozen
          go_wp2_with fail
          clear r_C o_C l_C c_C z_C r_F o_F l_F c_F z_F r_Wd o_Wd l_Wd c_Wd z_Wd r_B o_B l_B c_B z_B
          refine (insert_any gb gw gf c k N n ws _ B.out Wd.out F.out ne_B_Wd hN1 hN2 NW.out L1.out X1.out e5.out.1 e5.out.2 e7.out).mono ?_
          rintro e w10 ⟨rfl, hA, hm⟩
          replace HB := Lib.hid (HB.out.trans (mod_below hm HB.out.size (fun i hi => by rw [hi]; exact b_gw)))
          replace Y := Lib.hid (Y.out.modb hm (fun i hi => by rw [hi]; exact b_gw))
          replace C := Lib.hid (C.out.mod hm ne_C_Wd)
          replace F := Lib.hid (F.out.mod hm ne_F_Wd)
          replace B := Lib.hid (B.out.mod hm ne_B_Wd)
          replace Wd := Lib.hid hA
          clear hA
          clear hm
          rw [FT.out] at Wd
          rw [QI.out]
          have h1 : decide ((cn : Int) < (cn2 : Int)) = true := by simp; omega
          have h1' : decide (cn < cn2) = true := by simp; omega
          have h2 : IntKind.i64.wrap ((cn : Int) + (hh : Int)) = (cn : Int) + (hh : Int) := by rw [IntKind.wrap_i64]; omega
          have h3 : decide ((cn : Int) + (hh : Int) < (cn2 : Int)) = false := by simp; omega
          have h3' : decide (cn + hh < cn2) = false := by simp; omega
          have h4 := HH.out
          have r_C := C.out.row
          have o_C := C.out.open
          have l_C := C.out.lt
          have c_C := C.out.cell
          have z_C := C.out.frozen
          have r_F := F.out.row
          have o_F := F.out.open
          have l_F := F.out.lt
          have c_F := F.out.cell
          have z_F := F.out.frozen
          have r_Wd := Wd.out.row
          have o_Wd := Wd.out.open
          have l_Wd := Wd.out.lt
          have c_Wd := Wd.out.cell
          have z_Wd := Wd.out.frozen
          have r_B := B.out.row
          have o_B := B.out.open
          have l_B := B.out.lt
          have c_B := B.out.cell
          have z_B := B.out.frozen
          go_wp2_with fail
          clear r_C o_C l_C c_C z_C r_F o_F l_F c_F z_F r_Wd o_Wd l_Wd c_Wd z_Wd r_B o_B l_B c_B z_B
          have r_C := C.out.row
          have o_C := C.out.open
          have l_C := C.out.lt
          have c_C := C.out.cell
          have z_C := C.out.frozen
          have r_F := F.out.row
          have o_F := F.out.open
          have l_F := F.out.lt
          have c_F := F.out.cell
          have z_F := F.out.frozen
          have r_Wd := Wd.out.row
          have o_Wd := Wd.out.open
          have l_Wd := Wd.out.lt
          have c_Wd := Wd.out.cell
          have z_Wd := Wd.out.frozen
          have r_B := B.out.row
          have o_B := B.out.open
          have l_B := B.out.lt
          have c_B := B.out.cell
          have z_B := B.out.frozen
          refine region_sq (fun _ => False) [(0, true), (1, true), (2, true), (3, true), (4, true), (5, true), (7, true), (6, false), (8, true), (9, true), (10, true), (11, true), (12, true), (14, true), (15, true), (16, true), (17, true), (13, false), (18, true), (19, true)] (by kernel_rfl) (by kernel_rfl) (fun _ _ d _ _ h => by cases d <;> exact h) ?_
          repeat (first
            | (refine sq_yes rfl (by rfl) (fun w' hM => by ((try replace hM := hM.of_drew); obtain ⟨hR1, hR2, hR3⟩ := hM.rules; clear hM; go_simp; with_reducible rfl)) ?_; simp only [Act.put, List.setIfInBounds_toArray, List.set_cons_zero, List.set_cons_succ])
            | (refine sq_no rfl (by rfl) ?_; simp only [Act.put, List.setIfInBounds_toArray, List.set_cons_zero, List.set_cons_succ]))
          clear r_C o_C l_C c_C z_C r_F o_F l_F c_F z_F r_Wd o_Wd l_Wd c_Wd z_Wd r_B o_B l_B c_B z_B
          replace Y := Lib.hid Y.out.drew
          replace C := Lib.hid C.out.drew
          replace F := Lib.hid F.out.drew
          replace Wd := Lib.hid Wd.out.drew
          replace B := Lib.hid B.out.drew
          replace HB := Lib.hid HB.out.drew
          generalize w10.drew = w11 at *
          refine sq_do_yes rfl (by rfl) (fun K_ hK_ => ?_)
          go_wp2_with fail
          refine (count_any gb gw gf N n ws2 _ B.out Wd.out L2.out hn1k.1 X2.out).mono ?_
          rintro e w12 ⟨rfl, hb⟩
          have hbs : Below w11.heap.size w11 w12 := step_below (by first | exact Below.refl _ _ | exact (Below.refl _ _).drew | exact (Below.refl _ _).alloc (Nat.le_refl _) _ | exact ((Below.refl _ _).alloc (Nat.le_refl _) _).drew | exact ((Below.refl _ _).drew).alloc (Nat.le_refl _) _ | exact ((Below.refl _ _).alloc (Nat.le_refl _) _).alloc (by simp) _ | exact (((Below.refl _ _).alloc (Nat.le_refl _) _).alloc (by simp) _).drew | exact (((Below.refl _ _).alloc (Nat.le_refl _) _).alloc (by simp) _).alloc (by simp; omega) _) hb
          try clear HBz
          have HBz := HB.out.size
          replace HB := Lib.hid (step_below HB.out hbs)
          replace Y := Lib.hid (Y.out.below hbs)
          replace C := Lib.hid (C.out.below hbs C.out.lt)
          replace F := Lib.hid (F.out.below hbs F.out.lt)
          replace Wd := Lib.hid (Wd.out.below hbs Wd.out.lt)
          replace B := Lib.hid (B.out.below hbs B.out.lt)
          clear hbs
          rw [CN2.out]
          go_wp2_with fail
          refine ⟨Mod.of_below hb, ?_⟩
          clear hb
          have r_C := C.out.row
          have o_C := C.out.open
          have l_C := C.out.lt
          have c_C := C.out.cell
          have z_C := C.out.frozen
          have r_F := F.out.row
          have o_F := F.out.open
          have l_F := F.out.lt
          have c_F := F.out.cell
          have z_F := F.out.frozen
          have r_Wd := Wd.out.row
          have o_Wd := Wd.out.open
          have l_Wd := Wd.out.lt
          have c_Wd := Wd.out.cell
          have z_Wd := Wd.out.frozen
          have r_B := B.out.row
          have o_B := B.out.open
          have l_B := B.out.lt
          have c_B := B.out.cell
          have z_B := B.out.frozen
          repeat (first
            | (refine sq_yes rfl (by rfl) (fun w' hM => by ((try replace hM := hM.of_drew); obtain ⟨hR1, hR2, hR3⟩ := hM.rules; clear hM; go_simp; with_reducible rfl)) ?_; simp only [Act.put, List.setIfInBounds_toArray, List.set_cons_zero, List.set_cons_succ])
            | (refine sq_no rfl (by rfl) ?_; simp only [Act.put, List.setIfInBounds_toArray, List.set_cons_zero, List.set_cons_succ]))
          clear r_C o_C l_C c_C z_C r_F o_F l_F c_F z_F r_Wd o_Wd l_Wd c_Wd z_Wd r_B o_B l_B c_B z_B
          refine sq_do_yes rfl (by rfl) (fun K_ hK_ => ?_)
          go_wp2_with fail
          refine (count_any gb gw gf N n ws2 _ B.out Wd.out L2.out hn1k.1 X2.out).mono ?_
          rintro e w13 ⟨rfl, hb⟩
          have hbs : Below w12.heap.size w12 w13 := step_below (by first | exact Below.refl _ _ | exact (Below.refl _ _).drew | exact (Below.refl _ _).alloc (Nat.le_refl _) _ | exact ((Below.refl _ _).alloc (Nat.le_refl _) _).drew | exact ((Below.refl _ _).drew).alloc (Nat.le_refl _) _ | exact ((Below.refl _ _).alloc (Nat.le_refl _) _).alloc (by simp) _ | exact (((Below.refl _ _).alloc (Nat.le_refl _) _).alloc (by simp) _).drew | exact (((Below.refl _ _).alloc (Nat.le_refl _) _).alloc (by simp) _).alloc (by simp; omega) _) hb
          try clear HBz
          have HBz := HB.out.size
          replace HB := Lib.hid (step_below HB.out hbs)
          replace Y := Lib.hid (Y.out.below hbs)
          replace C := Lib.hid (C.out.below hbs C.out.lt)
          replace F := Lib.hid (F.out.below hbs F.out.lt)
          replace Wd := Lib.hid (Wd.out.below hbs Wd.out.lt)
          replace B := Lib.hid (B.out.below hbs B.out.lt)
          clear hbs
          rw [CN2.out]
          go_wp2_with fail
          refine ⟨Mod.of_below hb, ?_⟩
          clear hb
          have r_C := C.out.row
          have o_C := C.out.open
          have l_C := C.out.lt
          have c_C := C.out.cell
          have z_C := C.out.frozen
          have r_F := F.out.row
          have o_F := F.out.open
          have l_F := F.out.lt
          have c_F := F.out.cell
          have z_F := F.out.frozen
          have r_Wd := Wd.out.row
          have o_Wd := Wd.out.open
          have l_Wd := Wd.out.lt
          have c_Wd := Wd.out.cell
          have z_Wd := Wd.out.frozen
          have r_B := B.out.row
          have o_B := B.out.open
          have l_B := B.out.lt
          have c_B := B.out.cell
          have z_B := B.out.frozen
          repeat (first
            | (refine sq_yes rfl (by rfl) (fun w' hM => by ((try replace hM := hM.of_drew); obtain ⟨hR1, hR2, hR3⟩ := hM.rules; clear hM; go_simp; with_reducible rfl)) ?_; simp only [Act.put, List.setIfInBounds_toArray, List.set_cons_zero, List.set_cons_succ])
            | (refine sq_no rfl (by rfl) ?_; simp only [Act.put, List.setIfInBounds_toArray, List.set_cons_zero, List.set_cons_succ]))
          clear r_C o_C l_C c_C z_C r_F o_F l_F c_F z_F r_Wd o_Wd l_Wd c_Wd z_Wd r_B o_B l_B c_B z_B
          refine sq_end ?_
          clear h2 h4
          have r_C := C.out.row
          have o_C := C.out.open
          have l_C := C.out.lt
          have c_C := C.out.cell
          have z_C := C.out.frozen
          have r_F := F.out.row
          have o_F := F.out.open
          have l_F := F.out.lt
          have c_F := F.out.cell
          have z_F := F.out.frozen
          have r_Wd := Wd.out.row
          have o_Wd := Wd.out.open
          have l_Wd := Wd.out.lt
          have c_Wd := Wd.out.cell
          have z_Wd := Wd.out.frozen
          have r_B := B.out.row
          have o_B := B.out.open
          have l_B := B.out.lt
          have c_B := B.out.cell
          have z_B := B.out.frozen
          go_wp2_with fail
          clear r_C o_C l_C c_C z_C r_F o_F l_F c_F z_F r_Wd o_Wd l_Wd c_Wd z_Wd r_B o_B l_B c_B z_B
          clear h1 h1' h3 h3' hcn
          go_loopw [16] (fun j wr => ∃ s : Nat, s ≤ t + 1 ∧ j = .int .i64 s ∧ InI w.heap.size wr (some ⟨b, o, none⟩) n2 I ∧ At wr gc 29 (cc c) ∧ At wr gf 80 (fc c) ∧ At wr gw 86 (wd ws2) ∧ At wr gb 92 (bcs gf N gw n) ∧ Below w.heap.size w wr) (fun j _ => t + 1 - (intOf j).toNat)
          case atStart => exact ⟨0, Nat.zero_le _, rfl, Y.out, C.out, F.out, Wd.out, B.out, HB.out⟩
          case round =>
            obtain ⟨s, hs, rfl, hY_, hC_, hF_, hWd_, hB_, hBel_⟩ := hrel
            have Y := Lib.hid hY_
            have C := Lib.hid hC_
            have F := Lib.hid hF_
            have Wd := Lib.hid hWd_
            have B := Lib.hid hB_
            have HB := Lib.hid hBel_
            clear hY_ hC_ hF_ hWd_ hB_ hBel_
            by_cases hsl : s < t + 1
            · have hs2 : s < n2 := by omega
              have hsI : s < I.length := by rw [HZ.out]; exact hs2
              obtain ⟨y, hy⟩ : ∃ y, y = I.getD s 0 := ⟨_, rfl⟩
              have x0 := Y.out.get s hs2
              rw [← hy] at x0
              have HM := Lib.hid (show hasB ws2 (pN c (akey y false false) N) = true by
                rw [← WS2.out]
                refine has_fill akF c N hN1 _ Z (by rw [ZL.out]; exact hn64) y ?_ (KV.out y) FC.out.ha.1
                rw [hy, List.getD_eq_getElem?_getD, List.getElem?_eq_getElem hsI]
                exact List.mem_take_iff_getElem.2 ⟨s, by omega, rfl⟩)
              clear hy
              have hst2 : decide ((s : Int) ≤ (t : Int)) = true := by simp; omega
              
              have r_C := C.out.row
              have o_C := C.out.open
              have l_C := C.out.lt
              have c_C := C.out.cell
              have z_C := C.out.frozen
              have r_F := F.out.row
              have o_F := F.out.open
              have l_F := F.out.lt
              have c_F := F.out.cell
              have z_F := F.out.frozen
              have r_Wd := Wd.out.row
              have o_Wd := Wd.out.open
              have l_Wd := Wd.out.lt
              have c_Wd := Wd.out.cell
              have z_Wd := Wd.out.frozen
              have r_B := B.out.row
              have o_B := B.out.open
              have l_B := B.out.lt
              have c_B := B.out.cell
              have z_B := B.out.frozen
              go_wp2_with fail
              clear r_C o_C l_C c_C z_C r_F o_F l_F c_F z_F r_Wd o_Wd l_Wd c_Wd z_Wd r_B o_B l_B c_B z_B
              clear x0
              refine (KK.out y _).mono ?_
              rintro e w14 ⟨rfl, hb⟩
              have hbs : Below wr.heap.size wr w14 := step_below (by first | exact Below.refl _ _ | exact (Below.refl _ _).drew | exact (Below.refl _ _).alloc (Nat.le_refl _) _ | exact ((Below.refl _ _).alloc (Nat.le_refl _) _).drew | exact ((Below.refl _ _).drew).alloc (Nat.le_refl _) _ | exact ((Below.refl _ _).alloc (Nat.le_refl _) _).alloc (by simp) _ | exact (((Below.refl _ _).alloc (Nat.le_refl _) _).alloc (by simp) _).drew | exact (((Below.refl _ _).alloc (Nat.le_refl _) _).alloc (by simp) _).alloc (by simp; omega) _) hb
              try clear HBz
              have HBz := HB.out.size
              replace HB := Lib.hid (step_below HB.out hbs)
              replace Y := Lib.hid (Y.out.below hbs)
              replace C := Lib.hid (C.out.below hbs C.out.lt)
              replace F := Lib.hid (F.out.below hbs F.out.lt)
              replace Wd := Lib.hid (Wd.out.below hbs Wd.out.lt)
              replace B := Lib.hid (B.out.below hbs B.out.lt)
              clear hbs
              clear hb
              have r_C := C.out.row
              have o_C := C.out.open
              have l_C := C.out.lt
              have c_C := C.out.cell
              have z_C := C.out.frozen
              have r_F := F.out.row
              have o_F := F.out.open
              have l_F := F.out.lt
              have c_F := F.out.cell
              have z_F := F.out.frozen
              have r_Wd := Wd.out.row
              have o_Wd := Wd.out.open
              have l_Wd := Wd.out.lt
              have c_Wd := Wd.out.cell
              have z_Wd := Wd.out.frozen
              have r_B := B.out.row
              have o_B := B.out.open
              have l_B := B.out.lt
              have c_B := B.out.cell
              have z_B := B.out.frozen
              go_wp2_with fail
              clear r_C o_C l_C c_C z_C r_F o_F l_F c_F z_F r_Wd o_Wd l_Wd c_Wd z_Wd r_B o_B l_B c_B z_B
              refine (has_any gb gw gf c (akey y false false) N n ws2 _ B.out Wd.out F.out hN1 hN2 NW.out L2.out X2.out e5.out.1 e5.out.2 e7.out).mono ?_
              rintro e w15 ⟨rfl, hb⟩
              have hbs : Below w14.heap.size w14 w15 := step_below (by first | exact Below.refl _ _ | exact (Below.refl _ _).drew | exact (Below.refl _ _).alloc (Nat.le_refl _) _ | exact ((Below.refl _ _).alloc (Nat.le_refl _) _).drew | exact ((Below.refl _ _).drew).alloc (Nat.le_refl _) _ | exact ((Below.refl _ _).alloc (Nat.le_refl _) _).alloc (by simp) _ | exact (((Below.refl _ _).alloc (Nat.le_refl _) _).alloc (by simp) _).drew | exact (((Below.refl _ _).alloc (Nat.le_refl _) _).alloc (by simp) _).alloc (by simp; omega) _) hb
              try clear HBz
              have HBz := HB.out.size
              replace HB := Lib.hid (step_below HB.out hbs)
              replace Y := Lib.hid (Y.out.below hbs)
              replace C := Lib.hid (C.out.below hbs C.out.lt)
              replace F := Lib.hid (F.out.below hbs F.out.lt)
              replace Wd := Lib.hid (Wd.out.below hbs Wd.out.lt)
              replace B := Lib.hid (B.out.below hbs B.out.lt)
              clear hbs
              clear hb
              rw [HM.out]
              have r_C := C.out.row
              have o_C := C.out.open
              have l_C := C.out.lt
              have c_C := C.out.cell
              have z_C := C.out.frozen
              have r_F := F.out.row
              have o_F := F.out.open
              have l_F := F.out.lt
              have c_F := F.out.cell
              have z_F := F.out.frozen
              have r_Wd := Wd.out.row
              have o_Wd := Wd.out.open
              have l_Wd := Wd.out.lt
              have c_Wd := Wd.out.cell
              have z_Wd := Wd.out.frozen
              have r_B := B.out.row
              have o_B := B.out.open
              have l_B := B.out.lt
              have c_B := B.out.cell
              have z_B := B.out.frozen
              go_wp2_with fail
              clear r_C o_C l_C c_C z_C r_F o_F l_F c_F z_F r_Wd o_Wd l_Wd c_Wd z_Wd r_B o_B l_B c_B z_B
              clear hst2
              go_roundw
              case rel => exact ⟨s + 1, by omega, by go_num, Y.out, C.out, F.out, Wd.out, B.out, HB.out⟩
              case measure => simp [intOf]; omega
              
            · obtain rfl : s = t + 1 := by omega
              have hst2 : decide (((t + 1 : Nat) : Int) ≤ (t : Int)) = false := by simp; omega
              have r_C := C.out.row
              have o_C := C.out.open
              have l_C := C.out.lt
              have c_C := C.out.cell
              have z_C := C.out.frozen
              have r_F := F.out.row
              have o_F := F.out.open
              have l_F := F.out.lt
              have c_F := F.out.cell
              have z_F := F.out.frozen
              have r_Wd := Wd.out.row
              have o_Wd := Wd.out.open
              have l_Wd := Wd.out.lt
              have c_Wd := Wd.out.cell
              have z_Wd := Wd.out.frozen
              have r_B := B.out.row
              have o_B := B.out.open
              have l_B := B.out.lt
              have c_B := B.out.cell
              have z_B := B.out.frozen
              go_wp2_with fail
              clear r_C o_C l_C c_C z_C r_F o_F l_F c_F z_F r_Wd o_Wd l_Wd c_Wd z_Wd r_B o_B l_B c_B z_B
              rw [← WS2.out] at Wd
              go_roundw
              case rel => exact ⟨t + 1, by omega, by go_num, Y.out, C.out, F.out, Wd.out, B.out, HB.out⟩
              case measure => simp [intOf]; omega
        · have HQ := Lib.hid (show hasB ws (pN c k N) = true by rw [HQ0.out, hq])
          have QI := Lib.hid (show (!(pN c k N).all (bt ws)) = false by rw [hq]; rfl)
          have hcn : cn2 = cn := by
            rw [← CN.out, ← CN2.out, ← FT.out]
            exact CA.out.2.2.1 hq
          clear hq
          have x0 := Y.out.get t hlt
          rw [← HX.out] at x0
          have r_C := C.out.row
          have o_C := C.out.open
          have l_C := C.out.lt
          have c_C := C.out.cell
          have z_C := C.out.frozen
          have r_F := F.out.row
          have o_F := F.out.open
          have l_F := F.out.lt
          have c_F := F.out.cell
          have z_F := F.out.frozen
          have r_Wd := Wd.out.row
          have o_Wd := Wd.out.open
          have l_Wd := Wd.out.lt
          have c_Wd := Wd.out.cell
          have z_Wd := Wd.out.frozen
          have r_B := B.out.row
          have o_B := B.out.open
          have l_B := B.out.lt
          have c_B := B.out.cell
          have z_B := B.out.frozen
          go_wp2_with fail
          clear r_C o_C l_C c_C z_C r_F o_F l_F c_F z_F r_Wd o_Wd l_Wd c_Wd z_Wd r_B o_B l_B c_B z_B
          clear x0
          refine (KX.out _).mono ?_
          rintro e w16 ⟨rfl, hb⟩
          have hbs : Below wr.heap.size wr w16 := step_below (by first | exact Below.refl _ _ | exact (Below.refl _ _).drew | exact (Below.refl _ _).alloc (Nat.le_refl _) _ | exact ((Below.refl _ _).alloc (Nat.le_refl _) _).drew | exact ((Below.refl _ _).drew).alloc (Nat.le_refl _) _ | exact ((Below.refl _ _).alloc (Nat.le_refl _) _).alloc (by simp) _ | exact (((Below.refl _ _).alloc (Nat.le_refl _) _).alloc (by simp) _).drew | exact (((Below.refl _ _).alloc (Nat.le_refl _) _).alloc (by simp) _).alloc (by simp; omega) _) hb
          try clear HBz
          have HBz := HB.out.size
          replace HB := Lib.hid (step_below HB.out hbs)
          replace Y := Lib.hid (Y.out.below hbs)
          replace C := Lib.hid (C.out.below hbs C.out.lt)
          replace F := Lib.hid (F.out.below hbs F.out.lt)
          replace Wd := Lib.hid (Wd.out.below hbs Wd.out.lt)
          replace B := Lib.hid (B.out.below hbs B.out.lt)
          clear hbs
          clear hb
          have r_C := C.out.row
          have o_C := C.out.open
          have l_C := C.out.lt
          have c_C := C.out.cell
          have z_C := C.out.frozen
          have r_F := F.out.row
          have o_F := F.out.open
          have l_F := F.out.lt
          have c_F := F.out.cell
          have z_F := F.out.frozen
          have r_Wd := Wd.out.row
          have o_Wd := Wd.out.open
          have l_Wd := Wd.out.lt
          have c_Wd := Wd.out.cell
          have z_Wd := Wd.out.frozen
          have r_B := B.out.row
          have o_B := B.out.open
          have l_B := B.out.lt
          have c_B := B.out.cell
          have z_B := B.out.frozen
          go_wp2_with fail
          clear r_C o_C l_C c_C z_C r_F o_F l_F c_F z_F r_Wd o_Wd l_Wd c_Wd z_Wd r_B o_B l_B c_B z_B
          refine (has_any gb gw gf c k N n ws _ B.out Wd.out F.out hN1 hN2 NW.out L1.out X1.out e5.out.1 e5.out.2 e7.out).mono ?_
          rintro e w17 ⟨rfl, hb⟩
          have hbs : Below w16.heap.size w16 w17 := step_below (by first | exact Below.refl _ _ | exact (Below.refl _ _).drew | exact (Below.refl _ _).alloc (Nat.le_refl _) _ | exact ((Below.refl _ _).alloc (Nat.le_refl _) _).drew | exact ((Below.refl _ _).drew).alloc (Nat.le_refl _) _ | exact ((Below.refl _ _).alloc (Nat.le_refl _) _).alloc (by simp) _ | exact (((Below.refl _ _).alloc (Nat.le_refl _) _).alloc (by simp) _).drew | exact (((Below.refl _ _).alloc (Nat.le_refl _) _).alloc (by simp) _).alloc (by simp; omega) _) hb
          try clear HBz
          have HBz := HB.out.size
          replace HB := Lib.hid (step_below HB.out hbs)
          replace Y := Lib.hid (Y.out.below hbs)
          replace C := Lib.hid (C.out.below hbs C.out.lt)
          replace F := Lib.hid (F.out.below hbs F.out.lt)
          replace Wd := Lib.hid (Wd.out.below hbs Wd.out.lt)
          replace B := Lib.hid (B.out.below hbs B.out.lt)
          clear hbs
          clear hb
          rw [HQ.out]
          have r_C := C.out.row
          have o_C := C.out.open
          have l_C := C.out.lt
          have c_C := C.out.cell
          have z_C := C.out.frozen
          have r_F := F.out.row
          have o_F := F.out.open
          have l_F := F.out.lt
          have c_F := F.out.cell
          have z_F := F.out.frozen
          have r_Wd := Wd.out.row
          have o_Wd := Wd.out.open
          have l_Wd := Wd.out.lt
          have c_Wd := Wd.out.cell
          have z_Wd := Wd.out.frozen
          have r_B := B.out.row
          have o_B := B.out.open
          have l_B := B.out.lt
          have c_B := B.out.cell
          have z_B := B.out.frozen
          go_wp2_with fail
          clear r_C o_C l_C c_C z_C r_F o_F l_F c_F z_F r_Wd o_Wd l_Wd c_Wd z_Wd r_B o_B l_B c_B z_B
          refine (count_any gb gw gf N n ws _ B.out Wd.out L1.out hn1k.1 X1.out).mono ?_
          rintro e w18 ⟨rfl, hb⟩
          have hbs : Below w17.heap.size w17 w18 := step_below (by first | exact Below.refl _ _ | exact (Below.refl _ _).drew | exact (Below.refl _ _).alloc (Nat.le_refl _) _ | exact ((Below.refl _ _).alloc (Nat.le_refl _) _).drew | exact ((Below.refl _ _).drew).alloc (Nat.le_refl _) _ | exact ((Below.refl _ _).alloc (Nat.le_refl _) _).alloc (by simp) _ | exact (((Below.refl _ _).alloc (Nat.le_refl _) _).alloc (by simp) _).drew | exact (((Below.refl _ _).alloc (Nat.le_refl _) _).alloc (by simp) _).alloc (by simp; omega) _) hb
          try clear HBz
          have HBz := HB.out.size
          replace HB := Lib.hid (step_below HB.out hbs)
          replace Y := Lib.hid (Y.out.below hbs)
          replace C := Lib.hid (C.out.below hbs C.out.lt)
          replace F := Lib.hid (F.out.below hbs F.out.lt)
          replace Wd := Lib.hid (Wd.out.below hbs Wd.out.lt)
          replace B := Lib.hid (B.out.below hbs B.out.lt)
          clear hbs
          clear hb
          rw [CN.out]
          have x0 := Y.out.get t hlt
          rw [← HX.out] at x0
          have r_C := C.out.row
          have o_C := C.out.open
          have l_C := C.out.lt
          have c_C := C.out.cell
          have z_C := C.out.frozen
          have r_F := F.out.row
          have o_F := F.out.open
          have l_F := F.out.lt
          have c_F := F.out.cell
          have z_F := F.out.frozen
          have r_Wd := Wd.out.row
          have o_Wd := Wd.out.open
          have l_Wd := Wd.out.lt
          have c_Wd := Wd.out.cell
          have z_Wd := Wd.out.frozen
          have r_B := B.out.row
          have o_B := B.out.open
          have l_B := B.out.lt
          have c_B := B.out.cell
          have z_B := B.out.frozen
          go_wp2_with fail
          clear r_C o_C l_C c_C z_C r_F o_F l_F c_F z_F r_Wd o_Wd l_Wd c_Wd z_Wd r_B o_B l_B c_B z_B
          clear x0
          refine (KX.out _).mono ?_
          rintro e w19 ⟨rfl, hb⟩
          have hbs : Below w18.heap.size w18 w19 := step_below (by first | exact Below.refl _ _ | exact (Below.refl _ _).drew | exact (Below.refl _ _).alloc (Nat.le_refl _) _ | exact ((Below.refl _ _).alloc (Nat.le_refl _) _).drew | exact ((Below.refl _ _).drew).alloc (Nat.le_refl _) _ | exact ((Below.refl _ _).alloc (Nat.le_refl _) _).alloc (by simp) _ | exact (((Below.refl _ _).alloc (Nat.le_refl _) _).alloc (by simp) _).drew | exact (((Below.refl _ _).alloc (Nat.le_refl _) _).alloc (by simp) _).alloc (by simp; omega) _) hb
          try clear HBz
          have HBz := HB.out.size
          replace HB := Lib.hid (step_below HB.out hbs)
          replace Y := Lib.hid (Y.out.below hbs)
          replace C := Lib.hid (C.out.below hbs C.out.lt)
          replace F := Lib.hid (F.out.below hbs F.out.lt)
          replace Wd := Lib.hid (Wd.out.below hbs Wd.out.lt)
          replace B := Lib.hid (B.out.below hbs B.out.lt)
          clear hbs
          clear hb
          have r_C := C.out.row
          have o_C := C.out.open
          have l_C := C.out.lt
          have c_C := C.out.cell
          have z_C := C.out.frozen
          have r_F := F.out.row
          have o_F := F.out.open
          have l_F := F.out.lt
          have c_F := F.out.cell
          have z_F := F.out.frozen
          have r_Wd := Wd.out.row
          have o_Wd := Wd.out.open
          have l_Wd := Wd.out.lt
          have c_Wd := Wd.out.cell
          have z_Wd := Wd.out.frozen
          have r_B := B.out.row
          have o_B := B.out.open
          have l_B := B.out.lt
          have c_B := B.out.cell
          have z_B := B.out.frozen
          go_wp2_with fail
          clear r_C o_C l_C c_C z_C r_F o_F l_F c_F z_F r_Wd o_Wd l_Wd c_Wd z_Wd r_B o_B l_B c_B z_B
          refine (insert_any gb gw gf c k N n ws _ B.out Wd.out F.out ne_B_Wd hN1 hN2 NW.out L1.out X1.out e5.out.1 e5.out.2 e7.out).mono ?_
          rintro e w20 ⟨rfl, hA, hm⟩
          replace HB := Lib.hid (HB.out.trans (mod_below hm HB.out.size (fun i hi => by rw [hi]; exact b_gw)))
          replace Y := Lib.hid (Y.out.modb hm (fun i hi => by rw [hi]; exact b_gw))
          replace C := Lib.hid (C.out.mod hm ne_C_Wd)
          replace F := Lib.hid (F.out.mod hm ne_F_Wd)
          replace B := Lib.hid (B.out.mod hm ne_B_Wd)
          replace Wd := Lib.hid hA
          clear hA
          clear hm
          rw [FT.out] at Wd
          rw [QI.out]
          have h1 : decide ((cn : Int) < (cn2 : Int)) = false := by simp; omega
          have h1' : decide (cn < cn2) = false := by simp; omega
          have h2 : IntKind.i64.wrap ((cn : Int) + (hh : Int)) = (cn : Int) + (hh : Int) := by rw [IntKind.wrap_i64]; omega
          have h3 : decide ((cn : Int) + (hh : Int) < (cn2 : Int)) = false := by simp; omega
          have h3' : decide (cn + hh < cn2) = false := by simp; omega
          have h4 := HH.out
          have r_C := C.out.row
          have o_C := C.out.open
          have l_C := C.out.lt
          have c_C := C.out.cell
          have z_C := C.out.frozen
          have r_F := F.out.row
          have o_F := F.out.open
          have l_F := F.out.lt
          have c_F := F.out.cell
          have z_F := F.out.frozen
          have r_Wd := Wd.out.row
          have o_Wd := Wd.out.open
          have l_Wd := Wd.out.lt
          have c_Wd := Wd.out.cell
          have z_Wd := Wd.out.frozen
          have r_B := B.out.row
          have o_B := B.out.open
          have l_B := B.out.lt
          have c_B := B.out.cell
          have z_B := B.out.frozen
          go_wp2_with fail
          clear r_C o_C l_C c_C z_C r_F o_F l_F c_F z_F r_Wd o_Wd l_Wd c_Wd z_Wd r_B o_B l_B c_B z_B
          have r_C := C.out.row
          have o_C := C.out.open
          have l_C := C.out.lt
          have c_C := C.out.cell
          have z_C := C.out.frozen
          have r_F := F.out.row
          have o_F := F.out.open
          have l_F := F.out.lt
          have c_F := F.out.cell
          have z_F := F.out.frozen
          have r_Wd := Wd.out.row
          have o_Wd := Wd.out.open
          have l_Wd := Wd.out.lt
          have c_Wd := Wd.out.cell
          have z_Wd := Wd.out.frozen
          have r_B := B.out.row
          have o_B := B.out.open
          have l_B := B.out.lt
          have c_B := B.out.cell
          have z_B := B.out.frozen
          refine region_sq (fun _ => False) [(0, true), (1, true), (2, true), (3, true), (4, true), (5, true), (7, true), (6, false), (8, true), (9, true), (10, true), (11, true), (12, true), (14, true), (15, true), (16, true), (17, true), (13, false), (18, true), (19, true)] (by kernel_rfl) (by kernel_rfl) (fun _ _ d _ _ h => by cases d <;> exact h) ?_
          repeat (first
            | (refine sq_yes rfl (by rfl) (fun w' hM => by ((try replace hM := hM.of_drew); obtain ⟨hR1, hR2, hR3⟩ := hM.rules; clear hM; go_simp; with_reducible rfl)) ?_; simp only [Act.put, List.setIfInBounds_toArray, List.set_cons_zero, List.set_cons_succ])
            | (refine sq_no rfl (by rfl) ?_; simp only [Act.put, List.setIfInBounds_toArray, List.set_cons_zero, List.set_cons_succ]))
          clear r_C o_C l_C c_C z_C r_F o_F l_F c_F z_F r_Wd o_Wd l_Wd c_Wd z_Wd r_B o_B l_B c_B z_B
          replace Y := Lib.hid Y.out.drew
          replace C := Lib.hid C.out.drew
          replace F := Lib.hid F.out.drew
          replace Wd := Lib.hid Wd.out.drew
          replace B := Lib.hid B.out.drew
          replace HB := Lib.hid HB.out.drew
          generalize w20.drew = w21 at *
          refine sq_do_yes rfl (by rfl) (fun K_ hK_ => ?_)
          go_wp2_with fail
          refine (count_any gb gw gf N n ws2 _ B.out Wd.out L2.out hn1k.1 X2.out).mono ?_
          rintro e w22 ⟨rfl, hb⟩
          have hbs : Below w21.heap.size w21 w22 := step_below (by first | exact Below.refl _ _ | exact (Below.refl _ _).drew | exact (Below.refl _ _).alloc (Nat.le_refl _) _ | exact ((Below.refl _ _).alloc (Nat.le_refl _) _).drew | exact ((Below.refl _ _).drew).alloc (Nat.le_refl _) _ | exact ((Below.refl _ _).alloc (Nat.le_refl _) _).alloc (by simp) _ | exact (((Below.refl _ _).alloc (Nat.le_refl _) _).alloc (by simp) _).drew | exact (((Below.refl _ _).alloc (Nat.le_refl _) _).alloc (by simp) _).alloc (by simp; omega) _) hb
          try clear HBz
          have HBz := HB.out.size
          replace HB := Lib.hid (step_below HB.out hbs)
          replace Y := Lib.hid (Y.out.below hbs)
          replace C := Lib.hid (C.out.below hbs C.out.lt)
          replace F := Lib.hid (F.out.below hbs F.out.lt)
          replace Wd := Lib.hid (Wd.out.below hbs Wd.out.lt)
          replace B := Lib.hid (B.out.below hbs B.out.lt)
          clear hbs
          rw [CN2.out]
          go_wp2_with fail
          refine ⟨Mod.of_below hb, ?_⟩
          clear hb
          have r_C := C.out.row
          have o_C := C.out.open
          have l_C := C.out.lt
          have c_C := C.out.cell
          have z_C := C.out.frozen
          have r_F := F.out.row
          have o_F := F.out.open
          have l_F := F.out.lt
          have c_F := F.out.cell
          have z_F := F.out.frozen
          have r_Wd := Wd.out.row
          have o_Wd := Wd.out.open
          have l_Wd := Wd.out.lt
          have c_Wd := Wd.out.cell
          have z_Wd := Wd.out.frozen
          have r_B := B.out.row
          have o_B := B.out.open
          have l_B := B.out.lt
          have c_B := B.out.cell
          have z_B := B.out.frozen
          repeat (first
            | (refine sq_yes rfl (by rfl) (fun w' hM => by ((try replace hM := hM.of_drew); obtain ⟨hR1, hR2, hR3⟩ := hM.rules; clear hM; go_simp; with_reducible rfl)) ?_; simp only [Act.put, List.setIfInBounds_toArray, List.set_cons_zero, List.set_cons_succ])
            | (refine sq_no rfl (by rfl) ?_; simp only [Act.put, List.setIfInBounds_toArray, List.set_cons_zero, List.set_cons_succ]))
          clear r_C o_C l_C c_C z_C r_F o_F l_F c_F z_F r_Wd o_Wd l_Wd c_Wd z_Wd r_B o_B l_B c_B z_B
          refine sq_do_yes rfl (by rfl) (fun K_ hK_ => ?_)
          go_wp2_with fail
          refine (count_any gb gw gf N n ws2 _ B.out Wd.out L2.out hn1k.1 X2.out).mono ?_
          rintro e w23 ⟨rfl, hb⟩
          have hbs : Below w22.heap.size w22 w23 := step_below (by first | exact Below.refl _ _ | exact (Below.refl _ _).drew | exact (Below.refl _ _).alloc (Nat.le_refl _) _ | exact ((Below.refl _ _).alloc (Nat.le_refl _) _).drew | exact ((Below.refl _ _).drew).alloc (Nat.le_refl _) _ | exact ((Below.refl _ _).alloc (Nat.le_refl _) _).alloc (by simp) _ | exact (((Below.refl _ _).alloc (Nat.le_refl _) _).alloc (by simp) _).drew | exact (((Below.refl _ _).alloc (Nat.le_refl _) _).alloc (by simp) _).alloc (by simp; omega) _) hb
          try clear HBz
          have HBz := HB.out.size
          replace HB := Lib.hid (step_below HB.out hbs)
          replace Y := Lib.hid (Y.out.below hbs)
          replace C := Lib.hid (C.out.below hbs C.out.lt)
          replace F := Lib.hid (F.out.below hbs F.out.lt)
          replace Wd := Lib.hid (Wd.out.below hbs Wd.out.lt)
          replace B := Lib.hid (B.out.below hbs B.out.lt)
          clear hbs
          rw [CN2.out]
          go_wp2_with fail
          refine ⟨Mod.of_below hb, ?_⟩
          clear hb
          have r_C := C.out.row
          have o_C := C.out.open
          have l_C := C.out.lt
          have c_C := C.out.cell
          have z_C := C.out.frozen
          have r_F := F.out.row
          have o_F := F.out.open
          have l_F := F.out.lt
          have c_F := F.out.cell
          have z_F := F.out.frozen
          have r_Wd := Wd.out.row
          have o_Wd := Wd.out.open
          have l_Wd := Wd.out.lt
          have c_Wd := Wd.out.cell
          have z_Wd := Wd.out.frozen
          have r_B := B.out.row
          have o_B := B.out.open
          have l_B := B.out.lt
          have c_B := B.out.cell
          have z_B := B.out.frozen
          repeat (first
            | (refine sq_yes rfl (by rfl) (fun w' hM => by ((try replace hM := hM.of_drew); obtain ⟨hR1, hR2, hR3⟩ := hM.rules; clear hM; go_simp; with_reducible rfl)) ?_; simp only [Act.put, List.setIfInBounds_toArray, List.set_cons_zero, List.set_cons_succ])
            | (refine sq_no rfl (by rfl) ?_; simp only [Act.put, List.setIfInBounds_toArray, List.set_cons_zero, List.set_cons_succ]))
          clear r_C o_C l_C c_C z_C r_F o_F l_F c_F z_F r_Wd o_Wd l_Wd c_Wd z_Wd r_B o_B l_B c_B z_B
          refine sq_end ?_
          clear h2 h4
          have r_C := C.out.row
          have o_C := C.out.open
          have l_C := C.out.lt
          have c_C := C.out.cell
          have z_C := C.out.frozen
          have r_F := F.out.row
          have o_F := F.out.open
          have l_F := F.out.lt
          have c_F := F.out.cell
          have z_F := F.out.frozen
          have r_Wd := Wd.out.row
          have o_Wd := Wd.out.open
          have l_Wd := Wd.out.lt
          have c_Wd := Wd.out.cell
          have z_Wd := Wd.out.frozen
          have r_B := B.out.row
          have o_B := B.out.open
          have l_B := B.out.lt
          have c_B := B.out.cell
          have z_B := B.out.frozen
          go_wp2_with fail
          clear r_C o_C l_C c_C z_C r_F o_F l_F c_F z_F r_Wd o_Wd l_Wd c_Wd z_Wd r_B o_B l_B c_B z_B
          clear h1 h1' h3 h3' hcn
          go_loopw [16] (fun j wr => ∃ s : Nat, s ≤ t + 1 ∧ j = .int .i64 s ∧ InI w.heap.size wr (some ⟨b, o, none⟩) n2 I ∧ At wr gc 29 (cc c) ∧ At wr gf 80 (fc c) ∧ At wr gw 86 (wd ws2) ∧ At wr gb 92 (bcs gf N gw n) ∧ Below w.heap.size w wr) (fun j _ => t + 1 - (intOf j).toNat)
          case atStart => exact ⟨0, Nat.zero_le _, rfl, Y.out, C.out, F.out, Wd.out, B.out, HB.out⟩
          case round =>
            obtain ⟨s, hs, rfl, hY_, hC_, hF_, hWd_, hB_, hBel_⟩ := hrel
            have Y := Lib.hid hY_
            have C := Lib.hid hC_
            have F := Lib.hid hF_
            have Wd := Lib.hid hWd_
            have B := Lib.hid hB_
            have HB := Lib.hid hBel_
            clear hY_ hC_ hF_ hWd_ hB_ hBel_
            by_cases hsl : s < t + 1
            · have hs2 : s < n2 := by omega
              have hsI : s < I.length := by rw [HZ.out]; exact hs2
              obtain ⟨y, hy⟩ : ∃ y, y = I.getD s 0 := ⟨_, rfl⟩
              have x0 := Y.out.get s hs2
              rw [← hy] at x0
              have HM := Lib.hid (show hasB ws2 (pN c (akey y false false) N) = true by
                rw [← WS2.out]
                refine has_fill akF c N hN1 _ Z (by rw [ZL.out]; exact hn64) y ?_ (KV.out y) FC.out.ha.1
                rw [hy, List.getD_eq_getElem?_getD, List.getElem?_eq_getElem hsI]
                exact List.mem_take_iff_getElem.2 ⟨s, by omega, rfl⟩)
              clear hy
              have hst2 : decide ((s : Int) ≤ (t : Int)) = true := by simp; omega
              
              have r_C := C.out.row
              have o_C := C.out.open
              have l_C := C.out.lt
              have c_C := C.out.cell
              have z_C := C.out.frozen
              have r_F := F.out.row
              have o_F := F.out.open
              have l_F := F.out.lt
              have c_F := F.out.cell
              have z_F := F.out.frozen
              have r_Wd := Wd.out.row
              have o_Wd := Wd.out.open
              have l_Wd := Wd.out.lt
              have c_Wd := Wd.out.cell
              have z_Wd := Wd.out.frozen
              have r_B := B.out.row
              have o_B := B.out.open
              have l_B := B.out.lt
              have c_B := B.out.cell
              have z_B := B.out.frozen
              go_wp2_with fail
              clear r_C o_C l_C c_C z_C r_F o_F l_F c_F z_F r_Wd o_Wd l_Wd c_Wd z_Wd r_B o_B l_B c_B z_B
              clear x0
              refine (KK.out y _).mono ?_
              rintro e w24 ⟨rfl, hb⟩
              have hbs : Below wr.heap.size wr w24 := step_below (by first | exact Below.refl _ _ | exact (Below.refl _ _).drew | exact (Below.refl _ _).alloc (Nat.le_refl _) _ | exact ((Below.refl _ _).alloc (Nat.le_refl _) _).drew | exact ((Below.refl _ _).drew).alloc (Nat.le_refl _) _ | exact ((Below.refl _ _).alloc (Nat.le_refl _) _).alloc (by simp) _ | exact (((Below.refl _ _).alloc (Nat.le_refl _) _).alloc (by simp) _).drew | exact (((Below.refl _ _).alloc (Nat.le_refl _) _).alloc (by simp) _).alloc (by simp; omega) _) hb
              try clear HBz
              have HBz := HB.out.size
              replace HB := Lib.hid (step_below HB.out hbs)
              replace Y := Lib.hid (Y.out.below hbs)
              replace C := Lib.hid (C.out.below hbs C.out.lt)
              replace F := Lib.hid (F.out.below hbs F.out.lt)
              replace Wd := Lib.hid (Wd.out.below hbs Wd.out.lt)
              replace B := Lib.hid (B.out.below hbs B.out.lt)
              clear hbs
              clear hb
              have r_C := C.out.row
              have o_C := C.out.open
              have l_C := C.out.lt
              have c_C := C.out.cell
              have z_C := C.out.frozen
              have r_F := F.out.row
              have o_F := F.out.open
              have l_F := F.out.lt
              have c_F := F.out.cell
              have z_F := F.out.frozen
              have r_Wd := Wd.out.row
              have o_Wd := Wd.out.open
              have l_Wd := Wd.out.lt
              have c_Wd := Wd.out.cell
              have z_Wd := Wd.out.frozen
              have r_B := B.out.row
              have o_B := B.out.open
              have l_B := B.out.lt
              have c_B := B.out.cell
              have z_B := B.out.frozen
              go_wp2_with fail
              clear r_C o_C l_C c_C z_C r_F o_F l_F c_F z_F r_Wd o_Wd l_Wd c_Wd z_Wd r_B o_B l_B c_B z_B
              refine (has_any gb gw gf c (akey y false false) N n ws2 _ B.out Wd.out F.out hN1 hN2 NW.out L2.out X2.out e5.out.1 e5.out.2 e7.out).mono ?_
              rintro e w25 ⟨rfl, hb⟩
              have hbs : Below w24.heap.size w24 w25 := step_below (by first | exact Below.refl _ _ | exact (Below.refl _ _).drew | exact (Below.refl _ _).alloc (Nat.le_refl _) _ | exact ((Below.refl _ _).alloc (Nat.le_refl _) _).drew | exact ((Below.refl _ _).drew).alloc (Nat.le_refl _) _ | exact ((Below.refl _ _).alloc (Nat.le_refl _) _).alloc (by simp) _ | exact (((Below.refl _ _).alloc (Nat.le_refl _) _).alloc (by simp) _).drew | exact (((Below.refl _ _).alloc (Nat.le_refl _) _).alloc (by simp) _).alloc (by simp; omega) _) hb
              try clear HBz
              have HBz := HB.out.size
              replace HB := Lib.hid (step_below HB.out hbs)
              replace Y := Lib.hid (Y.out.below hbs)
              replace C := Lib.hid (C.out.below hbs C.out.lt)
              replace F := Lib.hid (F.out.below hbs F.out.lt)
              replace Wd := Lib.hid (Wd.out.below hbs Wd.out.lt)
              replace B := Lib.hid (B.out.below hbs B.out.lt)
              clear hbs
              clear hb
              rw [HM.out]
              have r_C := C.out.row
              have o_C := C.out.open
              have l_C := C.out.lt
              have c_C := C.out.cell
              have z_C := C.out.frozen
              have r_F := F.out.row
              have o_F := F.out.open
              have l_F := F.out.lt
              have c_F := F.out.cell
              have z_F := F.out.frozen
              have r_Wd := Wd.out.row
              have o_Wd := Wd.out.open
              have l_Wd := Wd.out.lt
              have c_Wd := Wd.out.cell
              have z_Wd := Wd.out.frozen
              have r_B := B.out.row
              have o_B := B.out.open
              have l_B := B.out.lt
              have c_B := B.out.cell
              have z_B := B.out.frozen
              go_wp2_with fail
              clear r_C o_C l_C c_C z_C r_F o_F l_F c_F z_F r_Wd o_Wd l_Wd c_Wd z_Wd r_B o_B l_B c_B z_B
              clear hst2
              go_roundw
              case rel => exact ⟨s + 1, by omega, by go_num, Y.out, C.out, F.out, Wd.out, B.out, HB.out⟩
              case measure => simp [intOf]; omega
              
            · obtain rfl : s = t + 1 := by omega
              have hst2 : decide (((t + 1 : Nat) : Int) ≤ (t : Int)) = false := by simp; omega
              have r_C := C.out.row
              have o_C := C.out.open
              have l_C := C.out.lt
              have c_C := C.out.cell
              have z_C := C.out.frozen
              have r_F := F.out.row
              have o_F := F.out.open
              have l_F := F.out.lt
              have c_F := F.out.cell
              have z_F := F.out.frozen
              have r_Wd := Wd.out.row
              have o_Wd := Wd.out.open
              have l_Wd := Wd.out.lt
              have c_Wd := Wd.out.cell
              have z_Wd := Wd.out.frozen
              have r_B := B.out.row
              have o_B := B.out.open
              have l_B := B.out.lt
              have c_B := B.out.cell
              have z_B := B.out.frozen
              go_wp2_with fail
              clear r_C o_C l_C c_C z_C r_F o_F l_F c_F z_F r_Wd o_Wd l_Wd c_Wd z_Wd r_B o_B l_B c_B z_B
              rw [← WS2.out] at Wd
              go_roundw
              case rel => exact ⟨t + 1, by omega, by go_num, Y.out, C.out, F.out, Wd.out, B.out, HB.out⟩
              case measure => simp [intOf]; omega
      · obtain rfl : n2 = t := by omega
        
        obtain ⟨ws, hws⟩ : ∃ ws, ws = fill akF c N Z (I.take n2) := ⟨_, rfl⟩
        have L1 := Lib.hid (show ws.length = n by rw [hws]; exact FL.out _)
        have X1 := Lib.hid (show ∀ x ∈ ws, x < 18446744073709551616 by rw [hws]; exact FX.out _)
        rw [← hws] at Wd
        clear hws
        have PZ := Lib.hid (pN_zero c N)
        have QZ := Lib.hid (show (!(pN c kyZ N).all (bt ws)) = false by rw [PZ.out]; rfl)
        have IZ := Lib.hid (show insAll ws (pN c kyZ N) = ws by rw [PZ.out]; rfl)
        have HZ2 := Lib.hid (show hasB ws (pN c kyZ N) = false by rw [PZ.out]; rfl)
        have r_C := C.out.row
        have o_C := C.out.open
        have l_C := C.out.lt
        have c_C := C.out.cell
        have z_C := C.out.frozen
        have r_F := F.out.row
        have o_F := F.out.open
        have l_F := F.out.lt
        have c_F := F.out.cell
        have z_F := F.out.frozen
        have r_Wd := Wd.out.row
        have o_Wd := Wd.out.open
        have l_Wd := Wd.out.lt
        have c_Wd := Wd.out.cell
        have z_Wd := Wd.out.frozen
        have r_B := B.out.row
        have o_B := B.out.open
        have l_B := B.out.lt
        have c_B := B.out.cell
        have z_B := B.out.frozen
        go_wp2_with fail
        clear r_C o_C l_C c_C z_C r_F o_F l_F c_F z_F r_Wd o_Wd l_Wd c_Wd z_Wd r_B o_B l_B c_B z_B
        refine (insert_any gb gw gf c kyZ N n ws _ B.out Wd.out F.out ne_B_Wd hN1 hN2 NW.out L1.out X1.out e5.out.1 e5.out.2 e7.out).mono ?_
        rintro e w26 ⟨rfl, hA, hm⟩
        replace HB := Lib.hid (HB.out.trans (mod_below hm HB.out.size (fun i hi => by rw [hi]; exact b_gw)))
        replace Y := Lib.hid (Y.out.modb hm (fun i hi => by rw [hi]; exact b_gw))
        replace C := Lib.hid (C.out.mod hm ne_C_Wd)
        replace F := Lib.hid (F.out.mod hm ne_F_Wd)
        replace B := Lib.hid (B.out.mod hm ne_B_Wd)
        replace Wd := Lib.hid hA
        clear hA
        clear hm
        rw [IZ.out] at Wd
        rw [QZ.out]
        have r_C := C.out.row
        have o_C := C.out.open
        have l_C := C.out.lt
        have c_C := C.out.cell
        have z_C := C.out.frozen
        have r_F := F.out.row
        have o_F := F.out.open
        have l_F := F.out.lt
        have c_F := F.out.cell
        have z_F := F.out.frozen
        have r_Wd := Wd.out.row
        have o_Wd := Wd.out.open
        have l_Wd := Wd.out.lt
        have c_Wd := Wd.out.cell
        have z_Wd := Wd.out.frozen
        have r_B := B.out.row
        have o_B := B.out.open
        have l_B := B.out.lt
        have c_B := B.out.cell
        have z_B := B.out.frozen
        go_wp2_with fail
        clear r_C o_C l_C c_C z_C r_F o_F l_F c_F z_F r_Wd o_Wd l_Wd c_Wd z_Wd r_B o_B l_B c_B z_B
        refine (has_any gb gw gf c kyZ N n ws _ B.out Wd.out F.out hN1 hN2 NW.out L1.out X1.out e5.out.1 e5.out.2 e7.out).mono ?_
        rintro e w27 ⟨rfl, hb⟩
        have hbs : Below w26.heap.size w26 w27 := step_below (by first | exact Below.refl _ _ | exact (Below.refl _ _).drew | exact (Below.refl _ _).alloc (Nat.le_refl _) _ | exact ((Below.refl _ _).alloc (Nat.le_refl _) _).drew | exact ((Below.refl _ _).drew).alloc (Nat.le_refl _) _ | exact ((Below.refl _ _).alloc (Nat.le_refl _) _).alloc (by simp) _ | exact (((Below.refl _ _).alloc (Nat.le_refl _) _).alloc (by simp) _).drew | exact (((Below.refl _ _).alloc (Nat.le_refl _) _).alloc (by simp) _).alloc (by simp; omega) _) hb
        try clear HBz
        have HBz := HB.out.size
        replace HB := Lib.hid (step_below HB.out hbs)
        replace Y := Lib.hid (Y.out.below hbs)
        replace C := Lib.hid (C.out.below hbs C.out.lt)
        replace F := Lib.hid (F.out.below hbs F.out.lt)
        replace Wd := Lib.hid (Wd.out.below hbs Wd.out.lt)
        replace B := Lib.hid (B.out.below hbs B.out.lt)
        clear hbs
        clear hb
        rw [HZ2.out]
        have r_C := C.out.row
        have o_C := C.out.open
        have l_C := C.out.lt
        have c_C := C.out.cell
        have z_C := C.out.frozen
        have r_F := F.out.row
        have o_F := F.out.open
        have l_F := F.out.lt
        have c_F := F.out.cell
        have z_F := F.out.frozen
        have r_Wd := Wd.out.row
        have o_Wd := Wd.out.open
        have l_Wd := Wd.out.lt
        have c_Wd := Wd.out.cell
        have z_Wd := Wd.out.frozen
        have r_B := B.out.row
        have o_B := B.out.open
        have l_B := B.out.lt
        have c_B := B.out.cell
        have z_B := B.out.frozen
        go_wp2_with fail
        clear r_C o_C l_C c_C z_C r_F o_F l_F c_F z_F r_Wd o_Wd l_Wd c_Wd z_Wd r_B o_B l_B c_B z_B
        refine (clear_any gb gw gf N n ws _ B.out Wd.out L1.out hn1k.2).mono ?_
        rintro e w28 ⟨⟨v, rfl⟩, hA, hm⟩
        replace HB := Lib.hid (HB.out.trans (mod_below hm HB.out.size (fun i hi => by rw [hi]; exact b_gw)))
        replace Y := Lib.hid (Y.out.modb hm (fun i hi => by rw [hi]; exact b_gw))
        replace C := Lib.hid (C.out.mod hm ne_C_Wd)
        replace F := Lib.hid (F.out.mod hm ne_F_Wd)
        replace B := Lib.hid (B.out.mod hm ne_B_Wd)
        replace Wd := Lib.hid hA
        clear hA
        clear hm
        rw [← ZE.out] at Wd
        have r_C := C.out.row
        have o_C := C.out.open
        have l_C := C.out.lt
        have c_C := C.out.cell
        have z_C := C.out.frozen
        have r_F := F.out.row
        have o_F := F.out.open
        have l_F := F.out.lt
        have c_F := F.out.cell
        have z_F := F.out.frozen
        have r_Wd := Wd.out.row
        have o_Wd := Wd.out.open
        have l_Wd := Wd.out.lt
        have c_Wd := Wd.out.cell
        have z_Wd := Wd.out.frozen
        have r_B := B.out.row
        have o_B := B.out.open
        have l_B := B.out.lt
        have c_B := B.out.cell
        have z_B := B.out.frozen
        go_wp2_with fail
        clear r_C o_C l_C c_C z_C r_F o_F l_F c_F z_F r_Wd o_Wd l_Wd c_Wd z_Wd r_B o_B l_B c_B z_B
        go_loopw [17] (fun j wr => ∃ s : Nat, s ≤ n2 ∧ j = .int .i64 s ∧ InI w.heap.size wr a2 n2 I ∧ At wr gc 29 (cc c) ∧ At wr gf 80 (fc c) ∧ At wr gw 86 (wd Z) ∧ At wr gb 92 (bcs gf N gw n) ∧ Below w.heap.size w wr) (fun j _ => n2 - (intOf j).toNat)
        case atStart => exact ⟨0, Nat.zero_le _, rfl, Y.out, C.out, F.out, Wd.out, B.out, HB.out⟩
        case round =>
          obtain ⟨s, hs, rfl, hY_, hC_, hF_, hWd_, hB_, hBel_⟩ := hrel
          have Y := Lib.hid hY_
          have C := Lib.hid hC_
          have F := Lib.hid hF_
          have Wd := Lib.hid hWd_
          have B := Lib.hid hB_
          have HB := Lib.hid hBel_
          clear hY_ hC_ hF_ hWd_ hB_ hBel_
          by_cases hsl : s < n2
          · obtain ⟨b, o, hab⟩ := Y.out.addr (by omega)
            subst hab
            obtain ⟨y, hy⟩ : ∃ y, y = I.getD s 0 := ⟨_, rfl⟩
            have x0 := Y.out.get s hsl
            rw [← hy] at x0
            clear hy
            have HM := Lib.hid (show hasB Z (pN c (akey y false false) N) = false by rw [ZE.out]; exact has_zero c _ N n)
            
            have r_C := C.out.row
            have o_C := C.out.open
            have l_C := C.out.lt
            have c_C := C.out.cell
            have z_C := C.out.frozen
            have r_F := F.out.row
            have o_F := F.out.open
            have l_F := F.out.lt
            have c_F := F.out.cell
            have z_F := F.out.frozen
            have r_Wd := Wd.out.row
            have o_Wd := Wd.out.open
            have l_Wd := Wd.out.lt
            have c_Wd := Wd.out.cell
            have z_Wd := Wd.out.frozen
            have r_B := B.out.row
            have o_B := B.out.open
            have l_B := B.out.lt
            have c_B := B.out.cell
            have z_B := B.out.frozen
            go_wp2_with fail
            clear r_C o_C l_C c_C z_C r_F o_F l_F c_F z_F r_Wd o_Wd l_Wd c_Wd z_Wd r_B o_B l_B c_B z_B
            clear x0
            refine (KK.out y _).mono ?_
            rintro e w29 ⟨rfl, hb⟩
            have hbs : Below wr.heap.size wr w29 := step_below (by first | exact Below.refl _ _ | exact (Below.refl _ _).drew | exact (Below.refl _ _).alloc (Nat.le_refl _) _ | exact ((Below.refl _ _).alloc (Nat.le_refl _) _).drew | exact ((Below.refl _ _).drew).alloc (Nat.le_refl _) _ | exact ((Below.refl _ _).alloc (Nat.le_refl _) _).alloc (by simp) _ | exact (((Below.refl _ _).alloc (Nat.le_refl _) _).alloc (by simp) _).drew | exact (((Below.refl _ _).alloc (Nat.le_refl _) _).alloc (by simp) _).alloc (by simp; omega) _) hb
            try clear HBz
            have HBz := HB.out.size
            replace HB := Lib.hid (step_below HB.out hbs)
            replace Y := Lib.hid (Y.out.below hbs)
            replace C := Lib.hid (C.out.below hbs C.out.lt)
            replace F := Lib.hid (F.out.below hbs F.out.lt)
            replace Wd := Lib.hid (Wd.out.below hbs Wd.out.lt)
            replace B := Lib.hid (B.out.below hbs B.out.lt)
            clear hbs
            clear hb
            have r_C := C.out.row
            have o_C := C.out.open
            have l_C := C.out.lt
            have c_C := C.out.cell
            have z_C := C.out.frozen
            have r_F := F.out.row
            have o_F := F.out.open
            have l_F := F.out.lt
            have c_F := F.out.cell
            have z_F := F.out.frozen
            have r_Wd := Wd.out.row
            have o_Wd := Wd.out.open
            have l_Wd := Wd.out.lt
            have c_Wd := Wd.out.cell
            have z_Wd := Wd.out.frozen
            have r_B := B.out.row
            have o_B := B.out.open
            have l_B := B.out.lt
            have c_B := B.out.cell
            have z_B := B.out.frozen
            go_wp2_with fail
            clear r_C o_C l_C c_C z_C r_F o_F l_F c_F z_F r_Wd o_Wd l_Wd c_Wd z_Wd r_B o_B l_B c_B z_B
            refine (has_any gb gw gf c (akey y false false) N n Z _ B.out Wd.out F.out hN1 hN2 NW.out ZL.out ZX.out e5.out.1 e5.out.2 e7.out).mono ?_
            rintro e w30 ⟨rfl, hb⟩
            have hbs : Below w29.heap.size w29 w30 := step_below (by first | exact Below.refl _ _ | exact (Below.refl _ _).drew | exact (Below.refl _ _).alloc (Nat.le_refl _) _ | exact ((Below.refl _ _).alloc (Nat.le_refl _) _).drew | exact ((Below.refl _ _).drew).alloc (Nat.le_refl _) _ | exact ((Below.refl _ _).alloc (Nat.le_refl _) _).alloc (by simp) _ | exact (((Below.refl _ _).alloc (Nat.le_refl _) _).alloc (by simp) _).drew | exact (((Below.refl _ _).alloc (Nat.le_refl _) _).alloc (by simp) _).alloc (by simp; omega) _) hb
            try clear HBz
            have HBz := HB.out.size
            replace HB := Lib.hid (step_below HB.out hbs)
            replace Y := Lib.hid (Y.out.below hbs)
            replace C := Lib.hid (C.out.below hbs C.out.lt)
            replace F := Lib.hid (F.out.below hbs F.out.lt)
            replace Wd := Lib.hid (Wd.out.below hbs Wd.out.lt)
            replace B := Lib.hid (B.out.below hbs B.out.lt)
            clear hbs
            clear hb
            rw [HM.out]
            have r_C := C.out.row
            have o_C := C.out.open
            have l_C := C.out.lt
            have c_C := C.out.cell
            have z_C := C.out.frozen
            have r_F := F.out.row
            have o_F := F.out.open
            have l_F := F.out.lt
            have c_F := F.out.cell
            have z_F := F.out.frozen
            have r_Wd := Wd.out.row
            have o_Wd := Wd.out.open
            have l_Wd := Wd.out.lt
            have c_Wd := Wd.out.cell
            have z_Wd := Wd.out.frozen
            have r_B := B.out.row
            have o_B := B.out.open
            have l_B := B.out.lt
            have c_B := B.out.cell
            have z_B := B.out.frozen
            go_wp2_with fail
            clear r_C o_C l_C c_C z_C r_F o_F l_F c_F z_F r_Wd o_Wd l_Wd c_Wd z_Wd r_B o_B l_B c_B z_B
            go_roundw
            case rel => exact ⟨s + 1, by omega, by go_num, Y.out, C.out, F.out, Wd.out, B.out, HB.out⟩
            case measure => simp [intOf]; omega
            
          · obtain rfl : n2 = s := by omega
            have CZ := Lib.hid (show cntW Z = 0 by rw [ZE.out]; exact cnt_zero n)
            have OZ := Lib.hid (show (cutN (-1) (onesTo Z N)).map (fun p : Nat => (p : Int)) = [] by rw [ZE.out, ones_zero]; rfl)
            have r_C := C.out.row
            have o_C := C.out.open
            have l_C := C.out.lt
            have c_C := C.out.cell
            have z_C := C.out.frozen
            have r_F := F.out.row
            have o_F := F.out.open
            have l_F := F.out.lt
            have c_F := F.out.cell
            have z_F := F.out.frozen
            have r_Wd := Wd.out.row
            have o_Wd := Wd.out.open
            have l_Wd := Wd.out.lt
            have c_Wd := Wd.out.cell
            have z_Wd := Wd.out.frozen
            have r_B := B.out.row
            have o_B := B.out.open
            have l_B := B.out.lt
            have c_B := B.out.cell
            have z_B := B.out.frozen
            go_wp2_with fail
            clear r_C o_C l_C c_C z_C r_F o_F l_F c_F z_F r_Wd o_Wd l_Wd c_Wd z_Wd r_B o_B l_B c_B z_B
            refine (count_any gb gw gf N n Z _ B.out Wd.out ZL.out hn1k.1 ZX.out).mono ?_
            rintro e w31 ⟨rfl, hb⟩
            have hbs : Below wr.heap.size wr w31 := step_below (by first | exact Below.refl _ _ | exact (Below.refl _ _).drew | exact (Below.refl _ _).alloc (Nat.le_refl _) _ | exact ((Below.refl _ _).alloc (Nat.le_refl _) _).drew | exact ((Below.refl _ _).drew).alloc (Nat.le_refl _) _ | exact ((Below.refl _ _).alloc (Nat.le_refl _) _).alloc (by simp) _ | exact (((Below.refl _ _).alloc (Nat.le_refl _) _).alloc (by simp) _).drew | exact (((Below.refl _ _).alloc (Nat.le_refl _) _).alloc (by simp) _).alloc (by simp; omega) _) hb
            try clear HBz
            have HBz := HB.out.size
            replace HB := Lib.hid (step_below HB.out hbs)
            replace Y := Lib.hid (Y.out.below hbs)
            replace C := Lib.hid (C.out.below hbs C.out.lt)
            replace F := Lib.hid (F.out.below hbs F.out.lt)
            replace Wd := Lib.hid (Wd.out.below hbs Wd.out.lt)
            replace B := Lib.hid (B.out.below hbs B.out.lt)
            clear hbs
            clear hb
            rw [CZ.out]
            have r_C := C.out.row
            have o_C := C.out.open
            have l_C := C.out.lt
            have c_C := C.out.cell
            have z_C := C.out.frozen
            have r_F := F.out.row
            have o_F := F.out.open
            have l_F := F.out.lt
            have c_F := F.out.cell
            have z_F := F.out.frozen
            have r_Wd := Wd.out.row
            have o_Wd := Wd.out.open
            have l_Wd := Wd.out.lt
            have c_Wd := Wd.out.cell
            have z_Wd := Wd.out.frozen
            have r_B := B.out.row
            have o_B := B.out.open
            have l_B := B.out.lt
            have c_B := B.out.cell
            have z_B := B.out.frozen
            go_wp2_with fail
            clear r_C o_C l_C c_C z_C r_F o_F l_F c_F z_F r_Wd o_Wd l_Wd c_Wd z_Wd r_B o_B l_B c_B z_B
            refine (onesl_any gb gw gf N n Z (-1) _ hN2 NW.out ZL.out ZX.out B.out Wd.out).mono ?_
            rintro e w32 ⟨v, rfl, ho, hb⟩
            have hbs : Below w31.heap.size w31 w32 := step_below (by first | exact Below.refl _ _ | exact (Below.refl _ _).drew | exact (Below.refl _ _).alloc (Nat.le_refl _) _ | exact ((Below.refl _ _).alloc (Nat.le_refl _) _).drew | exact ((Below.refl _ _).drew).alloc (Nat.le_refl _) _ | exact ((Below.refl _ _).alloc (Nat.le_refl _) _).alloc (by simp) _ | exact (((Below.refl _ _).alloc (Nat.le_refl _) _).alloc (by simp) _).drew | exact (((Below.refl _ _).alloc (Nat.le_refl _) _).alloc (by simp) _).alloc (by simp; omega) _) hb
            try clear HBz
            have HBz := HB.out.size
            replace HB := Lib.hid (step_below HB.out hbs)
            replace Y := Lib.hid (Y.out.below hbs)
            replace C := Lib.hid (C.out.below hbs C.out.lt)
            replace F := Lib.hid (F.out.below hbs F.out.lt)
            replace Wd := Lib.hid (Wd.out.below hbs Wd.out.lt)
            replace B := Lib.hid (B.out.below hbs B.out.lt)
            clear hbs
            clear hb
            rw [OZ.out] at ho
            obtain ⟨b1, m1, q1, rfl, hm1, hy1, _⟩ := ho.parts
            obtain rfl : m1 = 0 := hm1
            clear ho hy1
            have r_C := C.out.row
            have o_C := C.out.open
            have l_C := C.out.lt
            have c_C := C.out.cell
            have z_C := C.out.frozen
            have r_F := F.out.row
            have o_F := F.out.open
            have l_F := F.out.lt
            have c_F := F.out.cell
            have z_F := F.out.frozen
            have r_Wd := Wd.out.row
            have o_Wd := Wd.out.open
            have l_Wd := Wd.out.lt
            have c_Wd := Wd.out.cell
            have z_Wd := Wd.out.frozen
            have r_B := B.out.row
            have o_B := B.out.open
            have l_B := B.out.lt
            have c_B := B.out.cell
            have z_B := B.out.frozen
            go_wp2_with fail
            clear r_C o_C l_C c_C z_C r_F o_F l_F c_F z_F r_Wd o_Wd l_Wd c_Wd z_Wd r_B o_B l_B c_B z_B
            refine (bawake_any _).mono ?_
            rintro e w33 ⟨rfl, hb⟩
            have hbs : Below w32.heap.size w32 w33 := step_below (by first | exact Below.refl _ _ | exact (Below.refl _ _).drew | exact (Below.refl _ _).alloc (Nat.le_refl _) _ | exact ((Below.refl _ _).alloc (Nat.le_refl _) _).drew | exact ((Below.refl _ _).drew).alloc (Nat.le_refl _) _ | exact ((Below.refl _ _).alloc (Nat.le_refl _) _).alloc (by simp) _ | exact (((Below.refl _ _).alloc (Nat.le_refl _) _).alloc (by simp) _).drew | exact (((Below.refl _ _).alloc (Nat.le_refl _) _).alloc (by simp) _).alloc (by simp; omega) _) hb
            try clear HBz
            have HBz := HB.out.size
            replace HB := Lib.hid (step_below HB.out hbs)
            replace Y := Lib.hid (Y.out.below hbs)
            replace C := Lib.hid (C.out.below hbs C.out.lt)
            replace F := Lib.hid (F.out.below hbs F.out.lt)
            replace Wd := Lib.hid (Wd.out.below hbs Wd.out.lt)
            replace B := Lib.hid (B.out.below hbs B.out.lt)
            clear hbs
            clear hb
            have r_C := C.out.row
            have o_C := C.out.open
            have l_C := C.out.lt
            have c_C := C.out.cell
            have z_C := C.out.frozen
            have r_F := F.out.row
            have o_F := F.out.open
            have l_F := F.out.lt
            have c_F := F.out.cell
            have z_F := F.out.frozen
            have r_Wd := Wd.out.row
            have o_Wd := Wd.out.open
            have l_Wd := Wd.out.lt
            have c_Wd := Wd.out.cell
            have z_Wd := Wd.out.frozen
            have r_B := B.out.row
            have o_B := B.out.open
            have l_B := B.out.lt
            have c_B := B.out.cell
            have z_B := B.out.frozen
            go_wp2_with fail
            clear r_C o_C l_C c_C z_C r_F o_F l_F c_F z_F r_Wd o_Wd l_Wd c_Wd z_Wd r_B o_B l_B c_B z_B
            go_ret
            exact ⟨rfl, HB.out⟩
end Go.Proofs.Ytjjadakjkkmjgaa
