/-
  bloom: a bit, Has.
-/
import Derived.Test.YtjjadakjkkmjgaaFBloomB
namespace Go.Proofs.Ytjjadakjkkmjgaa
open Go.RowKit
/-- Is a bit set? -/
def bt (ws : List Nat) (i : Nat) : Bool := (ws.getD (i / 64) 0).testBit (i % 64)
theorem u64_and_nat (a b : Nat) (ha : a < 18446744073709551616) (hb : b < 18446744073709551616) : bits .and .u64 (a : Int) (b : Int) = ((a &&& b : Nat) : Int) := by
  have hx : a &&& b < 2 ^ 64 := Nat.and_lt_two_pow _ (by omega)
  have h1 : ∀ q : Nat, q < 18446744073709551616 → (BitVec.ofInt 64 (q : Int)).toNat = q := fun q hq => by
    rw [BitVec.ofInt_natCast, BitVec.toNat_ofNat]; exact Nat.mod_eq_of_lt (by omega)
  show IntKind.u64.wrap ((BitVec.ofInt 64 (a : Int) &&& BitVec.ofInt 64 (b : Int)).toNat : Int) = _
  rw [BitVec.toNat_and, h1 a ha, h1 b hb, IntKind.wrap_u64]
  omega
theorem u64_or_nat (a b : Nat) (ha : a < 18446744073709551616) (hb : b < 18446744073709551616) : bits .or .u64 (a : Int) (b : Int) = ((a ||| b : Nat) : Int) := by
  have hx : a ||| b < 2 ^ 64 := Nat.or_lt_two_pow (by omega) (by omega)
  have h1 : ∀ q : Nat, q < 18446744073709551616 → (BitVec.ofInt 64 (q : Int)).toNat = q := fun q hq => by
    rw [BitVec.ofInt_natCast, BitVec.toNat_ofNat]; exact Nat.mod_eq_of_lt (by omega)
  show IntKind.u64.wrap ((BitVec.ofInt 64 (a : Int) ||| BitVec.ofInt 64 (b : Int)).toNat : Int) = _
  rw [BitVec.toNat_or, h1 a ha, h1 b hb, IntKind.wrap_u64]
  omega
theorem bit_fact (x r : Nat) (hx : x < 18446744073709551616) : decide (0 < bits .and .u64 ((x : Int) / 2 ^ r) 1) = x.testBit r := by
  have e : (x : Int) / 2 ^ r = ((x / 2 ^ r : Nat) : Int) := by rw [Int.natCast_ediv, Int.natCast_pow]; rfl
  have hlt : x / 2 ^ r < 18446744073709551616 := Nat.lt_of_le_of_lt (Nat.div_le_self _ _) hx
  rw [e, show (1 : Int) = ((1 : Nat) : Int) from rfl, u64_and_nat _ _ hlt (by omega), Nat.testBit_eq_decide_div_mod_eq, Nat.and_one_is_mod]
  have := Nat.mod_two_eq_zero_or_one (x / 2 ^ r)
  rcases this with h | h <;> rw [h] <;> decide
theorem getD_lt (ws : List Nat) (j : Nat) (hx : ∀ x ∈ ws, x < 18446744073709551616) : ws.getD j 0 < 18446744073709551616 := by
  rw [List.getD_eq_getElem?_getD]
  cases h : ws[j]? with
  | none => simp
  | some y => exact hx y (List.mem_of_getElem? h)
set_option maxRecDepth 100000 in
set_option maxHeartbeats 4000000 in
theorem set_any (gb gw gf : Nat) (N n i : Nat) (ws : List Nat) (w : World) (hB : At w gb 92 (bcs gf N gw n)) (hW : At w gw 86 (wd ws)) (hn : n ≤ 1024) (hl : ws.length = n) (hi : i < n * 64) (hx : ∀ x ∈ ws, x < 18446744073709551616) :
    Calls Try.prog 53 #[.pointer (some ⟨gb, 0, none⟩), .int .i64 i] w fun e w' => e = .returned (.bool (bt ws i)) ∧ w' = w := by
  have B := Lib.hid hB
  obtain ⟨j, hj⟩ : ∃ j, j = i / 64 := ⟨_, rfl⟩
  obtain ⟨r, hr⟩ : ∃ r, r = i % 64 := ⟨_, rfl⟩
  have hjn : j < n := by omega
  have hc := hW.cell j
  rw [wd_get ws j (by omega)] at hc
  obtain ⟨x, hxx⟩ : ∃ x, x = ws.getD j 0 := ⟨_, rfl⟩
  rw [← hxx] at hc
  have hlw := hW.lt
  have q1 : (i : Int) / 64 = (j : Int) := by omega
  have q2 : (i : Int) % 64 = (r : Int) := by omega
  have HBT := Lib.hid (show bt ws i = x.testBit r by unfold bt; rw [← hj, ← hr, hxx])
  have hx64 : x < 18446744073709551616 := by rw [hxx]; exact getD_lt ws j hx
  have HF := Lib.hid (bit_fact x r hx64)
  clear hB hW hj hr hxx hx hx64
  go_enter Try.func53, Try.ntmps53
  have HB := Lib.hid (Below.refl w.heap.size w)
  
  have r_B := B.out.row
  have o_B := B.out.open
  have l_B := B.out.lt
  have c_B := B.out.cell
  have z_B := B.out.frozen
  go_wp2_with fail
  clear r_B o_B l_B c_B z_B
  go_ret
  exact ⟨by rw [HBT.out, ← HF.out]; rfl, rfl⟩
/-- A flow's places in a filter of N bits, as numbers. -/
def pN (c : Cf) (k : Ky) (N : Nat) : List Nat := (bitsOf c k).map fun b => (b % (N : Int)).toNat
theorem pN_lt (c : Cf) (k : Ky) (N : Nat) (h : 1 ≤ N) : ∀ p ∈ pN c k N, p < N := by
  intro p hp
  obtain ⟨b, _, rfl⟩ := List.mem_map.1 hp
  have := Int.emod_lt_of_pos b (show (0 : Int) < N by omega)
  have := Int.emod_nonneg b (show (N : Int) ≠ 0 by omega)
  omega
theorem plcs_eq (c : Cf) (k : Ky) (N : Nat) (h : 1 ≤ N) : plcs c k N = (pN c k N).map fun p : Nat => (p : Int) := by
  unfold plcs pN
  rw [List.map_map]
  apply List.map_congr_left
  intro b _
  have := Int.emod_nonneg b (show (N : Int) ≠ 0 by omega)
  simp only [Function.comp_apply]
  omega
theorem places_n (gb gw n gf : Nat) (c : Cf) (k : Ky) (N : Nat) (w : World) (hB : At w gb 92 (bcs gf N gw n)) (hF : At w gf 80 (fc c)) (hN : 1 ≤ N) (hN2 : N ≤ 65536) (h1 : 0 ≤ c.hashes) (h2 : c.hashes ≤ 80) (hb1 : 1 ≤ c.bloom) :
    Calls Try.prog 52 #[.pointer (some ⟨gb, 0, none⟩), .agg (kc k)] w fun e w' => ∃ a m q, e = .returned (.slice a m q) ∧ m = (pN c k N).length ∧ Ints w' a m ((pN c k N).map fun p : Nat => (p : Int)) ∧ (∀ b o, a = some ⟨b, o, none⟩ → w.heap.size ≤ b) ∧ Below w.heap.size w w' :=
  (places_any gb gw n gf c k N w hB hF hN hN2 h1 h2 hb1).mono fun e w' ⟨v, he, ho, hb⟩ => by
    rw [plcs_eq c k N hN] at ho
    obtain ⟨a, m, q, rfl, hm, hy, _⟩ := ho.parts
    refine ⟨a, m, q, he, by simpa using hm, hy, fun b o hab => ?_, hb⟩
    subst hab
    exact ho.ge rfl
theorem pN_length (c : Cf) (k : Ky) (N : Nat) (h2 : c.hashes ≤ 80) : (pN c k N).length ≤ 80 := by
  unfold pN bitsOf; rw [List.length_map]; split <;> simp [bitsUpto_length]; omega
/-- Are all of them set? -/
def hasB (ws L : List Nat) : Bool := L.all (bt ws) && !L.isEmpty
theorem all_take (f : Nat → Bool) (L : List Nat) (t : Nat) (h : t < L.length) (h1 : (L.take t).all f = true) (h2 : f (L.getD t 0) = true) : (L.take (t + 1)).all f = true := by
  rw [List.take_succ_eq_append_getElem h, List.all_append, h1]
  simpa [List.getD_eq_getElem?_getD, List.getElem?_eq_getElem h] using h2
theorem all_no (f : Nat → Bool) (L : List Nat) (t : Nat) (h : t < L.length) (h2 : f (L.getD t 0) = false) : L.all f = false := by
  rw [List.all_eq_false]
  exact ⟨L.getD t 0, by rw [List.getD_eq_getElem?_getD, List.getElem?_eq_getElem h]; exact List.getElem_mem h, by simpa using h2⟩
theorem cast_get (L : List Nat) (t : Nat) : (L.map fun p : Nat => (p : Int)).getD t 0 = ((L.getD t 0 : Nat) : Int) := by
  rw [List.getD_eq_getElem?_getD, List.getD_eq_getElem?_getD, List.getElem?_map]
  cases L[t]? <;> rfl
theorem getD_mem (L : List Nat) (t : Nat) (h : t < L.length) : L.getD t 0 ∈ L := by
  rw [List.getD_eq_getElem?_getD, List.getElem?_eq_getElem h]; exact List.getElem_mem h
set_option maxRecDepth 100000 in
set_option maxHeartbeats 4000000 in
theorem has_any (gb gw gf : Nat) (c : Cf) (k : Ky) (N n : Nat) (ws : List Nat) (w : World) (hB : At w gb 92 (bcs gf N gw n)) (hW : At w gw 86 (wd ws)) (hF : At w gf 80 (fc c)) (hN : 1 ≤ N) (hN2 : N ≤ 65536) (hn : n = nw N) (hl : ws.length = n) (hx : ∀ x ∈ ws, x < 18446744073709551616) (h1 : 0 ≤ c.hashes) (h2 : c.hashes ≤ 80) (hb1 : 1 ≤ c.bloom) :
    Calls Try.prog 34 #[.pointer (some ⟨gb, 0, none⟩), .agg (kc k)] w fun e w' => e = .returned (.bool (hasB ws (pN c k N))) ∧ Below w.heap.size w w' := by
  have B := Lib.hid hB
  have F := Lib.hid hF
  have Wd := Lib.hid hW
  have hNn : N ≤ n * 64 ∧ n ≤ 1024 := by rw [hn]; unfold nw; omega
  have HX := Lib.hid hx
  have HLT := Lib.hid (pN_lt c k N hN)
  have HL := Lib.hid (pN_length c k N h2)
  have HLL := Lib.hid hl
  clear hB hW hF hx hn hl
  go_enter Try.func34, Try.ntmps34
  have HB := Lib.hid (Below.refl w.heap.size w)
  
  
  
  go_wp2_with fail
  have HBp := HB
  have K := at_new w 40 (kc k) (w.heap.size) rfl
  replace HB := Lib.hid (HB.out.alloc HB.out.size (.cells (kc k) 40))
  have Bp := B
  replace B := Lib.hid (B.out.alloc (.cells (kc k) 40))
  have Fp := F
  replace F := Lib.hid (F.out.alloc (.cells (kc k) 40))
  have Wdp := Wd
  replace Wd := Lib.hid (Wd.out.alloc (.cells (kc k) 40))
  obtain ⟨gk, hg⟩ : ∃ g, g = w.heap.size := ⟨_, rfl⟩
  have hgs : gk = w.heap.size := by rw [hg]
  have b_gk : w.heap.size ≤ gk := by rw [hgs]; exact HBp.out.size
  have S_w1 := Lib.hid (show (w.alloc (.cells (kc k) 40)).heap.size = gk + 1 by rw [World.size_alloc, hgs])
  rw [← hg] at K
  try rw [← hg]
  have ne_B_K : gb ≠ gk := by have := Bp.out.lt; omega
  have ne_K_B : gk ≠ gb := fun h => ne_B_K h.symm
  have ne_F_K : gf ≠ gk := by have := Fp.out.lt; omega
  have ne_K_F : gk ≠ gf := fun h => ne_F_K h.symm
  have ne_Wd_K : gw ≠ gk := by have := Wdp.out.lt; omega
  have ne_K_Wd : gk ≠ gw := fun h => ne_Wd_K h.symm
  clear hg hgs HBp Bp Fp Wdp
  replace K := Lib.hid K
  generalize w.alloc (.cells (kc k) 40) = w1 at *
  have r_B := B.out.row
  have o_B := B.out.open
  have l_B := B.out.lt
  have c_B := B.out.cell
  have z_B := B.out.frozen
  have r_F := F.out.row
  have o_F := F.out.open
  have l_F := F.out.lt
  have c_F := F.out.cell
  have z_F := F.out.frozen
  have r_Wd := Wd.out.row
  have o_Wd := Wd.out.open
  have l_Wd := Wd.out.lt
  have c_Wd := Wd.out.cell
  have z_Wd := Wd.out.frozen
  have r_K := K.out.row
  have o_K := K.out.open
  have l_K := K.out.lt
  have c_K := K.out.cell
  have z_K := K.out.frozen
  go_wp2_with fail
  clear r_B o_B l_B c_B z_B r_F o_F l_F c_F z_F r_Wd o_Wd l_Wd c_Wd z_Wd r_K o_K l_K c_K z_K
  refine (places_n gb gw n gf c k N _ B.out F.out hN hN2 h1 h2 hb1).mono ?_
  rintro e w2 ⟨a, m, q, rfl, hm, hy, _, hb⟩
  have hbs : Below w1.heap.size w1 w2 := step_below (by first | exact Below.refl _ _ | exact (Below.refl _ _).drew | exact (Below.refl _ _).alloc (Nat.le_refl _) _ | exact ((Below.refl _ _).alloc (Nat.le_refl _) _).drew | exact ((Below.refl _ _).drew).alloc (Nat.le_refl _) _ | exact ((Below.refl _ _).alloc (Nat.le_refl _) _).alloc (by simp) _ | exact (((Below.refl _ _).alloc (Nat.le_refl _) _).alloc (by simp) _).drew | exact (((Below.refl _ _).alloc (Nat.le_refl _) _).alloc (by simp) _).alloc (by simp; omega) _) hb
  try clear HBz
  have HBz := HB.out.size
  replace HB := Lib.hid (step_below HB.out hbs)
  replace B := Lib.hid (B.out.below hbs B.out.lt)
  replace F := Lib.hid (F.out.below hbs F.out.lt)
  replace Wd := Lib.hid (Wd.out.below hbs Wd.out.lt)
  replace K := Lib.hid (K.out.below hbs K.out.lt)
  clear hbs
  clear hb
  have Y := Lib.hid hy
  have M := Lib.hid hm
  have hm80 : m ≤ 80 := by have := HL.out; omega
  clear hm hy
  obtain ⟨L, hLe⟩ : ∃ L, L = pN c k N := ⟨_, rfl⟩
  rw [← hLe] at Y M HL HLT
  have HH := Lib.hid (show hasB ws (pN c k N) = (L.all (bt ws) && !L.isEmpty) by rw [hLe]; rfl)
  clear hLe
  go_wp2_with fail
  clear F K
  go_loopw [7, 13] (fun _ i wr => ∃ t : Nat, t ≤ m ∧ i = .int .i64 t ∧ (L.take t).all (bt ws) = true ∧ At wr gb 92 (bcs gf N gw n) ∧ At wr gw 86 (wd ws) ∧ Ints wr a m (L.map fun p : Nat => (p : Int)) ∧ Below w.heap.size w wr) (fun _ i _ => m - (intOf i).toNat)
  case atStart => exact ⟨0, Nat.zero_le _, rfl, rfl, B.out, Wd.out, Y.out, HB.out⟩
  case round =>
    obtain ⟨t, ht, rfl, hall, hB_, hWd_, hY_, hBel_⟩ := hrel
    have B := Lib.hid hB_
    have Wd := Lib.hid hWd_
    have Y := Lib.hid hY_
    have HB := Lib.hid hBel_
    clear hB_ hWd_ hY_ hBel_
    have HA := Lib.hid hall
    clear hall
    by_cases hlt : t < m
    · have htl : t < L.length := by rw [← M.out]; exact hlt
      obtain ⟨b, o, rfl, lb, hc⟩ := Y.out.2 (by omega)
      have x0 := hc t hlt
      rw [cast_get] at x0
      obtain ⟨p, hp⟩ : ∃ p, p = L.getD t 0 := ⟨_, rfl⟩
      rw [← hp] at x0
      have hpN : p < N := by rw [hp]; exact HLT.out _ (getD_mem L t htl)
      have HP := Lib.hid hp
      clear hc hp
      go_wp2_with fail
      refine (set_any gb gw gf N n p ws _ B.out Wd.out hNn.2 HLL.out (by omega) HX.out).mono ?_
      rintro e w_ ⟨rfl, hw_⟩
      obtain rfl := hw_.symm
      clear hw_
      cases hbt : bt ws p
      · have HF0 := Lib.hid (all_no (bt ws) L t htl (by rw [← HP.out]; exact hbt))
        go_wp2_with fail
        go_ret
        exact ⟨by rw [HH.out, HF0.out]; rfl, HB.out⟩
      · have HT := Lib.hid (all_take (bt ws) L t htl HA.out (by rw [← HP.out]; exact hbt))
        go_wp2_with fail
        go_roundw
        case rel => exact ⟨t + 1, by omega, by go_num, HT.out, B.out, Wd.out, Y.out, HB.out⟩
        case measure => simp [intOf]; omega
    · obtain rfl : m = t := by omega
      have HE := Lib.hid (show hasB ws (pN c k N) = decide (0 < m) by
        have h := HA.out
        rw [List.take_of_length_le (Nat.le_of_eq M.out.symm)] at h
        rw [HH.out, h, M.out]
        cases L <;> simp)
      go_wp2_with fail
      go_ret
      exact ⟨by rw [HE.out]; simp, HB.out⟩
set_option maxRecDepth 100000 in
theorem has_nil (k : Ky) (w : World) : Calls Try.prog 34 #[.pointer none, .agg (kc k)] w fun e w' => e = .returned (.bool false) ∧ Below w.heap.size w w' := by
  go_enter Try.func34, Try.ntmps34
  go_wp2_with fail
  refine (places_nil k _).mono ?_
  rintro e w1 ⟨rfl, hb⟩
  have HB := Lib.hid (step_below ((Below.refl _ w).alloc (Nat.le_refl _) _) hb)
  clear hb
  go_wp2_with fail
  go_loopw [7, 13] (fun _ i wr => i = .int .i64 0 ∧ Below w.heap.size w wr) (fun _ _ _ => 0)
  case atStart => exact ⟨rfl, HB.out⟩
  case round =>
    obtain ⟨rfl, hb⟩ := hrel
    have HB2 := Lib.hid hb
    clear hb
    go_wp2_with fail
    go_ret
    exact ⟨rfl, HB2.out⟩
end Go.Proofs.Ytjjadakjkkmjgaa
