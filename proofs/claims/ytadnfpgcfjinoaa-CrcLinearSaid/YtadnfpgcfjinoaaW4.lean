import Derived.Test.YtadnfpgcfjinoaaW3
import Derived.Test.YtadnfpgcfjinoaaHeap2
namespace Go.Proofs.Ytadnfpgcfjinoaa
open Go.RowKit

theorem i64_and_one (a : Nat) (ha : a < 9223372036854775808) : bits .and .i64 (a : Int) 1 = ((a % 2 : Nat) : Int) := by
  show IntKind.i64.wrap ((BitVec.ofInt 64 (a : Int) &&& BitVec.ofInt 64 1).toNat : Int) = _
  have h1 : (BitVec.ofInt 64 (a : Int)).toNat = a := by
    rw [BitVec.ofInt_natCast, BitVec.toNat_ofNat]; exact Nat.mod_eq_of_lt (by omega)
  have h2 : (BitVec.ofInt 64 1).toNat = 1 := by decide
  rw [BitVec.toNat_and, h1, h2, Nat.and_one_is_mod, IntKind.wrap_i64]
  omega
theorem u32_xor_tab (m x : Nat) (hm : m < 4294967296) (hx : x < 4294967296) : bits .xor .u32 (m : Int) (x : Int) = (m ^^^ x : Nat) := u32_xor_nat m x hm hx
/-- The bits below i, of the table. -/
def part (p k i : Nat) : Nat := sumTo (fun j => stps p 8 (bit k j)) i
theorem part_lt {p : Nat} (hp : p < 4294967296) (k : Nat) : ∀ i, i ≤ 8 → part p k i < 4294967296
  | 0, _ => by simp [part, sumTo]
  | i + 1, h => by
    have h1 := part_lt hp k i (by omega)
    have h2 : bit k i < 4294967296 := by
      unfold bit
      split
      · have := Nat.pow_le_pow_right (n := 2) (by omega) (show i ≤ 31 by omega)
        omega
      · omega
    exact Nat.xor_lt_two_pow (n := 32) h1 (stps_lt hp 8 h2)
theorem part_odd (p k i : Nat) (h : k / 2 ^ i % 2 = 1) : part p k (i + 1) = part p k i ^^^ stps p 8 (2 ^ i) := by
  simp [part, sumTo, bit, h]
theorem part_even (p k i : Nat) (h : ¬ k / 2 ^ i % 2 = 1) : part p k (i + 1) = part p k i := by
  simp [part, sumTo, bit, h, stps_zero]

set_option maxHeartbeats 1000000 in
set_option maxRecDepth 100000 in
theorem tables_any (p : Nat) (hp : p < 4294967296) (k : Int) (w : World) :
    Calls Try.prog 6 #[.int .u32 p, .int .i64 k] w fun e w' => e = .returned (.bool true) ∧ Below w.heap.size w w' := by
  have hz := zero26 p
  have hst := store26 p p 0
  have hk0 : 0 ≤ k % 256 := by omega
  have hk1 : k % 256 < 256 := by omega
  go_enter Try.func6, Try.ntmps6
  go_wp2_with fail
  refine (make_any _ hp _).mono ?_
  rintro e w1 ⟨rfl, rfl⟩
  go_wp2_with fail
  refine (round_any _ 256 (by omega) (by omega) _).mono ?_
  rintro e w1 ⟨rfl, rfl⟩
  generalize k % 256 = q at *
  obtain ⟨q, rfl⟩ := Int.eq_ofNat_of_zero_le hk0
  go_wp2_with fail
  go_loop [7, 8] (fun x i => ∃ j : Nat, j ≤ 8 ∧ i = .int .i64 j ∧ x = .int .u32 (part p q j : Nat)) (fun _ i => 8 - (intOf i).toNat)
  case atStart => exact ⟨0, by omega, rfl, rfl⟩
  case round =>
    obtain ⟨j, hj, rfl, rfl⟩ := hrel
    by_cases hjt : j < 8
    · have hpl := part_lt hp q j hj
      have hsl : stps p 8 (2 ^ j) < 4294967296 := stps_lt hp 8 (by have := Nat.pow_le_pow_right (n := 2) (by omega) (show j ≤ 31 by omega); omega)
      have hx := u32_xor_tab _ _ hpl hsl
      have ha := i64_and_one (q / 2 ^ j) (by have := Nat.div_le_self q (2 ^ j); omega)
      by_cases hodd : q / 2 ^ j % 2 = 1
      · have HP := Lib.hid (part_odd p q j hodd)
        rw [hodd] at ha
        clear hodd
        have hcase : j = 0 ∨ j = 1 ∨ j = 2 ∨ j = 3 ∨ j = 4 ∨ j = 5 ∨ j = 6 ∨ j = 7 := by omega
        rcases hcase with rfl | rfl | rfl | rfl | rfl | rfl | rfl | rfl <;>
        · simp at ha hx
          go_wp2_with fail
          go_round
          case rel => exact ⟨_, by decide, rfl, by rw [HP.out]⟩
          case measure => simp [intOf]
      · have HP := Lib.hid (part_even p q j hodd)
        have hev : q / 2 ^ j % 2 = 0 := by omega
        rw [hev] at ha
        clear hodd hev
        have hcase : j = 0 ∨ j = 1 ∨ j = 2 ∨ j = 3 ∨ j = 4 ∨ j = 5 ∨ j = 6 ∨ j = 7 := by omega
        rcases hcase with rfl | rfl | rfl | rfl | rfl | rfl | rfl | rfl <;>
        · simp at ha hx
          go_wp2_with fail
          go_round
          case rel => exact ⟨_, by decide, rfl, by rw [HP.out]⟩
          case measure => simp [intOf]
    · obtain rfl : j = 8 := by omega
      have e8 : part p q 8 = stps p 8 q := stps_bits p q (by omega)
      rw [e8]
      have e0 : stps p 8 0 = 0 := stps_zero p 8
      go_wp2_with fail
      refine (known_any _).mono ?_
      rintro e w1 ⟨rfl, rfl⟩
      go_wp2_with fail
      refine (known_any _).mono ?_
      rintro e w1 ⟨rfl, rfl⟩
      have eq := tabv_get p q (by omega)
      have ep : poly 0 = 3988292384 := rfl
      go_wp2_with fail
      refine (awake_any _).mono ?_
      rintro e w1 ⟨rfl, hb⟩
      go_wp2_with fail
      go_ret
      exact ⟨rfl, step_below (by repeat first | exact Below.refl _ _ | refine Below.alloc ?_ (by simp <;> omega) _) hb⟩

theorem polys_get (r : Nat) (hr : r < 4) : (#[.int .u32 (poly 0 : Nat), .int .u32 (poly 1 : Nat), .int .u32 (poly 2 : Nat), .int .u32 (poly 3 : Nat)] : Array Value)[r]? = some (.int .u32 (poly r : Nat)) := by
  match r, hr with
  | 0, _ | 1, _ | 2, _ | 3, _ => rfl
theorem tab_facts (w W : World) (p : Nat) (hW : W = (w.alloc (.cells (tabv p) 26)).alloc (.cells (tabv p) 26)) :
    W.heap.size = w.heap.size + 1 + 1 ∧ Below w.heap.size w W ∧ W.rangeAt (w.heap.size + 1) 0 (tabv p).toList ∧ row W (w.heap.size + 1) = tabv p ∧ open_ W (w.heap.size + 1) = true := by
  have h1 : W.heap[w.heap.size + 1]? = some (.cells (tabv p) 26) := by
    rw [hW]
    have := heap_alloc_new (w.alloc (.cells (tabv p) 26)) (.cells (tabv p) 26)
    simpa using this
  refine ⟨by rw [hW]; simp, ?_, fun j v hv => ?_, row_of h1, open_of h1⟩
  · rw [hW]
    refine ((Below.refl _ _).alloc ?_ _).alloc ?_ _ <;> simp
  · rw [cell_of_row _ _ _ _ _ _ h1, Nat.zero_add]
    simpa using hv
theorem keepT {W w' : World} {g : Nat} {l : List Value} (h3 : W.rangeAt g 0 l) (hb : Below W.heap.size W w') : w'.rangeAt g 0 l ∧ Below W.heap.size W w' := by
  refine ⟨fun j v hv => ?_, hb⟩
  have h := h3 j v hv
  exact (hb.cell (block_lt_of_cell h)).trans h
theorem Bytes.take {w : World} {a : Option Addr} {n m : Nat} {l : List Nat} (h : Bytes w a n l) (hm : m ≤ n) : Bytes w a m (l.take m) := by
  obtain ⟨h1, h2, h3⟩ := h
  refine ⟨by rw [List.length_take, h1]; omega, fun c hc => h2 c (List.mem_of_mem_take hc), fun hp => ?_⟩
  obtain ⟨b, o, rfl, hlt, hc⟩ := h3 (by omega)
  refine ⟨b, o, rfl, hlt, fun i hi => ?_⟩
  rw [hc i (by omega), List.getD_eq_getElem?_getD, List.getD_eq_getElem?_getD, List.getElem?_take, if_pos hi]

set_option maxHeartbeats 1000000 in
set_option maxRecDepth 100000 in
theorem seeds_any (k : Int) (s t : Nat) (hs : s < 4294967296) (ht : t < 4294967296) (a b : Option Addr) (na ca nb cb : Nat) (la lb : List Nat) (w : World) (ha : Bytes w a na la) (hb : Bytes w b nb lb) (hcb : nb ≤ cb) :
    Calls Try.prog 7 #[.int .i64 k, .int .u32 s, .int .u32 t, .slice a na ca, .slice b nb cb] w fun e w' => e = .returned (.bool true) ∧ Below w.heap.size w w' := by
  have HA := Lib.hid ha
  have HB := Lib.hid hb
  clear ha hb
  by_cases hg : na ≤ 200 ∧ na ≤ nb ∧ nb ≤ 200
  · obtain ⟨g1, g2, g3⟩ := hg
    have hr0 : 0 ≤ k % 4 := by omega
    have hr1 : k % 4 < 4 := by omega
    go_enter Try.func7, Try.ntmps7
    go_wp2_with fail
    refine (known_any _).mono ?_
    rintro e w1 ⟨rfl, rfl⟩
    go_wp2_with fail
    refine (round_any _ 4 (by omega) (by omega) _).mono ?_
    rintro e w1 ⟨rfl, rfl⟩
    generalize k % 4 = r at *
    obtain ⟨r, rfl⟩ := Int.eq_ofNat_of_zero_le hr0
    have hpr := polys_get r (by omega)
    go_wp2_with fail
    refine (make_any _ (poly_lt r) _).mono ?_
    rintro e w1 ⟨rfl, rfl⟩
    have hp := poly_lt r
    have htop := poly_top r
    clear hpr
    generalize poly r = p at *
    have hz := zero26 p
    have hst := store26 p p 0
    go_wp2_with fail
    obtain ⟨w0, hw0⟩ : ∃ w0, w0 = w.alloc (.cells #[.int .u32 (poly 0 : Nat), .int .u32 (poly 1 : Nat), .int .u32 (poly 2 : Nat), .int .u32 (poly 3 : Nat)] 22) := ⟨_, rfl⟩
    have hw0b : Below w.heap.size w w0 := by rw [hw0]; exact (Below.refl _ _).alloc (Nat.le_refl _) _
    have hw0s : w0.heap.size = w.heap.size + 1 := by rw [hw0]; simp
    rw [← hw0]
    clear hw0
    obtain ⟨W, hW⟩ : ∃ W, W = (w0.alloc (.cells (tabv p) 26)).alloc (.cells (tabv p) 26) := ⟨_, rfl⟩
    rw [← hW]
    obtain ⟨hsz, hbel, hc3, hrow, hopen⟩ := tab_facts w0 W p hW
    clear hW
    rw [hw0s] at hsz hc3 hrow hopen
    have hgl : w.heap.size + 1 + 1 < W.heap.size := by omega
    clear hsz hc3
    generalize w.heap.size + 1 + 1 = g at *
    have HB0 := Lib.hid (step_below hw0b hbel)
    have HA := Lib.hid (HA.out.below HB0.out (Nat.le_refl _))
    have HB := Lib.hid (HB.out.below HB0.out (Nat.le_refl _))
    clear hw0b hbel hw0s hz hst
    refine region_sq (fun _ => False) [(0, true), (1, true), (2, true), (4, true), (5, true), (6, true), (3, false), (7, false), (8, true), (9, true)] (by kernel_rfl) (by kernel_rfl) (fun _ _ d _ _ h => by cases d <;> exact h) ?_
    repeat (refine sq_yes rfl (by rfl) (fun w' hM => by ((try replace hM := hM.of_drew); obtain ⟨hR1, hR2, hR3⟩ := hM.rules; clear hM; go_simp; with_reducible rfl)) ?_; simp only [Act.put, List.setIfInBounds_toArray, List.set_cons_zero, List.set_cons_succ])
    refine sq_do_yes rfl (by rfl) (fun K hK => ?_)
    go_wp2_with fail
    refine (of_any p hp s hs a na ca la _ (HA.out.below (Below.refl _ _).drew (Nat.le_refl _)) (by omega)).mono ?_
    rintro e w' ⟨rfl, rfl⟩
    go_wp2_with fail
    refine ⟨(Mod.refl _ _).alloc _, ?_⟩
    repeat (refine sq_yes rfl (by rfl) (fun w' hM => by ((try replace hM := hM.of_drew); obtain ⟨hR1, hR2, hR3⟩ := hM.rules; clear hM; go_simp; with_reducible rfl)) ?_; simp only [Act.put, List.setIfInBounds_toArray, List.set_cons_zero, List.set_cons_succ])
    refine sq_do_yes rfl (by rfl) (fun K hK => ?_)
    go_wp2_with fail
    refine (of_any p hp t ht a na ca la _ (HA.out.below ((Below.refl _ _).alloc (Nat.le_refl _) _).drew (Nat.le_refl _)) (by omega)).mono ?_
    rintro e w' ⟨rfl, rfl⟩
    go_wp2_with fail
    refine ⟨(Mod.refl _ _).alloc _, ?_⟩
    repeat (refine sq_yes rfl (by rfl) (fun w' hM => by ((try replace hM := hM.of_drew); obtain ⟨hR1, hR2, hR3⟩ := hM.rules; clear hM; go_simp; with_reducible rfl)) ?_; simp only [Act.put, List.setIfInBounds_toArray, List.set_cons_zero, List.set_cons_succ])
    refine sq_end ?_
    go_wp2_with fail
    obtain ⟨W2, hW2⟩ : ∃ W2, W2 = ((W.alloc (.cells (tabv p) 26)).alloc (.cells (tabv p) 26)).drew := ⟨_, rfl⟩
    rw [← hW2]
    have hB2 : Below W.heap.size W W2 := by rw [hW2]; exact (((Below.refl _ _).alloc (Nat.le_refl _) _).alloc (by simp) _).drew
    have hs2 : g < W2.heap.size := by have := hB2.size; omega
    have hR := (Mod.of_below (M := fun _ => False) hB2).rules
    have hrow2 : row W2 g = tabv p := (hR.2.1 _ (by omega) id).trans hrow
    have hopen2 : open_ W2 g = true := (hR.2.2 _ (by omega) id).trans hopen
    have HB := Lib.hid (HB.out.below hB2 (Nat.le_refl _))
    have HB1 := Lib.hid (step_below HB0.out hB2)
    clear hR hrow hopen hB2 hW2 HB0
    have hls : crc p s la < 4294967296 := crc_lt hp hs (by obtain ⟨_, h, _⟩ := HA.out; exact h)
    have hlt : crc p t la < 4294967296 := crc_lt hp ht (by obtain ⟨_, h, _⟩ := HA.out; exact h)
    have hlen : la.length = (lb.take na).length := by obtain ⟨h1, _, _⟩ := HA.out; obtain ⟨h2, _, _⟩ := HB.out; rw [List.length_take]; omega
    have hls' : crc p s (lb.take na) < 4294967296 := crc_lt hp hs (by obtain ⟨_, h, _⟩ := HB.out; exact fun c hc => h c (List.mem_of_mem_take hc))
    have hlt' : crc p t (lb.take na) < 4294967296 := crc_lt hp ht (by obtain ⟨_, h, _⟩ := HB.out; exact fun c hc => h c (List.mem_of_mem_take hc))
    have hx1 := u32_xor_nat _ _ hls hlt
    have hx2 := u32_xor_nat _ _ hls' hlt'
    rw [← crc_seeds p s t la (lb.take na) hlen] at hx2
    have hcut : (na : Int) ≤ cb := by omega
    obtain ⟨β, f1, f2⟩ : ∃ β : Bool, (((crc p s la : Nat) : Int) == ((crc p t la : Nat) : Int)) = β ∧ ((s : Int) == (t : Int)) = β := by
      refine ⟨_, rfl, ?_⟩
      rw [Bool.eq_iff_iff, beq_iff_eq, beq_iff_eq]
      refine ⟨fun h => ?_, fun h => ?_⟩
      · have e : s = t := by omega
        rw [e]
      · have e : s = t := crc_seed_inj hp htop hs ht (by obtain ⟨_, h, _⟩ := HA.out; exact h) (by omega)
        rw [e]
    cases β
    all_goals
      refine region_sq (fun _ => False) [(0, true), (1, true), (2, true), (3, true), (4, true), (5, true), (6, true), (7, true), (8, true), (9, true), (10, true), (11, true), (12, true), (13, true), (14, true), (15, true), (16, true), (18, true), (19, true), (20, true), (21, true), (22, true), (23, true), (17, false), (24, false), (25, true), (26, true), (27, true), (28, true), (29, false), (30, true), (31, true)] (by kernel_rfl) (by kernel_rfl) (fun _ _ d _ _ h => by cases d <;> exact h) ?_
      repeat (refine sq_yes rfl (by rfl) (fun w' hM => by ((try replace hM := hM.of_drew); obtain ⟨hR1, hR2, hR3⟩ := hM.rules; clear hM; go_simp; with_reducible rfl)) ?_; simp only [Act.put, List.setIfInBounds_toArray, List.set_cons_zero, List.set_cons_succ])
      refine sq_do_yes rfl (by rfl) (fun K hK => ?_)
      go_wp2_with fail
      refine (of_any p hp s hs b na cb (lb.take na) _ ((HB.out.take g2).below (Below.refl _ _).drew (Nat.le_refl _)) (by omega)).mono ?_
      rintro e w' ⟨rfl, rfl⟩
      go_wp2_with fail
      refine ⟨(Mod.refl _ _).alloc _, ?_⟩
      repeat (refine sq_yes rfl (by rfl) (fun w' hM => by ((try replace hM := hM.of_drew); obtain ⟨hR1, hR2, hR3⟩ := hM.rules; clear hM; go_simp; with_reducible rfl)) ?_; simp only [Act.put, List.setIfInBounds_toArray, List.set_cons_zero, List.set_cons_succ])
      refine sq_do_yes rfl (by rfl) (fun K hK => ?_)
      go_wp2_with fail
      refine (of_any p hp t ht b na cb (lb.take na) _ ((HB.out.take g2).below ((Below.refl _ _).alloc (Nat.le_refl _) _).drew (Nat.le_refl _)) (by omega)).mono ?_
      rintro e w' ⟨rfl, rfl⟩
      go_wp2_with fail
      refine ⟨(Mod.refl _ _).alloc _, ?_⟩
      repeat (refine sq_yes rfl (by rfl) (fun w' hM => by ((try replace hM := hM.of_drew); obtain ⟨hR1, hR2, hR3⟩ := hM.rules; clear hM; go_simp; with_reducible rfl)) ?_; simp only [Act.put, List.setIfInBounds_toArray, List.set_cons_zero, List.set_cons_succ])
      refine sq_do_yes rfl (by rfl) (fun K hK => ?_)
      go_wp2_with fail
      refine (awake_any _).mono ?_
      rintro e w' ⟨rfl, hbb⟩
      go_wp2_with fail
      refine ⟨Mod.of_below hbb, ?_⟩
      repeat (refine sq_yes rfl (by rfl) (fun w' hM => by ((try replace hM := hM.of_drew); obtain ⟨hR1, hR2, hR3⟩ := hM.rules; clear hM; go_simp; with_reducible rfl)) ?_; simp only [Act.put, List.setIfInBounds_toArray, List.set_cons_zero, List.set_cons_succ])
      refine sq_end ?_
      go_wp2_with fail
      go_ret
      exact ⟨rfl, step_below HB1.out (step_below ((((Below.refl _ _).alloc (Nat.le_refl _) _).alloc (by simp) _).drew) hbb)⟩
  · have hg' : 200 < na ∨ (na ≤ 200 ∧ nb < na) ∨ (na ≤ 200 ∧ na ≤ nb ∧ 200 < nb) := by omega
    clear hg hcb
    rcases hg' with g1 | ⟨g1, g2⟩ | ⟨g1, g2, g3⟩ <;>
    · go_enter Try.func7, Try.ntmps7
      go_wp2_with fail
      refine (known_any _).mono ?_
      rintro e w1 ⟨rfl, rfl⟩
      go_wp2_with fail
      refine (awake_any _).mono ?_
      rintro e w1 ⟨rfl, hb⟩
      go_wp2_with fail
      go_ret
      exact ⟨rfl, step_below (by repeat first | exact Below.refl _ _ | refine Below.alloc ?_ (by simp <;> omega) _) hb⟩
end Go.Proofs.Ytadnfpgcfjinoaa
