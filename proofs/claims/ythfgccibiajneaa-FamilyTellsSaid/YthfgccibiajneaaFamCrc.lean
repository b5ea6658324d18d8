import Derived.Test.YthfgccibiajneaaRows
import Derived.Test.YthfgccibiajneaaCrcPlain
import Derived.WalkKit
import Derived.WalkSpells
import Derived.WalkLawsBesides
import Derived.Lib.Hide
import Derived.Deep.WholeRow
namespace Go.Proofs.Ythfgccibiajneaa
open Go.RowKit

theorem tmod_gt (k n : Int) (h : 0 < n) : -n < k.tmod n := by
  have h1 := Int.lt_tmod_of_pos k h
  omega
theorem rem_round (k n : Int) (h1 : 0 < n) (h2 : n ≤ 1000000) : (wrap64 (k.tmod n + n)).tmod n = k % n := by
  have a := Int.tmod_lt_of_pos k h1
  have b := tmod_gt k n h1
  have e : wrap64 (k.tmod n + n) = k.tmod n + n := by unfold wrap64; omega
  rw [e, Int.tmod_eq_emod_of_nonneg (by omega), Int.add_emod_right]
  rw [Int.tmod_eq_emod]
  split
  · simp
  · rw [← Int.eq_natAbs_of_nonneg (by omega)]; simp

set_option maxHeartbeats 400000 in
theorem round_any (k n : Int) (h1 : 0 < n) (h2 : n ≤ 1000000) (w : World) :
    Calls Try.prog 41 #[.int .i64 k, .int .i64 n] w fun e w' => e = .returned (.int .i64 (k % n)) ∧ w = w' := by
  have H := Lib.hid (rem_round k n h1 h2)
  go_enter Try.func41, Try.ntmps41
  go_wp2
  go_ret
  exact ⟨by simp [H.out], rfl⟩

/-- The table's cells: those below k are made. -/
def tabk (p k : Nat) : Array Value := ((List.range 256).map fun i => if i < k then .int .u32 (stps p 8 i : Nat) else .int .u32 0).toArray
def tabv (p : Nat) : Array Value := tabk p 256
theorem tabk_size (p k : Nat) : (tabk p k).size = 256 := by simp [tabk]
theorem tabk_get (p k i : Nat) : (tabk p k)[i]? = if i < 256 then some (if i < k then .int .u32 (stps p 8 i : Nat) else .int .u32 0) else none := by
  unfold tabk
  by_cases h : i < 256 <;> simp [h]
theorem tabk_set (p k : Nat) (hk : k < 256) : (tabk p k).setIfInBounds k (.int .u32 (stps p 8 k : Nat)) = tabk p (k + 1) := by
  apply Array.ext_getElem?
  intro i
  rw [Array.getElem?_setIfInBounds, tabk_get, tabk_get, tabk_size]
  by_cases h : k = i
  · subst h; simp [hk]
  · rw [if_neg h]
    by_cases h2 : i < 256
    · rw [if_pos h2, if_pos h2]
      by_cases h3 : i < k
      · rw [if_pos h3, if_pos (by omega)]
      · rw [if_neg h3, if_neg (by omega)]
    · rw [if_neg h2, if_neg h2]

theorem zero26' (w : World) : (zeroValue 136).run Try.prog w = .ok (.agg (Array.replicate 256 (.int .u32 0))) w := by kernel_rfl
theorem tabk_zero (p : Nat) : tabk p 0 = Array.replicate 256 (.int .u32 0) := by
  apply Array.ext_getElem?
  intro i
  rw [tabk_get]
  by_cases h : i < 256 <;> simp [h]
theorem zero26 (p : Nat) (w : World) : (zeroValue 136).run Try.prog w = .ok (.agg (tabk p 0)) w := by rw [tabk_zero]; exact zero26' w
theorem size26 : (Try.prog.info? 136).map (·.size) = some 256 := by kernel_rfl

theorem tabk_one (p k : Nat) : (tabk p k).all (·.oneCell') = true := by
  refine Array.all_eq_true_iff_forall_mem.2 (fun v hv => ?_)
  simp only [tabk, List.mem_toArray, List.mem_map] at hv
  obtain ⟨i, _, rfl⟩ := hv
  split <;> rfl
theorem and_one_odd (m : Nat) (hm : m < 4294967296) (h : m % 2 = 1) : bits .and .u32 (m : Int) 1 = 1 := by
  have := u32_and_nat m 1 hm (by omega)
  rw [Nat.and_one_is_mod, h] at this
  exact this
theorem and_one_even (m : Nat) (hm : m < 4294967296) (h : ¬ m % 2 = 1) : bits .and .u32 (m : Int) 1 = 0 := by
  have := u32_and_nat m 1 hm (by omega)
  rw [Nat.and_one_is_mod, show m % 2 = 0 from by omega] at this
  exact this
theorem half_odd (p m : Nat) (hp : p < 4294967296) (hm : m < 4294967296) (h : m % 2 = 1) : bits .xor .u32 ((m : Int) / 2) (p : Int) = (stp p m : Nat) := by
  have := u32_xor_nat (m / 2) p (by omega) hp
  unfold stp
  rw [if_pos h, ← this, Int.natCast_ediv]; rfl
theorem half_even (p m : Nat) (h : ¬ m % 2 = 1) : (m : Int) / 2 = (stp p m : Nat) := by
  unfold stp
  rw [if_neg h, Int.natCast_ediv]; rfl

set_option maxHeartbeats 400000 in
set_option maxRecDepth 100000 in
theorem make_any (p : Nat) (hp : p < 4294967296) (w : World) :
    Calls Try.prog 84 #[.int .u32 p] w fun e w' => e = .returned (.agg (tabv p)) ∧ w' = w.alloc (.cells (tabv p) 136) := by
  have hz := zero26 p
  go_enter Try.func84, Try.ntmps84
  go_wp2
  go_loopw [6] (fun i wr => ∃ k : Nat, k ≤ 256 ∧ i = .int .i64 k ∧ wr = w.alloc (.cells (tabk p k) 136)) (fun i _ => 256 - (intOf i).toNat)
  case atStart => exact ⟨0, by omega, rfl, rfl⟩
  case round =>
    obtain ⟨k, hk, rfl, rfl⟩ := hrel
    by_cases hlt : k < 256
    · go_wp2
      go_loop [4, 11] (fun n i => ∃ j : Nat, j ≤ 8 ∧ i = .int .i64 j ∧ ∃ m : Nat, m < 4294967296 ∧ n = .int .u32 m ∧ stps p (8 - j) m = stps p 8 k) (fun _ i => 8 - (intOf i).toNat)
      case atStart => exact ⟨0, by omega, rfl, k, by omega, rfl, rfl⟩
      case round =>
        obtain ⟨j, hj, rfl, m, hm, rfl, hmk⟩ := hrel
        have HM := Lib.hid hmk
        clear hmk
        by_cases hjt : j < 8
        · by_cases hodd : m % 2 = 1
          · have hb : bits .and .u32 (m : Int) 1 = 1 := and_one_odd m hm hodd
            go_wp2
            go_round
            case rel => exact ⟨j + 1, by omega, by go_num, _, stp_lt hp hm, by rw [half_odd p m hp hm hodd], by rw [← HM.out, show 8 - j = 8 - (j + 1) + 1 from by omega]; rfl⟩
            case measure => simp [intOf]; omega
          · have hb : bits .and .u32 (m : Int) 1 = 0 := and_one_even m hm hodd
            go_wp2
            go_round
            case rel => exact ⟨j + 1, by omega, by go_num, _, stp_lt hp hm, by rw [half_even p m hodd], by rw [← HM.out, show 8 - j = 8 - (j + 1) + 1 from by omega]; rfl⟩
            case measure => simp [intOf]; omega
        · obtain rfl : j = 8 := by omega
          have e : m = stps p 8 k := HM.out
          subst e
          have hc : (tabk p k)[k]? = some (.int .u32 0) := by rw [tabk_get]; simp [hlt]
          go_wp2
          go_roundw
          case rel => exact ⟨k + 1, by omega, by go_num, by rw [← tabk_set p k hlt]⟩
          case measure => simp [intOf]; omega
    · obtain rfl : k = 256 := by omega
      have hst := run_storeCells_new (P := Try.prog) w 136 (tabk p 256) (tabk p 256) (by rw [tabk_size]; exact size26) rfl (tabk_one p 256)
      go_wp2_with (refine wpList_load_row rfl 136 _ rfl w.heap.size rfl 136 (tabk p 256) (0, 0) _ (heap_alloc_new w _) Try.underlying136 rfl (by rw [tabk_size]; exact size26) ?_)
      exact bodyPost_ret (results_cell_row rfl _ _ w.heap.size 136 (tabk p 256) (0, 0) _ rfl (heap_alloc_new w _) Try.underlying136 rfl (by rw [tabk_size]; exact size26)) rfl ⟨rfl, rfl⟩

/-- A slice of bytes: nil, or so many cells that hold the list. -/
def Bytes (w : World) (a : Option Addr) (n : Nat) (l : List Nat) : Prop :=
  l.length = n ∧ (∀ c ∈ l, c < 256) ∧ (0 < n → ∃ b o, a = some ⟨b, o, none⟩ ∧ b < w.heap.size ∧ ∀ i, i < n → w.cell? ⟨b, o + i, none⟩ = some (.int .u8 (l.getD i 0 : Nat)))
theorem not_max (s : Nat) (hs : s < 4294967296) : bits .xor .u32 IntKind.u32.max (s : Int) = (inv s : Nat) := by
  have := u32_xor_nat 4294967295 s (by omega) hs
  rw [Nat.xor_comm] at this
  exact this
theorem low_xor (m c : Nat) (hc : c < 256) : bits .xor .u8 ((m : Int) % 256) (c : Int) = ((m % 256 ^^^ c : Nat) : Int) := by
  have := u8_xor_nat (m % 256) c (by omega) hc
  exact this
theorem tabv_get (p i : Nat) (h : i < 256) : (tabv p)[i]? = some (.int .u32 (stps p 8 i : Nat)) := by unfold tabv; rw [tabk_get]; simp [h]
theorem byt_bits (p m c : Nat) (hp : p < 4294967296) (hm : m < 4294967296) (hc : c < 256) : bits .xor .u32 ((m : Int) / 256) (stps p 8 (m % 256 ^^^ c) : Nat) = (byt p m c : Nat) := by
  have h : m % 256 ^^^ c < 256 := Nat.xor_lt_two_pow (n := 8) (by omega) (by omega)
  have := u32_xor_nat (m / 256) (stps p 8 (m % 256 ^^^ c)) (by omega) (stps_lt hp 8 (by omega))
  exact this
theorem run_snoc (p m : Nat) (l : List Nat) (k : Nat) (h : k < l.length) : run p m (l.take (k + 1)) = byt p (run p m (l.take k)) (l.getD k 0) := by
  rw [List.take_succ_eq_append_getElem h, run_append, List.getD_eq_getElem?_getD, List.getElem?_eq_getElem h]; rfl

set_option maxHeartbeats 400000 in
set_option maxRecDepth 100000 in
theorem of_any (p : Nat) (hp : p < 4294967296) (s : Nat) (hs : s < 4294967296) (a : Option Addr) (n c : Nat) (l : List Nat) (w : World) (hb : Bytes w a n l) (hn : n ≤ 1000000) :
    Calls Try.prog 109 #[.agg (tabv p), .int .u32 s, .slice a n c] w fun e w' => e = .returned (.int .u32 (crc p s l : Nat)) ∧ w' = w.alloc (.cells (tabv p) 136) := by
  obtain ⟨hl, hl8, hcell⟩ := hb
  have HL := Lib.hid hl
  clear hl
  have HC := Lib.hid hcell
  clear hcell
  have H8 := Lib.hid hl8
  clear hl8
  have hx := not_max s hs
  go_enter Try.func109, Try.ntmps109
  go_wp2
  go_loop [7, 14] (fun m i => ∃ k : Nat, k ≤ n ∧ i = .int .i64 k ∧ m = .int .u32 (run p (inv s) (l.take k) : Nat)) (fun _ i => n - (intOf i).toNat)
  case atStart => exact ⟨0, by omega, rfl, rfl⟩
  case round =>
    obtain ⟨k, hk, rfl, rfl⟩ := hrel
    have hm := run_lt hp (l.take k) (inv_lt hs) (fun c hc => H8.out c (List.mem_of_mem_take hc))
    by_cases hlt : k < n
    · obtain ⟨b, o, rfl, hxb, hxc⟩ := HC.out (by omega)
      have hx1 := hxc k hlt
      clear hxc
      have hkl : k < l.length := by have := HL.out; omega
      have hd : l.getD k 0 < 256 := H8.out _ (by rw [List.getD_eq_getElem?_getD, List.getElem?_eq_getElem hkl]; exact List.getElem_mem hkl)
      have HS := Lib.hid (run_snoc p (inv s) l k hkl)
      clear hkl
      generalize run p (inv s) (l.take k) = m at *
      generalize l.getD k 0 = d at *
      have h1 := low_xor m d hd
      have h2 := byt_bits p m d hp hm hd
      have h3 : m % 256 ^^^ d < 256 := Nat.xor_lt_two_pow (n := 8) (by omega) (by omega)
      have h4 := tabv_get p _ h3
      generalize m % 256 ^^^ d = j at *
      go_wp2
      go_round
      case rel => exact ⟨k + 1, by omega, by go_num, by rw [HS.out]⟩
      case measure => simp [intOf]; omega
    · obtain rfl : k = n := by omega
      have e : l.take k = l := List.take_of_length_le (by have := HL.out; omega)
      rw [e] at hm ⊢
      have hy := not_max _ hm
      go_wp2
      go_ret
      exact ⟨rfl, rfl⟩

/-- The reference's check, bit by bit. -/
def bitwise (p n c : Nat) : Nat := stps p 8 (n ^^^ c)
theorem xor_byte (m c : Nat) (hm : m < 4294967296) (hc : c < 256) : bits .xor .u32 (m : Int) (c : Int) = (m ^^^ c : Nat) := u32_xor_nat m c hm (by omega)
theorem max_xor (s : Nat) (hs : s < 4294967296) : bits .xor .u32 (s : Int) 4294967295 = (inv s : Nat) := u32_xor_nat s 4294967295 hs (by omega)
theorem beq_one (m : Nat) (h : m % 2 = 1) : ((m : Int) % 2 == 1) = true := by simp; omega

set_option maxHeartbeats 400000 in
set_option maxRecDepth 100000 in
theorem ref_any (p : Nat) (hp : p < 4294967296) (s : Nat) (hs : s < 4294967296) (a : Option Addr) (n c : Nat) (l : List Nat) (w : World) (hb : Bytes w a n l) (hn : n ≤ 1000000) :
    Calls Try.prog 112 #[.int .u32 p, .int .u32 s, .slice a n c] w fun e w' => e = .returned (.int .u32 (crc p s l : Nat)) ∧ w = w' := by
  obtain ⟨hl, hl8, hcell⟩ := hb
  have HL := Lib.hid hl
  clear hl
  have HC := Lib.hid hcell
  clear hcell
  have H8 := Lib.hid hl8
  clear hl8
  have hx := max_xor s hs
  go_enter Try.func112, Try.ntmps112
  go_wp2
  go_loop [7, 8] (fun m i => ∃ k : Nat, k ≤ n ∧ i = .int .i64 k ∧ m = .int .u32 (run p (inv s) (l.take k) : Nat)) (fun _ i => n - (intOf i).toNat)
  case atStart => exact ⟨0, by omega, rfl, rfl⟩
  case round =>
    obtain ⟨k, hk, rfl, rfl⟩ := hrel
    have hm := run_lt hp (l.take k) (inv_lt hs) (fun c hc => H8.out c (List.mem_of_mem_take hc))
    by_cases hlt : k < n
    · obtain ⟨b, o, rfl, hxb, hxc⟩ := HC.out (by omega)
      have hx1 := hxc k hlt
      clear hxc
      have hkl : k < l.length := by have := HL.out; omega
      have hd : l.getD k 0 < 256 := H8.out _ (by rw [List.getD_eq_getElem?_getD, List.getElem?_eq_getElem hkl]; exact List.getElem_mem hkl)
      have HS := Lib.hid (run_snoc p (inv s) l k hkl)
      clear hkl
      generalize run p (inv s) (l.take k) = m at *
      generalize l.getD k 0 = d at *
      have h1 := xor_byte m d hm hd
      have h2 : m ^^^ d < 4294967296 := Nat.xor_lt_two_pow (n := 32) (by omega) (by omega)
      have hmd : Hid (stps p 8 (m ^^^ d) = byt p m d) := Lib.hid (byt_eq p m d).symm
      generalize m ^^^ d = q at *
      go_wp2
      go_loop [7, 9] (fun n i => ∃ j : Nat, j ≤ 8 ∧ i = .int .i64 j ∧ ∃ m : Nat, m < 4294967296 ∧ n = .int .u32 m ∧ stps p (8 - j) m = stps p 8 q) (fun _ i => 8 - (intOf i).toNat)
      case atStart => exact ⟨0, by omega, rfl, q, h2, rfl, rfl⟩
      case round =>
        obtain ⟨j, hj, rfl, x, hxl, rfl, hmk⟩ := hrel
        have HM := Lib.hid hmk
        clear hmk
        by_cases hjt : j < 8
        · by_cases hodd : x % 2 = 1
          · have hb : bits .and .u32 (x : Int) 1 = 1 := and_one_odd x hxl hodd
            have hz := half_odd p x hp hxl hodd
            go_wp2
            go_round
            case rel => exact ⟨j + 1, by omega, by go_num, _, stp_lt hp hxl, rfl, by rw [← HM.out, show 8 - j = 8 - (j + 1) + 1 from by omega]; rfl⟩
            case measure => simp [intOf]; omega
          · have hb : bits .and .u32 (x : Int) 1 = 0 := and_one_even x hxl hodd
            have hz := half_even p x hodd
            go_wp2
            go_round
            case rel => exact ⟨j + 1, by omega, by go_num, _, stp_lt hp hxl, rfl, by rw [← HM.out, show 8 - j = 8 - (j + 1) + 1 from by omega]; rfl⟩
            case measure => simp [intOf]; omega
        · obtain rfl : j = 8 := by omega
          have e : x = byt p m d := HM.out.trans hmd.out
          subst e
          go_wp2
          go_round
          case rel => exact ⟨k + 1, by omega, by go_num, by rw [HS.out]⟩
          case measure => simp [intOf]; omega
    · obtain rfl : k = n := by omega
      have e : l.take k = l := List.take_of_length_le (by have := HL.out; omega)
      rw [e] at hm ⊢
      have hy := max_xor _ hm
      go_wp2
      go_ret
      exact ⟨rfl, rfl⟩

theorem known_any (w : World) :
    Calls Try.prog 83 #[] w fun e w' => e = .returned (.slice (some ⟨w.heap.size, 0, none⟩) 4 4) ∧ w' = w.alloc (.cells #[.int .u32 (poly 0 : Nat), .int .u32 (poly 1 : Nat), .int .u32 (poly 2 : Nat), .int .u32 (poly 3 : Nat)] 25) := by
  go_enter Try.func83, Try.ntmps83
  go_wp2
  go_ret
  exact ⟨rfl, rfl⟩

set_option maxHeartbeats 400000 in
theorem refKnown_any (n : Int) (w : World) :
    Calls Try.prog 113 #[.int .i64 n] w fun e w' => e = .returned (.int .u32 (poly (n % 4).toNat : Nat)) ∧ Below w.heap.size w w' := by
  have h := rem_round n 4 (by omega) (by omega)
  have h0 : 0 ≤ n % 4 := by omega
  have h1 : n % 4 < 4 := by omega
  generalize n % 4 = q at *
  obtain ⟨q, rfl⟩ := Int.eq_ofNat_of_zero_le h0
  have hq : q = 0 ∨ q = 1 ∨ q = 2 ∨ q = 3 := by omega
  rcases hq with rfl | rfl | rfl | rfl <;>
  · go_enter Try.func113, Try.ntmps113
    go_wp2
    go_ret
    exact ⟨rfl, (Below.refl _ _).alloc (Nat.le_refl _) _⟩
end Go.Proofs.Ythfgccibiajneaa
