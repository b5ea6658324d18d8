import Derived.Test.YtadnfpgcfjinoaaW2
import Derived.Deep.RegionHeld3
import Derived.Deep.QuietTactic
import Derived.BigQuiet
import Derived.StillTailTactics
namespace Go.Proofs.Ytadnfpgcfjinoaa
open Go.RowKit

/-- What a walk is told of a slice of integers that came in: nil, or a row of 'cap' cells, the numbers 'zs'. -/
def IsRow (k : IntKind) (w : World) (a : Option Addr) (len cap : Nat) (zs : List Int) : Prop :=
  (a = none ∧ len = 0 ∧ cap = 0 ∧ zs = []) ∨
  ∃ x, a = some x ∧ len ≤ cap ∧ cap ≤ maxLen ∧ zs.length = cap ∧ (∀ i, i < zs.length → w.cell? (x.add i) = some (.int k (zs.getD i 0))) ∧ ∀ n ∈ zs, (Lit.int k n).wf = true

theorem cell_spot {w : World} {a : Addr} {v : Value} (h : w.cell? a = some v) : a.spot = none ∧ a.block < w.heap.size := by
  refine ⟨?_, block_lt_of_cell h⟩
  unfold World.cell? at h
  split at h
  · split at h
    · cases h
    · rename_i hs; simpa using hs
  · cases h
theorem u8_bounds {n : Int} (h : (Lit.int .u8 n).wf = true) : 0 ≤ n ∧ n < 256 := by
  simp [Lit.wf, IntKind.min, IntKind.max, IntKind.signed, IntKind.bits] at h
  omega
theorem bytes_of_row {w : World} {a : Option Addr} {len cap : Nat} {zs : List Int} (h : IsRow .u8 w a len cap zs) : Bytes w a len ((zs.take len).map Int.toNat) ∧ len ≤ cap ∧ cap ≤ maxLen := by
  rcases h with ⟨rfl, rfl, rfl, rfl⟩ | ⟨x, rfl, h1, h2, h3, h4, h5⟩
  · exact ⟨bytes_nil w, by omega, by omega⟩
  · refine ⟨⟨by simp; omega, ?_, ?_⟩, h1, h2⟩
    · intro c hc
      simp only [List.mem_map] at hc
      obtain ⟨z, hz, rfl⟩ := hc
      have := u8_bounds (h5 z (List.mem_of_mem_take hz))
      omega
    · intro hpos
      have h0 := h4 0 (by omega)
      rw [show x.add 0 = x from by simp [Addr.add]] at h0
      obtain ⟨hs, hb⟩ := cell_spot h0
      obtain ⟨b, o, s⟩ := x
      simp only at hs hb
      subst hs
      refine ⟨b, o, rfl, hb, fun i hi => ?_⟩
      have := h4 i (by omega)
      have hadd : (⟨b, o, none⟩ : Addr).add i = ⟨b, o + i, none⟩ := by unfold Addr.add; split <;> simp_all
      rw [hadd] at this
      rw [this]
      have hg : ((zs.take len).map Int.toNat).getD i 0 = (zs.getD i 0).toNat := by
        simp only [List.getD_eq_getElem?_getD, List.getElem?_map, List.getElem?_take, if_pos hi]
        cases zs[i]? <;> rfl
      rw [hg]
      have hb := u8_bounds (h5 (zs.getD i 0) (by rw [List.getD_eq_getElem?_getD, List.getElem?_eq_getElem (by omega)]; exact List.getElem_mem _))
      rw [Int.toNat_of_nonneg hb.1]
theorem u32_nat {n : Int} (h : (Lit.int .u32 n).wf = true) : ∃ m : Nat, n = m ∧ m < 4294967296 := by
  simp [Lit.wf, IntKind.min, IntKind.max, IntKind.signed, IntKind.bits] at h
  exact ⟨n.toNat, by omega, by omega⟩
theorem step_below {a b c : World} (h : Below a.heap.size a b) (k : Below b.heap.size b c) : Below a.heap.size a c := h.trans (k.mono h.size)
theorem Bytes.below {w w' : World} {a : Option Addr} {n : Nat} {l : List Nat} {B : Nat} (h : Bytes w a n l) (hb : Below B w w') (hB : w.heap.size ≤ B) : Bytes w' a n l := by
  obtain ⟨h1, h2, h3⟩ := h
  refine ⟨h1, h2, fun hn => ?_⟩
  obtain ⟨b, o, rfl, hlt, hc⟩ := h3 hn
  exact ⟨b, o, rfl, by have := hb.size; omega, fun i hi => (hb.cell (p := ⟨b, o + i, none⟩) (by show b < B; omega)).trans (hc i hi)⟩

theorem keepS {W w' : World} {g q g2 r : Nat} {x y : Value} {l : List Value} (h1 : W.cell? ⟨g, q, none⟩ = some x) (h2 : W.cell? ⟨g2, r, none⟩ = some y) (h3 : W.rangeAt g 0 l) (hb : Below W.heap.size W w') :
    w'.cell? ⟨g, q, none⟩ = some x ∧ w'.cell? ⟨g2, r, none⟩ = some y ∧ w'.rangeAt g 0 l ∧ Below W.heap.size W w' := by
  have hl : ∀ {b o : Nat} {v : Value}, W.cell? ⟨b, o, none⟩ = some v → w'.cell? ⟨b, o, none⟩ = some v := fun h => (hb.cell (block_lt_of_cell h)).trans h
  exact ⟨hl h1, hl h2, fun j v hv => hl (h3 j v hv), hb⟩
theorem three_facts (w W : World) (p : Nat) (hW : W = ((w.alloc (.cells (tabv p) 26)).alloc (.cells (tabv p) 26)).alloc (.cells #[.int .u32 (poly 0 : Nat), .int .u32 (poly 1 : Nat), .int .u32 (poly 2 : Nat), .int .u32 (poly 3 : Nat)] 22)) :
    W.heap.size = w.heap.size + 1 + 1 + 1 ∧ Below w.heap.size w W ∧ (∀ q, q < 256 → W.cell? ⟨w.heap.size + 1, q, none⟩ = some (.int .u32 (stps p 8 q : Nat))) ∧ (∀ r, r < 4 → W.cell? ⟨w.heap.size + 1 + 1, r, none⟩ = some (.int .u32 (poly r : Nat))) ∧ W.rangeAt (w.heap.size + 1) 0 (tabv p).toList := by
  have h1 : W.heap[w.heap.size + 1]? = some (.cells (tabv p) 26) := by
    rw [hW, Below.heap_alloc _ _ _ (by simp)]
    have := heap_alloc_new (w.alloc (.cells (tabv p) 26)) (.cells (tabv p) 26)
    simpa using this
  have h2 : W.heap[w.heap.size + 1 + 1]? = some (.cells #[.int .u32 (poly 0 : Nat), .int .u32 (poly 1 : Nat), .int .u32 (poly 2 : Nat), .int .u32 (poly 3 : Nat)] 22) := by
    rw [hW]
    have := heap_alloc_new ((w.alloc (.cells (tabv p) 26)).alloc (.cells (tabv p) 26)) (.cells #[.int .u32 (poly 0 : Nat), .int .u32 (poly 1 : Nat), .int .u32 (poly 2 : Nat), .int .u32 (poly 3 : Nat)] 22)
    simpa using this
  refine ⟨by rw [hW]; simp, ?_, fun q hq => ?_, fun r hr => ?_, fun j v hv => ?_⟩
  · rw [hW]
    refine (((Below.refl _ _).alloc ?_ _).alloc ?_ _).alloc ?_ _ <;> simp <;> omega
  · rw [cell_of_row _ _ _ _ _ _ h1, tabv_get _ _ hq]
  · rw [cell_of_row _ _ _ _ _ _ h2]
    match r, hr with
    | 0, _ | 1, _ | 2, _ | 3, _ => rfl
  · rw [cell_of_row _ _ _ _ _ _ h1, Nat.zero_add]
    simpa using hv

set_option maxHeartbeats 1000000 in
set_option maxRecDepth 100000 in
theorem tells_any (p s : Nat) (hp : p < 4294967296) (hs : s < 4294967296) (a : Option Addr) (n c : Nat) (l : List Nat) (k : Int) (w : World) (hb : Bytes w a n l) :
    Calls Try.prog 3 #[.int .u32 p, .int .u32 s, .slice a n c, .int .i64 k] w fun e w' => e = .returned (.bool true) ∧ Below w.heap.size w w' := by
  by_cases h5 : 500 < n
  · clear hb
    go_enter Try.func3, Try.ntmps3
    go_wp2_with fail
    refine (awake_any _).mono ?_
    rintro e w1 ⟨rfl, hbel⟩
    go_wp2
    go_ret
    exact ⟨rfl, hbel⟩
  · have HB := Lib.hid hb
    clear hb
    have hz := zero26 p
    have hst := store26 p p 0
    have hk0 : 0 ≤ k % 256 := by omega
    have hk1 : k % 256 < 256 := by omega
    go_enter Try.func3, Try.ntmps3
    go_wp2_with fail
    refine (make_any _ hp _).mono ?_
    rintro e w1 ⟨rfl, rfl⟩
    go_wp2_with fail
    refine (round_any _ 256 (by omega) (by omega) _).mono ?_
    rintro e w1 ⟨rfl, rfl⟩
    generalize k % 256 = q at *
    obtain ⟨q, rfl⟩ := Int.eq_ofNat_of_zero_le hk0
    go_wp2_with fail
    go_loop [11, 12] (fun n i => ∃ j : Nat, j ≤ 8 ∧ i = .int .i64 j ∧ ∃ m : Nat, m < 4294967296 ∧ n = .int .u32 m ∧ stps p (8 - j) m = stps p 8 q) (fun _ i => 8 - (intOf i).toNat)
    case atStart => exact ⟨0, by omega, rfl, q, by omega, rfl, rfl⟩
    case round =>
      obtain ⟨j, hj, rfl, x, hxl, rfl, hmk⟩ := hrel
      have HM := Lib.hid hmk
      clear hmk
      by_cases hjt : j < 8
      · by_cases hodd : x % 2 = 1
        · have hb : bits .and .u32 (x : Int) 1 = 1 := and_one_odd x hxl hodd
          have hy := half_odd p x hp hxl hodd
          go_wp2_with fail
          go_round
          case rel => exact ⟨j + 1, by omega, by go_num, _, stp_lt hp hxl, rfl, by rw [← HM.out, show 8 - j = 8 - (j + 1) + 1 from by omega]; rfl⟩
          case measure => simp [intOf]; omega
        · have hb : bits .and .u32 (x : Int) 1 = 0 := and_one_even x hxl hodd
          have hy := half_even p x hodd
          go_wp2_with fail
          go_round
          case rel => exact ⟨j + 1, by omega, by go_num, _, stp_lt hp hxl, rfl, by rw [← HM.out, show 8 - j = 8 - (j + 1) + 1 from by omega]; rfl⟩
          case measure => simp [intOf]; omega
      · obtain rfl : j = 8 := by omega
        have e : x = stps p 8 q := HM.out
        subst e
        go_wp2_with fail
        refine (known_any _).mono ?_
        rintro e w1 ⟨rfl, rfl⟩
        go_wp2_with fail
        obtain ⟨W, hW⟩ : ∃ W, W = ((w.alloc (.cells (tabv p) 26)).alloc (.cells (tabv p) 26)).alloc (.cells #[.int .u32 (poly 0 : Nat), .int .u32 (poly 1 : Nat), .int .u32 (poly 2 : Nat), .int .u32 (poly 3 : Nat)] 22) := ⟨_, rfl⟩
        rw [← hW]
        obtain ⟨hsz, hbel, hc1, hc2, hc3⟩ := three_facts w W p hW
        have HB := Lib.hid (HB.out.below hbel (Nat.le_refl _))
        have hcq := hc1 q (by omega)
        have hr0 : 0 ≤ k % 4 := by omega
        have hr1 : k % 4 < 4 := by omega
        have hcr := hc2 (k % 4).toNat (by omega)
        have HBel := Lib.hid hbel
        clear hW hc1 hc2 hbel
        generalize hkr : k % 4 = r at *
        obtain ⟨r, rfl⟩ := Int.eq_ofNat_of_zero_le hr0
        simp only [Int.toNat_natCast] at hcr
        have hi26 : (Try.prog.info? 26).map (·.size) = some (tabv p).toList.length := by rw [Array.length_toList, tabv_size]; exact size26
        have hu26 := Try.underlying26
        go_region_held3 (fun w' => w'.cell? ⟨w.heap.size + 1, q, none⟩ = some (.int .u32 (stps p 8 q : Nat)) ∧ w'.cell? ⟨w.heap.size + 1 + 1, r, none⟩ = some (.int .u32 (poly r : Nat)) ∧ w'.rangeAt (w.heap.size + 1) 0 (tabv p).toList ∧ Below W.heap.size W w')
          ((go_split_ands
            first
            | exact keepS hcq hcr hc3 (Below.refl _ _).drew
            | exact keepS hcq hcr hc3 (by assumption)
            | exact keepS hcq hcr hc3 (Below.alloc (by assumption) (Below.size (by assumption)) _)
            | exact keepS hcq hcr hc3 (Below.trans (by assumption) (Below.mono (by assumption) (Below.size (by assumption))))))
          (first
            | (go_at_call 12; go_split_ands; refine (of_any p hp s hs a n c l _ (HB.out.below (by assumption) (Nat.le_refl _)) (by omega)).mono ?_; rintro e w' ⟨rfl, rfl⟩)
            | (go_at_call 13; go_split_ands; refine (ref_any p hp s hs a n c l _ (HB.out.below (by assumption) (Nat.le_refl _)) (by omega)).mono ?_; rintro e w' ⟨rfl, rfl⟩)
            | (go_at_call 10; refine (round_any _ 4 (by omega) (by omega) _).mono ?_; rintro e w' ⟨rfl, rfl⟩; rw [hkr])
            | (go_at_call 14; refine (refKnown_any _ _).mono ?_; rintro e w' ⟨rfl, hb1⟩; rw [hkr])
            | (go_at_call 8; refine (awake_any _).mono ?_; rintro e w' ⟨rfl, hb2⟩))
        go_wp2
        go_ret
        exact ⟨rfl, step_below HBel.out (step_below (step_below ((Below.refl W.heap.size W).alloc (Nat.le_refl _) _).drew hb1) hb2)⟩

end Go.Proofs.Ytadnfpgcfjinoaa
