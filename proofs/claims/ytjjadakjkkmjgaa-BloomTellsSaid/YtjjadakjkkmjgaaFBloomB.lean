/-
  bloom: a flow's places in a filter.
-/
import Derived.Test.YtjjadakjkkmjgaaFBloomA
namespace Go.Proofs.Ytjjadakjkkmjgaa
open Go.RowKit
theorem OI.set {w : World} {base g n c : Nat} {l : List Int} (h : OI w base (.slice (some ⟨g, 0, none⟩) n c) l) (i : Nat) (x : Int) (_ : i < l.length) :
    OI (w.setCell ⟨g, i, none⟩ (.int .i64 x)) base (.slice (some ⟨g, 0, none⟩) n c) (l.set i x) := by
  obtain ⟨h1, h2⟩ := h
  rcases h2 with ⟨h0, _⟩ | ⟨g', cap, cur, h0, h4, h5, h6, h7, h8, h9⟩
  · cases h0
  · cases h0
    refine ⟨by simp [i64s], .inr ⟨g, c, cur.setIfInBounds i (.int .i64 x), by rw [List.length_set], h4, heap_setCell_same w g i cur _ _ h5, by rw [List.length_set]; exact h6, h7, by rw [Array.size_setIfInBounds]; exact h8, ?_⟩⟩
    rw [Array.toList_setIfInBounds, List.length_set, List.take_set, h9]
    unfold i64s
    rw [List.map_set]
theorem OI.block {w : World} {base : Nat} {v : Value} {l : List Int} (h : OI w base v l) (hl : 0 < l.length) : ∃ g c, v = .slice (some ⟨g, 0, none⟩) l.length c ∧ base ≤ g ∧ g < w.heap.size ∧ (∀ i, i < l.length → w.cell? ⟨g, i, none⟩ = some (.int .i64 (l.getD i 0))) ∧ (∀ i, i < l.length → w.frozen? ⟨g, i, none⟩ = false) ∧ l.length ≤ c := by
  obtain ⟨h1, h2⟩ := h
  rcases h2 with ⟨_, h0⟩ | ⟨g, cap, cur, rfl, h4, h5, h6, h7, h8, h9⟩
  · omega
  · refine ⟨g, cap, rfl, h4, (Array.getElem?_eq_some_iff.1 h5).1, fun i hi => ?_, fun i hi => frozen_of_row w g i cur _ h5, h6⟩
    rw [cell_of_row w g i cur _ (0, 0) h5]
    have := congrArg (fun x : List Value => x[i]?) h9
    simp only [List.getElem?_take, Nat.mul_one, if_pos hi, i64s, List.getElem?_map] at this
    rw [← Array.getElem?_toList, this, List.getElem?_eq_getElem hi, List.getD_eq_getElem?_getD, List.getElem?_eq_getElem hi]
    rfl
theorem OI.drew {w : World} {base : Nat} {v : Value} {l : List Int} (h : OI w base v l) : OI w.drew base v l := h
/-- A flow's places in a filter of N bits. -/
def plcs (c : Cf) (k : Ky) (N : Nat) : List Int := (bitsOf c k).map (· % (N : Int))
/-- The first t of them are reckoned. -/
def plT (L : List Int) (N t : Nat) : List Int := (L.take t).map (· % (N : Int)) ++ L.drop t
theorem plT_length (L : List Int) (N t : Nat) : (plT L N t).length = L.length := by simp [plT]; omega
theorem plT_get (L : List Int) (N t : Nat) (h : t < L.length) : (plT L N t).getD t 0 = L.getD t 0 := by
  unfold plT
  rw [List.getD_eq_getElem?_getD, List.getElem?_append_right (by simp only [List.length_map, List.length_take]; exact Nat.min_le_left _ _)]
  simp only [List.length_map, List.length_take, List.getElem?_drop]
  rw [show t + (t - min t L.length) = t by omega, List.getD_eq_getElem?_getD]
theorem plT_set (L : List Int) (N t : Nat) (h : t < L.length) : (plT L N t).set t (L.getD t 0 % (N : Int)) = plT L N (t + 1) := by
  unfold plT
  rw [List.set_append_right _ _ (by simp only [List.length_map, List.length_take]; exact Nat.min_le_left _ _)]
  simp only [List.length_map, List.length_take]
  rw [show t - min t L.length = 0 by omega, List.drop_eq_getElem_cons h, List.set_cons_zero, List.take_succ_eq_append_getElem h, List.map_append, List.append_assoc]
  congr 1
  simp [List.getD_eq_getElem?_getD, List.getElem?_eq_getElem h]
theorem bitsOf_nonneg (c : Cf) (k : Ky) (t : Nat) (h : t < (bitsOf c k).length) (hb : 1 ≤ c.bloom) : 0 ≤ (bitsOf c k).getD t 0 := (bitsOf_bounds c k t h hb).1
set_option maxRecDepth 100000 in
set_option maxHeartbeats 4000000 in
theorem places_any (gb gw n gf : Nat) (c : Cf) (k : Ky) (N : Nat) (w : World) (hB : At w gb 92 (bcs gf N gw n)) (hF : At w gf 80 (fc c)) (hN : 1 ≤ N) (hN2 : N ≤ 65536) (h1 : 0 ≤ c.hashes) (h2 : c.hashes ≤ 80) (hb1 : 1 ≤ c.bloom) :
    Calls Try.prog 52 #[.pointer (some ⟨gb, 0, none⟩), .agg (kc k)] w fun e w' => ∃ v, e = .returned v ∧ OI w' w.heap.size v (plcs c k N) ∧ Below w.heap.size w w' := by
  have B := Lib.hid hB
  have F := Lib.hid hF
  have HL := Lib.hid (show (bitsOf c k).length ≤ 80 by unfold bitsOf; split <;> simp [bitsUpto_length]; omega)
  have hBl := hB.lt
  clear hB hF
  go_enter Try.func52, Try.ntmps52
  have HB := Lib.hid (Below.refl w.heap.size w)
  
  
  have r_B := B.out.row
  have o_B := B.out.open
  have l_B := B.out.lt
  have c_B := B.out.cell
  have z_B := B.out.frozen
  have r_F := F.out.row
  have o_F := F.out.open
  have l_F := F.out.lt
  have c_F := F.out.cell
  have z_F := F.out.frozen
  go_wp2_with fail
  clear r_B o_B l_B c_B z_B r_F o_F l_F c_F z_F
  have HBp := HB
  have K := at_new w 40 (kc k) (w.heap.size) rfl
  replace HB := Lib.hid (HB.out.alloc HB.out.size (.cells (kc k) 40))
  have Bp := B
  replace B := Lib.hid (B.out.alloc (.cells (kc k) 40))
  have Fp := F
  replace F := Lib.hid (F.out.alloc (.cells (kc k) 40))
  obtain ⟨gk, hg⟩ : ∃ g, g = w.heap.size := ⟨_, rfl⟩
  have hgs : gk = w.heap.size := by rw [hg]
  have b_gk : w.heap.size ≤ gk := by rw [hgs]; exact HBp.out.size
  have S_w1 := Lib.hid (show (w.alloc (.cells (kc k) 40)).heap.size = gk + 1 by rw [World.size_alloc, hgs])
  rw [← hg] at K
  try rw [← hg]
  have ne_B_K : gb ≠ gk := by have := Bp.out.lt; omega
  have ne_K_B : gk ≠ gb := fun h => ne_B_K h.symm
  have ne_F_K : gf ≠ gk := by have := Fp.out.lt; omega
  have ne_K_F : gk ≠ gf := fun h => ne_F_K h.symm
  clear hg hgs HBp Bp Fp
  replace K := Lib.hid K
  generalize w.alloc (.cells (kc k) 40) = w1 at *
  have r_B := B.out.row
  have o_B := B.out.open
  have l_B := B.out.lt
  have c_B := B.out.cell
  have z_B := B.out.frozen
  have r_F := F.out.row
  have o_F := F.out.open
  have l_F := F.out.lt
  have c_F := F.out.cell
  have z_F := F.out.frozen
  have r_K := K.out.row
  have o_K := K.out.open
  have l_K := K.out.lt
  have c_K := K.out.cell
  have z_K := K.out.frozen
  refine region_sq (fun _ => False) [(0, true), (1, true), (2, true), (3, true), (4, true), (5, false), (6, true)] (by kernel_rfl) (by kernel_rfl) (fun _ _ d _ _ h => by cases d <;> exact h) ?_
  repeat (first
    | (refine sq_yes rfl (by rfl) (fun w' hM => by ((try replace hM := hM.of_drew); obtain ⟨hR1, hR2, hR3⟩ := hM.rules; clear hM; go_simp; with_reducible rfl)) ?_; simp only [Act.put, List.setIfInBounds_toArray, List.set_cons_zero, List.set_cons_succ])
    | (refine sq_no rfl (by rfl) ?_; simp only [Act.put, List.setIfInBounds_toArray, List.set_cons_zero, List.set_cons_succ]))
  clear r_B o_B l_B c_B z_B r_F o_F l_F c_F z_F r_K o_K l_K c_K z_K
  replace B := Lib.hid B.out.drew
  replace F := Lib.hid F.out.drew
  replace K := Lib.hid K.out.drew
  replace HB := Lib.hid HB.out.drew
  generalize w1.drew = w2 at *
  refine sq_do_yes rfl (by rfl) (fun K_ hK_ => ?_)
  go_wp2_with fail
  refine (bits_any gf c k _ F.out h1 h2 hb1).mono ?_
  rintro e w3 ⟨v, rfl, ho, hb⟩
  have hbs : Below w2.heap.size w2 w3 := step_below (by first | exact Below.refl _ _ | exact (Below.refl _ _).drew | exact (Below.refl _ _).alloc (Nat.le_refl _) _ | exact ((Below.refl _ _).alloc (Nat.le_refl _) _).drew | exact ((Below.refl _ _).drew).alloc (Nat.le_refl _) _ | exact ((Below.refl _ _).alloc (Nat.le_refl _) _).alloc (by simp) _ | exact (((Below.refl _ _).alloc (Nat.le_refl _) _).alloc (by simp) _).drew | exact (((Below.refl _ _).alloc (Nat.le_refl _) _).alloc (by simp) _).alloc (by simp; omega) _) hb
  try clear HBz
  have HBz := HB.out.size
  replace HB := Lib.hid (step_below HB.out hbs)
  replace B := Lib.hid (B.out.below hbs B.out.lt)
  replace F := Lib.hid (F.out.below hbs F.out.lt)
  replace K := Lib.hid (K.out.below hbs K.out.lt)
  clear hbs
  have O := Lib.hid ho
  clear ho
  go_wp2_with fail
  refine ⟨Mod.of_below hb, ?_⟩
  clear hb
  have r_B := B.out.row
  have o_B := B.out.open
  have l_B := B.out.lt
  have c_B := B.out.cell
  have z_B := B.out.frozen
  have r_F := F.out.row
  have o_F := F.out.open
  have l_F := F.out.lt
  have c_F := F.out.cell
  have z_F := F.out.frozen
  have r_K := K.out.row
  have o_K := K.out.open
  have l_K := K.out.lt
  have c_K := K.out.cell
  have z_K := K.out.frozen
  repeat (first
    | (refine sq_yes rfl (by rfl) (fun w' hM => by ((try replace hM := hM.of_drew); obtain ⟨hR1, hR2, hR3⟩ := hM.rules; clear hM; go_simp; with_reducible rfl)) ?_; simp only [Act.put, List.setIfInBounds_toArray, List.set_cons_zero, List.set_cons_succ])
    | (refine sq_no rfl (by rfl) ?_; simp only [Act.put, List.setIfInBounds_toArray, List.set_cons_zero, List.set_cons_succ]))
  clear r_B o_B l_B c_B z_B r_F o_F l_F c_F z_F r_K o_K l_K c_K z_K
  refine sq_end ?_
  replace O := Lib.hid (O.out.base HBz)
  have HL0 := Lib.hid (show bitsOf c k = plT (bitsOf c k) N 0 from rfl)
  have HPL := Lib.hid (show plcs c k N = plT (bitsOf c k) N (bitsOf c k).length by unfold plcs plT; simp)
  have HNN := Lib.hid (fun t (h : t < (bitsOf c k).length) => bitsOf_nonneg c k t h hb1)
  have LB := Lib.hid hBl
  obtain ⟨a, m, q, rfl, hm, _, _⟩ := O.out.parts
  have M := Lib.hid hm
  have hm80 : m ≤ 80 := by have := HL.out; omega
  clear hm hBl
  generalize bitsOf c k = L at *
  go_wp2_with fail
  clear F K
  
  
  rw [HL0.out] at O
  go_loopw [6, 17] (fun _ i wr => ∃ t : Nat, t ≤ m ∧ i = .int .i64 t ∧ At wr gb 92 (bcs gf N gw n) ∧ OI wr w.heap.size (.slice a m q) (plT L N t) ∧ Below w.heap.size w wr) (fun _ i _ => m - (intOf i).toNat)
  case atStart => exact ⟨0, Nat.zero_le _, rfl, B.out, O.out, HB.out⟩
  case round =>
    obtain ⟨t, ht, rfl, hB_, hO_, hBel_⟩ := hrel
    have B := Lib.hid hB_
    have O := Lib.hid hO_
    have HB := Lib.hid hBel_
    clear hB_ hO_ hBel_
    by_cases hlt : t < m
    · have htl : t < L.length := by rw [← M.out]; exact hlt
      have hpl : (plT L N t).length = m := by rw [plT_length, M.out]
      obtain ⟨g, q', hv, hg, lg, hcell, hfro, _⟩ := O.out.block (by rw [hpl]; omega)
      have x0 := hcell t (by rw [hpl]; exact hlt)
      rw [plT_get _ _ _ htl] at x0
      have hxn := HNN.out t htl
      have PS := Lib.hid (plT_set L N t htl)
      clear hcell hfro hpl
      simp only [Value.slice.injEq] at hv
      obtain ⟨ha, hm1, hm2⟩ := hv
      subst ha
      clear hm1 hm2
      obtain ⟨x, hx⟩ : ∃ x, x = L.getD t 0 := ⟨_, rfl⟩
      rw [← hx] at x0 hxn PS
      have hix : x.tmod (N : Int) = x % (N : Int) := Int.tmod_eq_emod_of_nonneg hxn
      have hz : ¬ N = 0 := by omega
      have hgb : gb ≠ g := by have := LB.out; omega
      clear hx hxn
      have r_B := B.out.row
      have o_B := B.out.open
      have l_B := B.out.lt
      have c_B := B.out.cell
      have z_B := B.out.frozen
      go_wp2_with fail
      clear r_B o_B l_B c_B z_B
      have r_B := B.out.row
      have o_B := B.out.open
      have l_B := B.out.lt
      have c_B := B.out.cell
      have z_B := B.out.frozen
      refine region_sq2 (fun _ => False) (fun i => i = g) [(0, true), (1, true), (2, true), (3, true), (4, true), (5, true), (6, true), (7, true), (8, true), (9, true)] [(10, false)] (by kernel_rfl) (by kernel_rfl) (fun _ _ d _ _ h => by cases d <;> exact h) ?_
      repeat (first
        | (refine sq_yes rfl (by rfl) (fun w' hM => by ((try replace hM := hM.of_drew); obtain ⟨hR1, hR2, hR3⟩ := hM.rules; clear hM; go_simp; with_reducible rfl)) ?_; simp only [Act.put, List.setIfInBounds_toArray, List.set_cons_zero, List.set_cons_succ])
        | (refine sq_no rfl (by rfl) ?_; simp only [Act.put, List.setIfInBounds_toArray, List.set_cons_zero, List.set_cons_succ]))
      clear r_B o_B l_B c_B z_B
      replace B := Lib.hid B.out.drew
      replace O := Lib.hid O.out.drew
      replace HB := Lib.hid HB.out.drew
      generalize wr.drew = w4 at *
      refine sq_end ?_
      obtain ⟨g', q'', hv, _, lg, hcell, hfro, _⟩ := O.out.block (by rw [plT_length]; omega)
      simp only [Value.slice.injEq, Option.some.injEq, Addr.mk.injEq, and_true] at hv
      obtain ⟨hg1, _⟩ := hv
      subst hg1
      have x0 := hcell t (by rw [plT_length]; exact htl)
      have f0 := hfro t (by rw [plT_length]; exact htl)
      have O3 := O.out.set t (x % (N : Int)) (by rw [plT_length]; exact htl)
      rw [PS.out] at O3
      have HO3 := Lib.hid O3
      clear hcell hfro O3
      refine sq_do_yes rfl (by rfl) (fun K_ hK_ => ?_)
      go_wp2_with fail
      have hM : Mod (fun i => i = g) w4 (w4.setCell ⟨g, t, none⟩ (.int .i64 (x % (N : Int)))) := (Mod.refl _ _).setCell _ _ (fun _ => rfl)
      refine ⟨hM, ?_⟩
      refine sq_end ?_
      replace B := Lib.hid (B.out.mod hM hgb)
      replace HB := Lib.hid (HB.out.setCell (p := ⟨g, t, none⟩) hg (.int .i64 (x % (N : Int))))
      replace O := HO3
      clear hM x0 f0 HO3
      generalize w4.setCell ⟨g, t, none⟩ (.int .i64 (x % (N : Int))) = w5 at *
      go_wp2_with fail
      go_roundw
      case rel => exact ⟨t + 1, by omega, by go_num, B.out, O.out, HB.out⟩
      case measure => simp [intOf]; omega
    · obtain rfl : m = t := by omega
      go_wp2_with fail
      go_ret
      exact ⟨_, rfl, by rw [HPL.out, ← M.out]; exact O.out, HB.out⟩
set_option maxRecDepth 100000 in
theorem places_nil (k : Ky) (w : World) : Calls Try.prog 52 #[.pointer none, .agg (kc k)] w fun e w' => e = .returned (.slice none 0 0) ∧ Below w.heap.size w w' := by
  go_enter Try.func52, Try.ntmps52
  go_wp2_with fail
  go_ret
  exact ⟨rfl, (Below.refl _ w).alloc (Nat.le_refl _) _⟩
end Go.Proofs.Ytjjadakjkkmjgaa
