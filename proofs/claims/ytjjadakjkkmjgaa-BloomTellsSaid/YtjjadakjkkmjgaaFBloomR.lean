/-
  The document's filter: has, Has.
-/
import Derived.Test.YtjjadakjkkmjgaaFBloomQ
namespace Go.Proofs.Ytjjadakjkkmjgaa
open Go.RowKit
/-- The document's filter's cells: a configuration, how many bits, the row of those that are set. -/
def rcs (c : Cf) (N : Nat) (v : Value) : Array Value := cc c ++ #[.int .i64 N, v]
@[go_sem] theorem rcs_size (c : Cf) (N : Nat) (v : Value) : (rcs c N v).size = 50 := by simp [rcs, cc_size]
@[go_sem] theorem rcs_48 (c : Cf) (N : Nat) (v : Value) : (rcs c N v)[48]? = some (.int .i64 N) := by
  unfold rcs; rw [Array.getElem?_append_right (by rw [cc_size]; omega), cc_size]; rfl
@[go_sem] theorem rcs_49 (c : Cf) (N : Nat) (v : Value) : (rcs c N v)[49]? = some v := by
  unfold rcs; rw [Array.getElem?_append_right (by rw [cc_size]; omega), cc_size]; rfl
@[go_sem] theorem rcs_48g (c : Cf) (N : Nat) (v : Value) (h : 48 < (rcs c N v).size) : (rcs c N v)[48] = .int .i64 N := get_of (rcs_48 c N v) h
@[go_sem] theorem rcs_49g (c : Cf) (N : Nat) (v : Value) (h : 49 < (rcs c N v).size) : (rcs c N v)[49] = v := get_of (rcs_49 c N v) h
@[go_sem] theorem rcs_c (c : Cf) (N : Nat) (v : Value) : (rcs c N v).extract 0 48 = cc c := by
  have := ext_of (a := 0) (n := 48) (x := rcs c N v) (cc_size c) (by rw [rcs_size]; omega) (fun j hj => by
    unfold rcs; rw [Nat.add_zero, Array.getElem?_append_left (by rw [cc_size]; exact hj)])
  simpa using this
theorem rcs_set (c : Cf) (N : Nat) (v u : Value) : (rcs c N v).setIfInBounds 49 u = rcs c N u := by
  apply Array.ext_getElem?
  intro j
  rw [Array.getElem?_setIfInBounds, rcs_size]
  by_cases h : 49 = j
  · subst h; rw [if_pos rfl, if_pos (by omega), rcs_49]
  · rw [if_neg h]
    unfold rcs
    by_cases hj : j < 48
    · rw [Array.getElem?_append_left (by rw [cc_size]; exact hj), Array.getElem?_append_left (by rw [cc_size]; exact hj)]
    · rw [Array.getElem?_append_right (by rw [cc_size]; omega), Array.getElem?_append_right (by rw [cc_size]; omega), cc_size]
      by_cases h8 : j = 48
      · subst h8; rfl
      · rw [Array.getElem?_eq_none (by simp; omega), Array.getElem?_eq_none (by simp; omega)]
/-- Is a number in a row? -/
def inL (L : List Int) (x : Int) : Bool := L.contains x
set_option maxRecDepth 100000 in
set_option maxHeartbeats 4000000 in
theorem rhas_any (gm : Nat) (c : Cf) (N : Nat) (a : Option Addr) (m q : Nat) (L : List Int) (x : Int) (w : World) (hM : At w gm 66 (rcs c N (.slice a m q))) (hL : Ints w a m L) (hm : m ≤ 1000000) :
    Calls Try.prog 54 #[.pointer (some ⟨gm, 0, none⟩), .int .i64 x] w fun e w' => e = .returned (.bool (inL L x)) ∧ w' = w := by
  have M := Lib.hid hM
  have Y := Lib.hid hL
  have HC := Lib.hid (fun t (ht : t < L.length) (he : L.getD t 0 = x) => (by
    unfold inL
    rw [List.contains_iff_mem, ← he, List.getD_eq_getElem?_getD, List.getElem?_eq_getElem ht]
    exact List.getElem_mem ht : inL L x = true))
  have HN := Lib.hid (fun (h : ∀ s, s < L.length → L.getD s 0 ≠ x) => (by
    unfold inL
    rw [Bool.eq_false_iff]
    intro hc
    rw [List.contains_iff_mem] at hc
    obtain ⟨s, hs, he⟩ := List.getElem_of_mem hc
    exact h s hs (by rw [List.getD_eq_getElem?_getD, List.getElem?_eq_getElem hs]; exact he) : inL L x = false))
  have HL := Lib.hid hL.1
  clear hM hL
  go_enter Try.func54, Try.ntmps54
  go_wp2_with fail
  have r_M := M.out.row
  have c_M := M.out.cell 49
  rw [rcs_49] at c_M
  go_loop [5] (fun i => ∃ t : Nat, t ≤ m ∧ i = .int .i64 t ∧ ∀ s, s < t → L.getD s 0 ≠ x) (fun i => m - (intOf i).toNat)
  case atStart => exact ⟨0, Nat.zero_le _, rfl, fun s hs => by omega⟩
  case round =>
    obtain ⟨t, ht, rfl, hall⟩ := hrel
    have HA := Lib.hid hall
    clear hall r_M
    by_cases hlt : t < m
    · obtain ⟨b, o, rfl, lb, hc⟩ := Y.out.2 (by omega)
      have y0 := hc t hlt
      obtain ⟨y, hy⟩ : ∃ y, y = L.getD t 0 := ⟨_, rfl⟩
      rw [← hy] at y0
      clear hc
      by_cases hxy : y = x
      · have HT := Lib.hid (HC.out t (by rw [HL.out]; exact hlt) (by rw [← hy]; exact hxy))
        have hb : (y == x) = true := by simpa using hxy
        clear hy hxy
        go_wp2_with fail
        go_ret
        exact ⟨by rw [HT.out]; rfl, rfl⟩
      · have hb : (y == x) = false := by simpa using hxy
        have HY := Lib.hid hy
        have HXY := Lib.hid hxy
        clear hy hxy
        go_wp2_with fail
        go_round
        case rel => exact ⟨t + 1, by omega, by go_num, fun s hs => by
          by_cases he : s = t
          · subst he; rw [← HY.out]; exact HXY.out
          · exact HA.out s (by omega)⟩
        case measure => simp [intOf] <;> omega
    · obtain rfl : m = t := by omega
      have HT := Lib.hid (HN.out (by rw [HL.out]; exact HA.out))
      go_wp2_with fail
      go_ret
      exact ⟨by rw [HT.out]; rfl, rfl⟩
/-- Whom the document's filter has. -/
def rhB (O : List Int) (c : Cf) (k : Ky) (N : Nat) : Bool := (pN c k N).all (fun p => inL O (p : Int)) && kvld k
set_option maxRecDepth 100000 in
set_option maxHeartbeats 4000000 in
theorem rHas_any (gm : Nat) (c : Cf) (N : Nat) (a : Option Addr) (m q : Nat) (O : List Int) (k : Ky) (w : World) (hM : At w gm 66 (rcs c N (.slice a m q))) (hO : Ints w a m O) (hm : m ≤ 1000000) (hN : 1 ≤ N) (hN2 : N ≤ 65536) (h1 : 0 ≤ c.hashes) (h2 : c.hashes ≤ 80) (hb1 : 1 ≤ c.bloom) :
    Calls Try.prog 35 #[.pointer (some ⟨gm, 0, none⟩), .agg (kc k)] w fun e w' => e = .returned (.bool (rhB O c k N)) ∧ Below w.heap.size w w' := by
  have M := Lib.hid hM
  have Y := Lib.hid hO
  have HRB := Lib.hid (show rhB O c k N = ((pN c k N).all (fun p => inL O (p : Int)) && kvld k) from rfl)
  have HPB := Lib.hid (show ∀ t, t < (bitsOf c k).length → (pN c k N).getD t 0 = ((bitsOf c k).getD t 0 % (N : Int)).toNat by
    intro t ht
    unfold pN
    rw [List.getD_eq_getElem?_getD, List.getD_eq_getElem?_getD, List.getElem?_map, List.getElem?_eq_getElem ht]; rfl)
  have HPL := Lib.hid (show (pN c k N).length = (bitsOf c k).length by unfold pN; rw [List.length_map])
  have HNN := Lib.hid (fun t (h : t < (bitsOf c k).length) => bitsOf_nonneg c k t h hb1)
  have HL := Lib.hid (show (bitsOf c k).length ≤ 80 by unfold bitsOf; split <;> simp [bitsUpto_length]; omega)
  clear hM hO
  go_enter Try.func35, Try.ntmps35
  have HB := Lib.hid (Below.refl w.heap.size w)
  
  
  go_wp2_with fail
  have HBp := HB
  have K := at_new w 40 (kc k) (w.heap.size) rfl
  replace HB := Lib.hid (HB.out.alloc HB.out.size (.cells (kc k) 40))
  have Mp := M
  replace M := Lib.hid (M.out.alloc (.cells (kc k) 40))
  have Yp := Y
  replace Y := Lib.hid (Y.out.below ((Below.refl _ _).alloc (Nat.le_refl _) (.cells (kc k) 40)))
  obtain ⟨gk, hg⟩ : ∃ g, g = w.heap.size := ⟨_, rfl⟩
  have hgs : gk = w.heap.size := by rw [hg]
  have b_gk : w.heap.size ≤ gk := by rw [hgs]; exact HBp.out.size
  have S_w1 := Lib.hid (show (w.alloc (.cells (kc k) 40)).heap.size = gk + 1 by rw [World.size_alloc, hgs])
  rw [← hg] at K
  try rw [← hg]
  have ne_M_K : gm ≠ gk := by have := Mp.out.lt; omega
  have ne_K_M : gk ≠ gm := fun h => ne_M_K h.symm
  clear hg hgs HBp Mp Yp
  replace K := Lib.hid K
  generalize w.alloc (.cells (kc k) 40) = w1 at *
  have r_M := M.out.row
  have o_M := M.out.open
  have l_M := M.out.lt
  have c_M := M.out.cell
  have z_M := M.out.frozen
  have r_K := K.out.row
  have o_K := K.out.open
  have l_K := K.out.lt
  have c_K := K.out.cell
  have z_K := K.out.frozen
  refine region_sq (fun _ => False) [(0, true), (1, true), (2, true), (3, true), (4, true), (5, false), (6, true)] (by kernel_rfl) (by kernel_rfl) (fun _ _ d _ _ h => by cases d <;> exact h) ?_
  repeat (first
    | (refine sq_yes rfl (by rfl) (fun w' hM => by ((try replace hM := hM.of_drew); obtain ⟨hR1, hR2, hR3⟩ := hM.rules; clear hM; go_simp; with_reducible rfl)) ?_; simp only [Act.put, List.setIfInBounds_toArray, List.set_cons_zero, List.set_cons_succ])
    | (refine sq_no rfl (by rfl) ?_; simp only [Act.put, List.setIfInBounds_toArray, List.set_cons_zero, List.set_cons_succ]))
  clear r_M o_M l_M c_M z_M r_K o_K l_K c_K z_K
  replace M := Lib.hid M.out.drew
  replace Y := Lib.hid Y.out.drew
  replace K := Lib.hid K.out.drew
  replace HB := Lib.hid HB.out.drew
  generalize w1.drew = w2 at *
  refine sq_do_yes rfl (by rfl) (fun K_ hK_ => ?_)
  go_wp2_with fail
  refine (refBits_any c k _ h1 h2 hb1).mono ?_
  rintro e w3 ⟨v, rfl, ho, hb⟩
  have hbs : Below w2.heap.size w2 w3 := step_below (by first | exact Below.refl _ _ | exact (Below.refl _ _).drew | exact (Below.refl _ _).alloc (Nat.le_refl _) _ | exact ((Below.refl _ _).alloc (Nat.le_refl _) _).drew | exact ((Below.refl _ _).drew).alloc (Nat.le_refl _) _ | exact ((Below.refl _ _).alloc (Nat.le_refl _) _).alloc (by simp) _ | exact (((Below.refl _ _).alloc (Nat.le_refl _) _).alloc (by simp) _).drew | exact (((Below.refl _ _).alloc (Nat.le_refl _) _).alloc (by simp) _).alloc (by simp; omega) _) hb
  try clear HBz
  have HBz := HB.out.size
  replace HB := Lib.hid (step_below HB.out hbs)
  replace M := Lib.hid (M.out.below hbs M.out.lt)
  replace Y := Lib.hid (Y.out.below hbs)
  replace K := Lib.hid (K.out.below hbs K.out.lt)
  clear hbs
  obtain ⟨b1, m1, q1, rfl, hm1, hy1, _⟩ := ho.parts
  have Z := Lib.hid hy1
  have M1 := Lib.hid hm1
  have hm80 : m1 ≤ 80 := by have := HL.out; omega
  clear ho hm1 hy1
  go_wp2_with fail
  refine ⟨Mod.of_below hb, ?_⟩
  clear hb
  have r_M := M.out.row
  have o_M := M.out.open
  have l_M := M.out.lt
  have c_M := M.out.cell
  have z_M := M.out.frozen
  have r_K := K.out.row
  have o_K := K.out.open
  have l_K := K.out.lt
  have c_K := K.out.cell
  have z_K := K.out.frozen
  repeat (first
    | (refine sq_yes rfl (by rfl) (fun w' hM => by ((try replace hM := hM.of_drew); obtain ⟨hR1, hR2, hR3⟩ := hM.rules; clear hM; go_simp; with_reducible rfl)) ?_; simp only [Act.put, List.setIfInBounds_toArray, List.set_cons_zero, List.set_cons_succ])
    | (refine sq_no rfl (by rfl) ?_; simp only [Act.put, List.setIfInBounds_toArray, List.set_cons_zero, List.set_cons_succ]))
  clear r_M o_M l_M c_M z_M r_K o_K l_K c_K z_K
  refine sq_end ?_
  go_wp2_with fail
  go_loopw [6] (fun i wr => ∃ t : Nat, t ≤ m1 ∧ i = .int .i64 t ∧ ((pN c k N).take t).all (fun p => inL O (p : Int)) = true ∧ At wr gm 66 (rcs c N (.slice a m q)) ∧ Ints wr a m O ∧ At wr gk 40 (kc k) ∧ Ints wr b1 m1 (bitsOf c k) ∧ Below w.heap.size w wr) (fun i _ => m1 - (intOf i).toNat)
  case atStart => exact ⟨0, Nat.zero_le _, rfl, rfl, M.out, Y.out, K.out, Z.out, HB.out⟩
  case round =>
    obtain ⟨t, ht, rfl, hall, hM_, hY_, hK_, hZ_, hBel_⟩ := hrel
    have M := Lib.hid hM_
    have Y := Lib.hid hY_
    have K := Lib.hid hK_
    have Z := Lib.hid hZ_
    have HB := Lib.hid hBel_
    clear hM_ hY_ hK_ hZ_ hBel_
    have HA := Lib.hid hall
    clear hall
    
    by_cases hlt : t < m1
    · have htl : t < (bitsOf c k).length := by rw [← M1.out]; exact hlt
      obtain ⟨b, o, rfl, lb, hc⟩ := Z.out.2 (by omega)
      have x0 := hc t hlt
      have hxn := HNN.out t htl
      have hpb := HPB.out t htl
      obtain ⟨x, hx⟩ : ∃ x, x = (bitsOf c k).getD t 0 := ⟨_, rfl⟩
      rw [← hx] at x0 hxn hpb
      obtain ⟨p, hp⟩ : ∃ p, p = (pN c k N).getD t 0 := ⟨_, rfl⟩
      rw [← hp] at hpb
      have hix : x.tmod (N : Int) = (p : Int) := by
        rw [Int.tmod_eq_emod_of_nonneg hxn, hpb]
        have := Int.emod_nonneg x (show (N : Int) ≠ 0 by omega)
        omega
      have hz : ¬ N = 0 := by omega
      have htp : t < (pN c k N).length := by rw [HPL.out]; exact htl
      have HP := Lib.hid hp
      clear hc hx hxn hpb hp
      have r_M := M.out.row
      have o_M := M.out.open
      have l_M := M.out.lt
      have c_M := M.out.cell
      have z_M := M.out.frozen
      go_wp2_with fail
      clear r_M o_M l_M c_M z_M
      have r_M := M.out.row
      have o_M := M.out.open
      have l_M := M.out.lt
      have c_M := M.out.cell
      have z_M := M.out.frozen
      have r_K := K.out.row
      have o_K := K.out.open
      have l_K := K.out.lt
      have c_K := K.out.cell
      have z_K := K.out.frozen
      refine region_sq (fun _ => False) [(0, true), (1, true), (2, true), (3, true), (4, true), (5, true), (6, true), (7, true), (8, true), (9, true), (10, false), (11, true)] (by kernel_rfl) (by kernel_rfl) (fun _ _ d _ _ h => by cases d <;> exact h) ?_
      repeat (first
        | (refine sq_yes rfl (by rfl) (fun w' hM => by ((try replace hM := hM.of_drew); obtain ⟨hR1, hR2, hR3⟩ := hM.rules; clear hM; go_simp; with_reducible rfl)) ?_; simp only [Act.put, List.setIfInBounds_toArray, List.set_cons_zero, List.set_cons_succ])
        | (refine sq_no rfl (by rfl) ?_; simp only [Act.put, List.setIfInBounds_toArray, List.set_cons_zero, List.set_cons_succ]))
      clear r_M o_M l_M c_M z_M r_K o_K l_K c_K z_K
      replace M := Lib.hid M.out.drew
      replace Y := Lib.hid Y.out.drew
      replace K := Lib.hid K.out.drew
      replace Z := Lib.hid Z.out.drew
      replace HB := Lib.hid HB.out.drew
      generalize wr.drew = w4 at *
      refine sq_do_yes rfl (by rfl) (fun K_ hK_ => ?_)
      go_wp2_with fail
      refine (rhas_any gm c N a m q O p _ M.out Y.out hm).mono ?_
      rintro e w_ ⟨rfl, hw_⟩
      obtain rfl := hw_.symm
      clear hw_
      go_wp2_with fail
      refine ⟨Mod.refl _ _, ?_⟩
      have r_M := M.out.row
      have o_M := M.out.open
      have l_M := M.out.lt
      have c_M := M.out.cell
      have z_M := M.out.frozen
      have r_K := K.out.row
      have o_K := K.out.open
      have l_K := K.out.lt
      have c_K := K.out.cell
      have z_K := K.out.frozen
      repeat (first
        | (refine sq_yes rfl (by rfl) (fun w' hM => by ((try replace hM := hM.of_drew); obtain ⟨hR1, hR2, hR3⟩ := hM.rules; clear hM; go_simp; with_reducible rfl)) ?_; simp only [Act.put, List.setIfInBounds_toArray, List.set_cons_zero, List.set_cons_succ])
        | (refine sq_no rfl (by rfl) ?_; simp only [Act.put, List.setIfInBounds_toArray, List.set_cons_zero, List.set_cons_succ]))
      clear r_M o_M l_M c_M z_M r_K o_K l_K c_K z_K
      refine sq_end ?_
      cases hin : inL O (p : Int)
      · have HF := Lib.hid (show rhB O c k N = false by
          rw [HRB.out, all_no (fun p => inL O (p : Int)) (pN c k N) t htp (by rw [← HP.out]; exact hin)]; rfl)
        go_wp2_with fail
        go_ret
        exact ⟨by rw [HF.out]; rfl, HB.out⟩
      · have HT := Lib.hid (all_take (fun p => inL O (p : Int)) (pN c k N) t htp HA.out (by rw [← HP.out]; exact hin))
        go_wp2_with fail
        go_roundw
        case rel => exact ⟨t + 1, by omega, by go_num, HT.out, M.out, Y.out, K.out, Z.out, HB.out⟩
        case measure => simp [intOf] <;> omega
    · obtain rfl : m1 = t := by omega
      
      have HF := Lib.hid (show rhB O c k N = kvld k by
        have h := HA.out
        rw [List.take_of_length_le (by rw [HPL.out, ← M1.out]; exact Nat.le_refl _)] at h
        rw [HRB.out, h]; rfl)
      have r_K := K.out.row
      have o_K := K.out.open
      have l_K := K.out.lt
      have c_K := K.out.cell
      have z_K := K.out.frozen
      go_wp2_with fail
      clear r_K o_K l_K c_K z_K
      refine (refKvalid_any k _).mono ?_
      rintro e w5 ⟨rfl, hb⟩
      have hbs : Below wr.heap.size wr w5 := step_below (by first | exact Below.refl _ _ | exact (Below.refl _ _).drew | exact (Below.refl _ _).alloc (Nat.le_refl _) _ | exact ((Below.refl _ _).alloc (Nat.le_refl _) _).drew | exact ((Below.refl _ _).drew).alloc (Nat.le_refl _) _ | exact ((Below.refl _ _).alloc (Nat.le_refl _) _).alloc (by simp) _ | exact (((Below.refl _ _).alloc (Nat.le_refl _) _).alloc (by simp) _).drew | exact (((Below.refl _ _).alloc (Nat.le_refl _) _).alloc (by simp) _).alloc (by simp; omega) _) hb
      try clear HBz
      have HBz := HB.out.size
      replace HB := Lib.hid (step_below HB.out hbs)
      replace M := Lib.hid (M.out.below hbs M.out.lt)
      replace Y := Lib.hid (Y.out.below hbs)
      replace K := Lib.hid (K.out.below hbs K.out.lt)
      replace Z := Lib.hid (Z.out.below hbs)
      clear hbs
      clear hb
      go_wp2_with fail
      go_ret
      exact ⟨by rw [HF.out]; rfl, HB.out⟩
end Go.Proofs.Ytjjadakjkkmjgaa
