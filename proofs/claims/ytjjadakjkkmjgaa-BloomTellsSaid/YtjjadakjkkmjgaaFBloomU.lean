/-
  The document's filter: Insert.
-/
import Derived.Test.YtjjadakjkkmjgaaFBloomT
import Derived.Test.YtjjadakjkkmjgaaSl
import Derived.Test.YtjjadakjkkmjgaaReg2
import Derived.Deep.DeepCutAuto
import Derived.Deep.CutBlock
import Derived.Deep.CutRange
namespace Go.Proofs.Ytjjadakjkkmjgaa
open Go.RowKit
/-- A row of numbers, as integers. -/
def ci (L : List Nat) : List Int := L.map fun p : Nat => (p : Int)
theorem ci_getD (L : List Nat) (j : Nat) : (ci L).getD j 0 = ((L.getD j 0 : Nat) : Int) := by
  unfold ci
  rw [List.getD_eq_getElem?_getD, List.getD_eq_getElem?_getD, List.getElem?_map]
  cases L[j]? <;> rfl
theorem ci_length (L : List Nat) : (ci L).length = L.length := by simp [ci]
theorem inL_ci (L : List Nat) (p : Nat) : inL (ci L) (p : Int) = decide (p ∈ L) := by
  unfold inL ci
  rw [Bool.eq_iff_iff]
  simp only [List.contains_iff_mem, List.mem_map, decide_eq_true_iff]
  exact ⟨fun ⟨a, ha, he⟩ => by rw [← Int.ofNat.inj he]; exact ha, fun h => ⟨p, h, rfl⟩⟩
theorem inL_ones (ws : List Nat) (p N : Nat) (h : p < N) : inL (ci (onesTo ws N)) (p : Int) = bt ws p := by
  rw [inL_ci, Bool.eq_iff_iff, decide_eq_true_iff, ones_mem]
  simp [h]
/-- An integer's cell. -/
def ei (x : Int) : List Value := [.int .i64 x]
theorem ei_len (x : Int) : (ei x).length = 1 := rfl
theorem ei_one (x : Int) : ∀ u ∈ ei x, u.oneCell' = true := by intro u hu; simp [ei] at hu; subst hu; rfl
theorem i64s_flat : ∀ l : List Int, i64s l = l.flatMap ei
  | [] => rfl
  | x :: r => by
    have := i64s_flat r
    unfold i64s at *
    rw [List.map_cons, List.flatMap_cons, this]; rfl
theorem OI.sl {w : World} {B : Nat} {v : Value} {l : List Int} (h : OI w B v l) : Sl 1 ei 3 w B v l := by
  unfold Sl; rw [← i64s_flat]; exact h
theorem OI.of_sl {w : World} {B : Nat} {v : Value} {l : List Int} (h : Sl 1 ei 3 w B v l) : OI w B v l := by
  unfold Sl at h; rw [← i64s_flat] at h; exact h
theorem ins_list (ws : List Nat) (p N : Nat) (hp : p < N) (hl : p / 64 < ws.length) (hb : bt ws p = false) :
    (([] ++ (ci (onesTo ws N)).take (rank ws p)) ++ [(p : Int)]) ++ (ci (onesTo ws N)).drop (rank ws p) = ci (onesTo (insW ws p) N) := by
  rw [ones_ins ws p N hp hl hb]
  simp [ci, List.map_take, List.map_drop]
set_option maxRecDepth 100000 in
set_option maxHeartbeats 8000000 in
theorem rInsert_any (gm : Nat) (c : Cf) (N : Nat) (v : Value) (ws : List Nat) (k : Ky) (w : World) (hM : At w gm 66 (rcs c N v)) (hO : OI w (gm + 1) v (ci (onesTo ws N))) (hN : 1 ≤ N) (hN2 : N ≤ 65536) (hl : N ≤ ws.length * 64) (h1 : 0 ≤ c.hashes) (h2 : c.hashes ≤ 80) (hb1 : 1 ≤ c.bloom) :
    Calls Try.prog 33 #[.pointer (some ⟨gm, 0, none⟩), .agg (kc k)] w fun e w' => e = .returned (.bool (!(pN c k N).all (bt ws))) ∧ (∃ v', At w' gm 66 (rcs c N v') ∧ OI w' (gm + 1) v' (ci (onesTo (insAll ws (pN c k N)) N))) ∧ Mod (fun i => i = gm) w w' := by
  have M := Lib.hid hM
  have Y := Lib.hid hO
  have HPB := Lib.hid (show ∀ t, t < (bitsOf c k).length → (pN c k N).getD t 0 = ((bitsOf c k).getD t 0 % (N : Int)).toNat by
    intro t ht
    unfold pN
    rw [List.getD_eq_getElem?_getD, List.getD_eq_getElem?_getD, List.getElem?_map, List.getElem?_eq_getElem ht]; rfl)
  have HPL := Lib.hid (show (pN c k N).length = (bitsOf c k).length by unfold pN; rw [List.length_map])
  have HNN := Lib.hid (fun t (h : t < (bitsOf c k).length) => bitsOf_nonneg c k t h hb1)
  have HL := Lib.hid (show (bitsOf c k).length ≤ 80 by unfold bitsOf; split <;> simp [bitsUpto_length]; omega)
  obtain ⟨L, hLe⟩ : ∃ L, L = pN c k N := ⟨_, rfl⟩
  have HLT := Lib.hid (pN_lt c k N hN)
  rw [← hLe] at HPB HPL HLT
  have HLW := Lib.hid (show ∀ q ∈ L, q / 64 < ws.length by intro q hq; have := HLT.out q hq; omega)
  rw [← hLe]
  clear hLe
  clear hM hO
  have hgw := M.out.lt
  go_enter Try.func33, Try.ntmps33
  have HB := Lib.hid (Mod.refl (fun i => i = gm) w)
  
  
  go_wp2_with fail
  have HBp := HB
  have K := at_new w 40 (kc k) (w.heap.size) rfl
  replace HB := Lib.hid (HB.out.alloc (.cells (kc k) 40))
  have Mp := M
  replace M := Lib.hid (M.out.alloc (.cells (kc k) 40))
  have Yp := Y
  replace Y := Lib.hid (Y.out.below ((Below.refl _ _).alloc (Nat.le_refl _) (.cells (kc k) 40)))
  obtain ⟨gk, hg⟩ : ∃ g, g = w.heap.size := ⟨_, rfl⟩
  have hgs : gk = w.heap.size := by rw [hg]
  have b_gk : w.heap.size ≤ gk := by rw [hgs]; exact HBp.out.size
  have e_gk := Lib.hid hgs
  have S_w1 := Lib.hid (show (w.alloc (.cells (kc k) 40)).heap.size = gk + 1 by rw [World.size_alloc, hgs])
  rw [← hg] at K
  try rw [← hg]
  have ne_M_K : gm ≠ gk := by have := Mp.out.lt; omega
  have ne_K_M : gk ≠ gm := fun h => ne_M_K h.symm
  clear hg hgs HBp Mp Yp
  replace K := Lib.hid K
  generalize w.alloc (.cells (kc k) 40) = w1 at *
  have r_M := M.out.row
  have o_M := M.out.open
  have l_M := M.out.lt
  have c_M := M.out.cell
  have z_M := M.out.frozen
  have r_K := K.out.row
  have o_K := K.out.open
  have l_K := K.out.lt
  have c_K := K.out.cell
  have z_K := K.out.frozen
  refine region_sq (fun _ => False) [(0, true), (1, true), (2, true), (3, true), (4, true), (5, false), (6, true)] (by kernel_rfl) (by kernel_rfl) (fun _ _ d _ _ h => by cases d <;> exact h) ?_
  repeat (first
    | (refine sq_yes rfl (by rfl) (fun w' hM => by ((try replace hM := hM.of_drew); obtain ⟨hR1, hR2, hR3⟩ := hM.rules; clear hM; go_simp; with_reducible rfl)) ?_; simp only [Act.put, List.setIfInBounds_toArray, List.set_cons_zero, List.set_cons_succ])
    | (refine sq_no rfl (by rfl) ?_; simp only [Act.put, List.setIfInBounds_toArray, List.set_cons_zero, List.set_cons_succ]))
  clear r_M o_M l_M c_M z_M r_K o_K l_K c_K z_K
  replace M := Lib.hid M.out.drew
  replace Y := Lib.hid Y.out.drew
  replace K := Lib.hid K.out.drew
  replace HB := Lib.hid HB.out.drew
  generalize w1.drew = w2 at *
  refine sq_do_yes rfl (by rfl) (fun K_ hK_ => ?_)
  go_wp2_with fail
  refine (refBits_any c k _ h1 h2 hb1).mono ?_
  rintro e w3 ⟨vb, rfl, ho, hb⟩
  have hbs : Below w2.heap.size w2 w3 := step_below (by first | exact Below.refl _ _ | exact (Below.refl _ _).drew | exact (Below.refl _ _).alloc (Nat.le_refl _) _ | exact ((Below.refl _ _).alloc (Nat.le_refl _) _).drew | exact ((Below.refl _ _).drew).alloc (Nat.le_refl _) _ | exact ((Below.refl _ _).alloc (Nat.le_refl _) _).alloc (by simp) _ | exact (((Below.refl _ _).alloc (Nat.le_refl _) _).alloc (by simp) _).drew | exact (((Below.refl _ _).alloc (Nat.le_refl _) _).alloc (by simp) _).alloc (by simp; omega) _) hb
  try clear HBz
  have HBz := HB.out.size
  replace HB := Lib.hid (HB.out.trans (Mod.of_below hbs))
  replace M := Lib.hid (M.out.below hbs M.out.lt)
  replace Y := Lib.hid (Y.out.below hbs)
  replace K := Lib.hid (K.out.below hbs K.out.lt)
  clear hbs
  have Z := Lib.hid (ho.base (show gm + 1 ≤ _ by omega))
  clear ho
  go_wp2_with fail
  refine ⟨Mod.of_below hb, ?_⟩
  clear hb
  have r_M := M.out.row
  have o_M := M.out.open
  have l_M := M.out.lt
  have c_M := M.out.cell
  have z_M := M.out.frozen
  have r_K := K.out.row
  have o_K := K.out.open
  have l_K := K.out.lt
  have c_K := K.out.cell
  have z_K := K.out.frozen
  repeat (first
    | (refine sq_yes rfl (by rfl) (fun w' hM => by ((try replace hM := hM.of_drew); obtain ⟨hR1, hR2, hR3⟩ := hM.rules; clear hM; go_simp; with_reducible rfl)) ?_; simp only [Act.put, List.setIfInBounds_toArray, List.set_cons_zero, List.set_cons_succ])
    | (refine sq_no rfl (by rfl) ?_; simp only [Act.put, List.setIfInBounds_toArray, List.set_cons_zero, List.set_cons_succ]))
  clear r_M o_M l_M c_M z_M r_K o_K l_K c_K z_K
  refine sq_end ?_
  obtain ⟨b1, m1, q1, rfl, hm1, _, _⟩ := Z.out.parts
  have M1 := Lib.hid hm1
  have hm80 : m1 ≤ 80 := by have := HL.out; omega
  clear hm1
  go_wp2_with fail
  clear K
  
  
  
  go_loopw [6, 7, 8, 9] (fun f i _ _ wr => ∃ (t : Nat) (v : Value), t ≤ m1 ∧ i = .int .i64 t ∧ f = .bool (!(L.take t).all (bt ws)) ∧ At wr gm 66 (rcs c N v) ∧ OI wr (gm + 1) v (ci (onesTo (insAll ws (L.take t)) N)) ∧ OI wr (gm + 1) (.slice b1 m1 q1) (bitsOf c k) ∧ Mod (fun i => i = gm) w wr) (fun _ i _ _ _ => m1 - (intOf i).toNat)
  case atStart => exact ⟨0, _, Nat.zero_le _, rfl, rfl, M.out, Y.out, Z.out, HB.out⟩
  case round =>
    clear HB M Y Z
    obtain ⟨t, v, ht, rfl, rfl, hM_, hY_, hZ_, hBel_⟩ := hrel
    have M := Lib.hid hM_
    have Y := Lib.hid hY_
    have Z := Lib.hid hZ_
    have HB := Lib.hid hBel_
    clear hM_ hY_ hZ_ hBel_
    
    by_cases hlt : t < m1
    · have htb : t < (bitsOf c k).length := by rw [← M1.out]; exact hlt
      have htl : t < L.length := by rw [HPL.out]; exact htb
      have AS := Lib.hid (anew_step ws L t htl HLW.out)
      obtain ⟨wt, hwt⟩ : ∃ wt, wt = insAll ws (L.take t) := ⟨_, rfl⟩
      have hwl : N ≤ wt.length * 64 := by rw [hwt, insAll_length]; exact hl
      have hsn : insAll ws (L.take (t + 1)) = insW wt (L.getD t 0) := by
        rw [hwt, ← insAll_snoc, List.take_succ_eq_append_getElem htl, List.getD_eq_getElem?_getD, List.getElem?_eq_getElem htl]; rfl
      rw [← hwt] at Y AS
      have SN := Lib.hid hsn
      clear hwt hsn
      obtain ⟨aZ, nZ, cZ, hZ, hNZ_, iZ, hcZ_⟩ := Z.out.parts
      clear hNZ_ hcZ_
      injection hZ with z1 z2 z3
      subst z1 z2 z3
      obtain ⟨b, o, rfl, lb, hc⟩ := iZ.2 (by omega)
      have x0 := hc t hlt
      have hxn := HNN.out t htb
      have hpb := HPB.out t htb
      obtain ⟨x, hx⟩ : ∃ x, x = (bitsOf c k).getD t 0 := ⟨_, rfl⟩
      rw [← hx] at x0 hxn hpb
      have hpN := HLT.out _ (getD_mem L t htl)
      obtain ⟨p, hp⟩ : ∃ p, p = L.getD t 0 := ⟨_, rfl⟩
      rw [← hp] at hpb hpN SN AS
      have hix : x.tmod (N : Int) = (p : Int) := by
        rw [Int.tmod_eq_emod_of_nonneg hxn, hpb]
        have := Int.emod_nonneg x (show (N : Int) ≠ 0 by omega)
        omega
      have hz : ¬ N = 0 := by omega
      clear hc hx hxn hpb hp iZ
      obtain ⟨aO, m, q, rfl, hm, iO, hmq⟩ := Y.out.parts
      have HO := Lib.hid iO
      have hm6 : m ≤ 65536 := by
        rw [hm, ci_length]
        unfold onesTo
        exact Nat.le_trans (List.length_filter_le _ _) (by rw [List.length_range]; exact hN2)
      have HMO := Lib.hid hm
      clear hm iO
      
      have r_M := M.out.row
      have o_M := M.out.open
      have l_M := M.out.lt
      have c_M := M.out.cell
      have z_M := M.out.frozen
      go_wp2_with fail
      clear r_M o_M l_M c_M z_M
      have r_M := M.out.row
      have o_M := M.out.open
      have l_M := M.out.lt
      have c_M := M.out.cell
      have z_M := M.out.frozen
      refine region_sq (fun _ => False) [(0, true), (1, true), (2, true), (3, true), (4, true), (5, true), (6, true), (7, true), (8, true), (9, true)] (by kernel_rfl) (by kernel_rfl) (fun _ _ d _ _ h => by cases d <;> exact h) ?_
      repeat (first
        | (refine sq_yes rfl (by rfl) (fun w' hM => by ((try replace hM := hM.of_drew); obtain ⟨hR1, hR2, hR3⟩ := hM.rules; clear hM; go_simp; with_reducible rfl)) ?_; simp only [Act.put, List.setIfInBounds_toArray, List.set_cons_zero, List.set_cons_succ])
        | (refine sq_no rfl (by rfl) ?_; simp only [Act.put, List.setIfInBounds_toArray, List.set_cons_zero, List.set_cons_succ]))
      clear r_M o_M l_M c_M z_M
      replace M := Lib.hid M.out.drew
      replace Y := Lib.hid Y.out.drew
      replace Z := Lib.hid Z.out.drew
      replace HO := Lib.hid HO.out.drew
      replace HB := Lib.hid HB.out.drew
      generalize wr.drew = w4 at *
      refine sq_end ?_
      go_wp2_with fail
      refine (rhas_any gm c N aO m q _ (p : Int) _ M.out HO.out (by omega)).mono ?_
      rintro e w_ ⟨rfl, hw_⟩
      obtain rfl := hw_.symm
      clear hw_
      rw [inL_ones wt p N hpN]
      cases hin : bt wt p
      · skip
        
        as_aux_lemma => -- no
          have hwl2 : p / 64 < wt.length := by omega
          have hrkm : rank wt p ≤ m := by rw [HMO.out, ci_length]; exact rank_le wt p N (by omega)
          have r_M := M.out.row
          have o_M := M.out.open
          have l_M := M.out.lt
          have c_M := M.out.cell
          have z_M := M.out.frozen
          go_wp2_with fail
          clear r_M o_M l_M c_M z_M
          
          
          
          go_loopw [9] (fun j wr => ∃ r : Nat, r ≤ m ∧ rank wt p ≤ r ∧ j = .int .i64 r ∧ At wr gm 66 (rcs c N (.slice aO m q)) ∧ OI wr (gm + 1) (.slice aO m q) (ci (onesTo wt N)) ∧ OI wr (gm + 1) (.slice (some ⟨b, o, none⟩) m1 q1) (bitsOf c k) ∧ Ints wr aO m (ci (onesTo wt N)) ∧ Mod (fun i => i = gm) w wr) (fun j _ => (intOf j).toNat)
          case atStart => exact ⟨m, Nat.le_refl _, hrkm, rfl, M.out, Y.out, Z.out, HO.out, HB.out⟩
          case round =>
            clear HB M Y Z HO
            obtain ⟨r, hr, hrk, rfl, hM_, hY_, hZ_, hHO_, hBel_⟩ := hrel
            have M := Lib.hid hM_
            have Y := Lib.hid hY_
            have Z := Lib.hid hZ_
            have HO := Lib.hid hHO_
            have HB := Lib.hid hBel_
            clear hM_ hY_ hZ_ hHO_ hBel_
            have r_M := M.out.row
            have o_M := M.out.open
            have l_M := M.out.lt
            have c_M := M.out.cell
            have z_M := M.out.frozen
            go_upto_region 10 with fail
            clear r_M o_M l_M c_M z_M
            go_cut [52] (fun s52 wx => s52 = .bool (decide (rank wt p < r)) ∧ At wx gm 66 (rcs c N (.slice aO m q)) ∧ OI wx (gm + 1) (.slice aO m q) (ci (onesTo wt N)) ∧ OI wx (gm + 1) (.slice (some ⟨b, o, none⟩) m1 q1) (bitsOf c k) ∧ Ints wx aO m (ci (onesTo wt N)) ∧ Mod (fun i => i = gm) w wx)
            case first =>
              as_aux_lemma => -- ok
                rcases Nat.eq_zero_or_pos r with h0 | h0
                · subst h0
                  have hd0 : rank wt p = 0 := by omega
                  have HD := Lib.hid (show decide (rank wt p < 0) = false by simp)
                  clear hd0
                  have r_M := M.out.row
                  have o_M := M.out.open
                  have l_M := M.out.lt
                  have c_M := M.out.cell
                  have z_M := M.out.frozen
                  go_wp2_with fail
                  clear r_M o_M l_M c_M z_M
                  go_meet
                  exact ⟨by rw [HD.out], M.out, Y.out, Z.out, HO.out, HB.out⟩
                · obtain ⟨bo, oo, rfl, lbo, hcc⟩ := HO.out.2 (by omega)
                  have y0 := hcc (r - 1) (by omega)
                  rw [ci_getD] at y0
                  have hiff := ones_get wt p N (r - 1) (by omega) hin (by have := HMO.out; rw [ci_length] at this; omega)
                  obtain ⟨y, hy⟩ : ∃ y, y = (onesTo wt N).getD (r - 1) 0 := ⟨_, rfl⟩
                  rw [← hy] at y0 hiff
                  have HD := Lib.hid (show decide (p < y) = decide (rank wt p < r) by rw [decide_eq_decide, hiff]; omega)
                  obtain ⟨s, rfl⟩ : ∃ s, r = s + 1 := ⟨r - 1, by omega⟩
                  have hs : IntKind.i64.wrap (((s + 1 : Nat) : Int) - 1) = (s : Int) := by rw [IntKind.wrap_i64]; omega
                  rw [Nat.add_sub_cancel] at y0
                  have hsm : s < m := by omega
                  clear hcc hy hiff
                  by_cases hpy : p < y
                  · have hd : decide (p < y) = true := by simpa using hpy
                    rw [hd] at HD
                    have r_M := M.out.row
                    have o_M := M.out.open
                    have l_M := M.out.lt
                    have c_M := M.out.cell
                    have z_M := M.out.frozen
                    go_wp2_with fail
                    clear r_M o_M l_M c_M z_M
                    go_meet
                    exact ⟨by rw [← HD.out], M.out, Y.out, Z.out, HO.out, HB.out⟩
                  · have hd : decide (p < y) = false := by simpa using hpy
                    rw [hd] at HD
                    have r_M := M.out.row
                    have o_M := M.out.open
                    have l_M := M.out.lt
                    have c_M := M.out.cell
                    have z_M := M.out.frozen
                    go_wp2_with fail
                    clear r_M o_M l_M c_M z_M
                    go_meet
                    exact ⟨by rw [← HD.out], M.out, Y.out, Z.out, HO.out, HB.out⟩
            case rest =>
              clear HB M Y Z HO
              obtain ⟨rfl, hM_, hY_, hZ_, hHO_, hBel_⟩ := hcut
              have M := Lib.hid hM_
              have Y := Lib.hid hY_
              have Z := Lib.hid hZ_
              have HO := Lib.hid hHO_
              have HB := Lib.hid hBel_
              clear hM_ hY_ hZ_ hHO_ hBel_
              by_cases hrk2 : rank wt p < r
              · have hd : decide (rank wt p < r) = true := by simpa using hrk2
                rw [hd]
                obtain ⟨s, rfl⟩ : ∃ s, r = s + 1 := ⟨r - 1, by omega⟩
                have hs : IntKind.i64.wrap (((s + 1 : Nat) : Int) - 1) = (s : Int) := by rw [IntKind.wrap_i64]; omega
                go_wp2_with fail
                go_roundw
                case rel => exact ⟨s, by omega, by omega, rfl, M.out, Y.out, Z.out, HO.out, HB.out⟩
                case measure => simp [intOf] <;> omega
              · have hd : decide (rank wt p < r) = false := by simpa using hrk2
                rw [hd]
                have RK := Lib.hid (show r = rank wt p by omega)
                have IL := Lib.hid (ins_list wt p N hpN hwl2 hin)
                rw [← RK.out] at IL
                have YS := Lib.hid Y.out.sl
                have hmq2 : m ≤ q := hmq
                have hrq : r ≤ q := by omega
                clear hrk2 hd hrk hrkm hmq
                have hlm : Hid ((ci (onesTo wt N)).length = m) := Lib.hid HMO.out.symm
                obtain ⟨Bs, hBs_⟩ : ∃ B, B = wc.heap.size := ⟨_, rfl⟩
                have HBQ := Lib.hid hBs_
                have hBM : gm < Bs := by rw [hBs_]; exact M.out.lt
                have hBM2 : ¬ Bs ≤ gm := by omega
                clear hBs_
                rcases YS.out.cases with ⟨hv, hW0⟩ | ⟨g, c_, cur, hv, hgB, hgA, hgc, _, hgs, _⟩
                · simp only [Value.slice.injEq] at hv
                  obtain ⟨rfl, rfl, rfl⟩ := hv
                  have hW1 := congrArg List.length hW0
                  have hr0 : r = 0 := by omega
                  clear hr hrq
                  subst hr0
                  clear hW0 hW1
                  go_upto_region 12 with fail
                  have r_M := M.out.row
                  have o_M := M.out.open
                  have l_M := M.out.lt
                  have c_M := M.out.cell
                  have z_M := M.out.frozen
                  refine region_sq2_till (fun j => j == 21) (fun i => Bs ≤ i) [(0, true), (2, true), (3, true), (4, true), (5, true), (6, true), (7, true), (9, true), (12, true), (13, true), (14, true), (15, true), (16, true), (17, true)] 8 (by kernel_rfl) (by kernel_rfl) (fun _ _ d _ _ h => by cases d <;> exact h) ?_
                  repeat (first
                    | (refine sq_yes rfl (by rfl) (fun w' hM => by ((try replace hM := hM.of_drew); obtain ⟨hR1, hR2, hR3⟩ := hM.rules; clear hM; go_simp; with_reducible rfl)) ?_; simp only [Act.put, List.setIfInBounds_toArray, List.set_cons_zero, List.set_cons_succ])
                    | (refine sq_no rfl (by rfl) ?_; simp only [Act.put, List.setIfInBounds_toArray, List.set_cons_zero, List.set_cons_succ]))
                  clear r_M o_M l_M c_M z_M
                  refine sq_end ?_
                  have HP := Lib.hid (Ri.none0 Bs 1 ei wc.drew none)
                  have HT := Lib.hid (Ri.none0 Bs 1 ei wc.drew none)
                  have HBS := Lib.hid (show Below Bs wc wc.drew from (Below.refl _ _).drew)
                  obtain ⟨wD, hwD⟩ : ∃ wD, wD = wc.drew := ⟨_, rfl⟩
                  rw [← hwD] at HBS HP HT ⊢
                  have HBl := Lib.hid (show Bs ≤ wD.heap.size by rw [hwD, HBQ.out]; exact Nat.le_refl _)
                  clear hwD
                  refine anyR_two (n := 7) 1 10 (by kernel_rfl) ?_ ?_
                  · refine sq_do_yes rfl (by rfl) (fun K_ hK_ => ?_)
                    go_wp2_with fail
                    refine ⟨(Mod.refl _ _).alloc _, ?_⟩
                    try clear hK_
                    try clear K_
                    have hA_ := at_new wD 3 (#[]) wD.heap.size rfl
                    have hb_ := HBS.out.alloc HBl.out (.cells (#[]) 3)
                    have hp_ := HP.out.alloc (.cells (#[]) 3)
                    have ht_ := HT.out.alloc (.cells (#[]) 3)
                    have hsz_ : (wD.alloc (.cells (#[]) 3)).heap.size = wD.heap.size + 1 := by simp
                    obtain ⟨ge, hg_⟩ : ∃ g, g = wD.heap.size := ⟨_, rfl⟩
                    obtain ⟨wv1, hw_⟩ : ∃ w, w = wD.alloc (.cells (#[]) 3) := ⟨_, rfl⟩
                    rw [← hw_] at hA_ hb_ hp_ ht_ hsz_ ⊢
                    rw [← hg_] at hA_ hsz_ ⊢
                    have B_ge : Bs ≤ ge := by rw [hg_]; exact HBl.out
                    have hl_ : Bs ≤ wv1.heap.size := Nat.le_trans HBl.out (by rw [hw_]; simp)
                    clear hw_ hg_ HBS HP HT HBl
                    have HBS := Lib.hid hb_
                    have HP := Lib.hid hp_
                    have HT := Lib.hid ht_
                    have HBl := Lib.hid hl_
                    clear hb_ hp_ ht_ hl_
                    have HC := Lib.hid (Sl.of (L := []) ei_len hA_ B_ge rfl (by decide))
                    have gel_ : ge < wv1.heap.size := by omega
                    clear hA_ hsz_
                    refine sq_end ?_
                    refine anyR_two (n := 6) 8 10 (by kernel_rfl) ?_ ?_
                    · refine sq_do_yes rfl (by rfl) (fun K_ hK_ => ?_)
                      refine wp_sl_app (L2 := []) (n := 0) ei_len ei_one Try.underlying22 infoInt rfl (by decide) HC.out (HP.out.1) (by unfold maxLen; have := hlm.out; simp <;> omega) (by have := hlm.out; simp <;> omega) HBl.out rfl rfl rfl ?_
                      intro v1_ wv2 hs_ hm_ ho_
                      have hge_ := fun q hq => (HC.out.ge (g := q) hq).1
                      refine hK_ _ _ ⟨hm_.mono (fun q _ hq => hge_ q hq), ?_⟩
                      try clear hK_
                      try clear K_
                      simp only [Act.put, List.setIfInBounds_toArray, List.set_cons_zero, List.set_cons_succ]
                      replace HBS := Lib.hid (HBS.out.trans (mod_below hm_ HBl.out hge_))
                      replace HP := Lib.hid (HP.out.mod hm_ hge_)
                      replace HT := Lib.hid (HT.out.mod hm_ hge_)
                      replace HBl := Lib.hid (Nat.le_trans HBl.out hm_.size)
                      clear hge_ HC hm_ ho_
                      have HC := Lib.hid hs_
                      clear hs_
                      refine sq_end ?_
                      refine anyR_sq (n := 5) [(10, false)] (by kernel_rfl) (fun _ _ d _ _ h => by cases d <;> exact h) ?_
                      refine sq_do_yes rfl (by rfl) (fun K_ hK_ => ?_)
                      go_wp2_with fail
                      refine ⟨(Mod.refl _ _).alloc _, ?_⟩
                      try clear hK_
                      try clear K_
                      have hA_ := at_new wv2 3 (#[.int .i64 p]) wv2.heap.size rfl
                      have hb_ := HBS.out.alloc HBl.out (.cells (#[.int .i64 p]) 3)
                      have hp_ := HP.out.alloc (.cells (#[.int .i64 p]) 3)
                      have ht_ := HT.out.alloc (.cells (#[.int .i64 p]) 3)
                      have hc_ := HC.out.alloc (.cells (#[.int .i64 p]) 3)
                      have hsz_ : (wv2.alloc (.cells (#[.int .i64 p]) 3)).heap.size = wv2.heap.size + 1 := by simp
                      obtain ⟨gx, hg_⟩ : ∃ g, g = wv2.heap.size := ⟨_, rfl⟩
                      obtain ⟨wv3, hw_⟩ : ∃ w, w = wv2.alloc (.cells (#[.int .i64 p]) 3) := ⟨_, rfl⟩
                      rw [← hw_] at hA_ hb_ hp_ ht_ hc_ hsz_ ⊢
                      rw [← hg_] at hA_ hsz_ ⊢
                      have B_gx : Bs ≤ gx := by rw [hg_]; exact HBl.out
                      have hl_ : Bs ≤ wv3.heap.size := Nat.le_trans HBl.out (by rw [hw_]; simp)
                      clear hw_ hg_ HBS HP HT HBl
                      have HBS := Lib.hid hb_
                      have HP := Lib.hid hp_
                      have HT := Lib.hid ht_
                      have HBl := Lib.hid hl_
                      clear HC
                      have HC := Lib.hid hc_
                      clear hc_
                      clear hb_ hp_ ht_ hl_
                      have HXr := Lib.hid (Rd.one (k := 1) (enc := ei) (x := (p : Int)) hA_ rfl)
                      have gxl_ : gx < wv3.heap.size := by omega
                      clear hA_ hsz_
                      refine sq_end ?_
                      refine anyR_sq (n := 3) [(11, false), (18, false)] (by kernel_rfl) (fun _ _ d _ _ h => by cases d <;> exact h) ?_
                      refine sq_do_yes rfl (by rfl) (fun K_ hK_ => ?_)
                      refine wp_sl_app (L2 := [(p : Int)]) (n := 1) ei_len ei_one Try.underlying22 infoInt rfl (by decide) HC.out (HXr.out) (by unfold maxLen; have := hlm.out; simp <;> omega) (by have := hlm.out; simp <;> omega) HBl.out rfl rfl rfl ?_
                      intro v2_ wv4 hs_ hm_ ho_
                      have hge_ := fun q hq => (HC.out.ge (g := q) hq).1
                      refine hK_ _ _ ⟨hm_.mono (fun q _ hq => hge_ q hq), ?_⟩
                      try clear hK_
                      try clear K_
                      simp only [Act.put, List.setIfInBounds_toArray, List.set_cons_zero, List.set_cons_succ]
                      replace HBS := Lib.hid (HBS.out.trans (mod_below hm_ HBl.out hge_))
                      replace HP := Lib.hid (HP.out.mod hm_ hge_)
                      replace HT := Lib.hid (HT.out.mod hm_ hge_)
                      clear HXr
                      replace HBl := Lib.hid (Nat.le_trans HBl.out hm_.size)
                      clear hge_ HC hm_ ho_
                      have HC := Lib.hid hs_
                      clear hs_
                      refine sq_do_yes rfl (by rfl) (fun K_ hK_ => ?_)
                      refine wp_sl_app (L2 := []) (n := 0) ei_len ei_one Try.underlying22 infoInt rfl (by decide) HC.out (HT.out.1) (by unfold maxLen; have := hlm.out; simp <;> omega) (by have := hlm.out; simp <;> omega) HBl.out rfl rfl rfl ?_
                      intro v3_ wv5 hs_ hm_ ho_
                      have hge_ := fun q hq => (HC.out.ge (g := q) hq).1
                      refine hK_ _ _ ⟨hm_.mono (fun q _ hq => hge_ q hq), ?_⟩
                      try clear hK_
                      try clear K_
                      simp only [Act.put, List.setIfInBounds_toArray, List.set_cons_zero, List.set_cons_succ]
                      replace HBS := Lib.hid (HBS.out.trans (mod_below hm_ HBl.out hge_))
                      replace HP := Lib.hid (HP.out.mod hm_ hge_)
                      replace HT := Lib.hid (HT.out.mod hm_ hge_)
                      replace HBl := Lib.hid (Nat.le_trans HBl.out hm_.size)
                      clear hge_ HC hm_ ho_
                      have HC := Lib.hid hs_
                      clear hs_
                      refine sq_end ?_
                      have IL2 := IL.out
                      rw [List.eq_nil_of_length_eq_zero hlm.out] at IL2
                      simp only [List.take_nil, List.drop_nil] at IL2
                      have IL := Lib.hid IL2
                      clear IL2
                      obtain ⟨a3_, n3_, c3_, rfl⟩ : ∃ a n c, v3_ = .slice a n c := by obtain ⟨a, c, h⟩ := HC.out.form; exact ⟨a, _, c, h⟩
                      refine anyR_sq (n := 1) [(19, false), (20, false)] (by kernel_rfl) (fun _ _ d _ _ h => by cases d <;> exact h) ?_
                      refine sq_do_yes rfl (by rfl) (fun K_ hK_ => ?_)
                      go_wp2_with fail
                      refine ⟨Mod.refl _ _, ?_⟩
                      try clear hK_
                      try clear K_
                      refine sq_do_yes rfl (by rfl) (fun K_ hK_ => ?_)
                      go_wp2_with fail
                      refine ⟨Mod.refl _ _, ?_⟩
                      try clear hK_
                      try clear K_
                      refine sq_end ?_
                      refine anyR_last (fun i => i = gm) [(21, false)] (by kernel_rfl) (fun _ _ d _ _ h => by cases d <;> exact h) ?_
                      have hbe_ : Below wc.heap.size wc wv5 := by rw [← HBQ.out]; exact HBS.out
                      have MK := Lib.hid (M.out.below hbe_ M.out.lt)
                      have HBE := Lib.hid hbe_
                      have c49 := MK.out.cell 49
                      rw [rcs_49] at c49
                      have f49 := MK.out.frozen 49
                      have lK := MK.out.lt
                      clear hbe_
                      refine sq_do_yes rfl (by rfl) (fun K_ hK_ => ?_)
                      go_wp2_with fail
                      refine ⟨(Mod.refl _ _).setCell _ _ (fun _ => rfl), ?_⟩
                      try clear hK_
                      try clear K_
                      refine sq_end ?_
                      have hml : Mod (fun i => i = gm) wv5 (wv5.setCell ⟨gm, 49, none⟩ (.slice a3_ n3_ c3_)) := (Mod.refl _ _).setCell _ _ (fun _ => rfl)
                      have M2 := MK.out.set 49 (.slice a3_ n3_ c3_)
                      rw [rcs_set] at M2
                      have Y2 := (OI.of_sl (HC.out.base (show gm + 1 ≤ Bs by omega))).modg hml
                      rw [IL.out, ← SN.out] at Y2
                      have Z2 := (Z.out.below HBE.out).modg hml
                      have HB2 := (HB.out.trans (Mod.of_below HBE.out)).trans hml
                      clear M Y Z HB HO
                      have M := Lib.hid M2
                      have Y := Lib.hid Y2
                      have Z := Lib.hid Z2
                      have HB := Lib.hid HB2
                      clear M2 Y2 Z2 HB2 hml MK HBE c49 f49 lK
                      go_wp2_with fail
                      go_roundw
                      case rel => exact ⟨t + 1, _, by omega, by go_num, (by rw [← AS.out, hin]; simp), M.out, Y.out, Z.out, HB.out⟩
                      case measure => simp [intOf] <;> omega
                    · refine sq_do_yes rfl (by rfl) (fun K_ hK_ => ?_)
                      go_wp2_with fail
                      refine ⟨(Mod.refl _ _).alloc _, ?_⟩
                      try clear hK_
                      try clear K_
                      have hA_ := at_new wv1 3 (#[.int .i64 p]) wv1.heap.size rfl
                      have hb_ := HBS.out.alloc HBl.out (.cells (#[.int .i64 p]) 3)
                      have hp_ := HP.out.alloc (.cells (#[.int .i64 p]) 3)
                      have ht_ := HT.out.alloc (.cells (#[.int .i64 p]) 3)
                      have hc_ := HC.out.alloc (.cells (#[.int .i64 p]) 3)
                      have hsz_ : (wv1.alloc (.cells (#[.int .i64 p]) 3)).heap.size = wv1.heap.size + 1 := by simp
                      obtain ⟨gx, hg_⟩ : ∃ g, g = wv1.heap.size := ⟨_, rfl⟩
                      obtain ⟨wv2, hw_⟩ : ∃ w, w = wv1.alloc (.cells (#[.int .i64 p]) 3) := ⟨_, rfl⟩
                      rw [← hw_] at hA_ hb_ hp_ ht_ hc_ hsz_ ⊢
                      rw [← hg_] at hA_ hsz_ ⊢
                      have B_gx : Bs ≤ gx := by rw [hg_]; exact HBl.out
                      have hgg_ : ge ≠ gx := by have := gel_; omega
                      have hl_ : Bs ≤ wv2.heap.size := Nat.le_trans HBl.out (by rw [hw_]; simp)
                      clear hw_ hg_ HBS HP HT HBl
                      have HBS := Lib.hid hb_
                      have HP := Lib.hid hp_
                      have HT := Lib.hid ht_
                      have HBl := Lib.hid hl_
                      clear HC
                      have HC := Lib.hid hc_
                      clear hc_
                      clear hb_ hp_ ht_ hl_
                      have HXr := Lib.hid (Rd.one (k := 1) (enc := ei) (x := (p : Int)) hA_ rfl)
                      have gxl_ : gx < wv2.heap.size := by omega
                      clear hA_ hsz_
                      refine sq_end ?_
                      refine anyR_sq (n := 5) [(8, false)] (by kernel_rfl) (fun _ _ d _ _ h => by cases d <;> exact h) ?_
                      refine sq_do_yes rfl (by rfl) (fun K_ hK_ => ?_)
                      refine wp_sl_app (L2 := []) (n := 0) ei_len ei_one Try.underlying22 infoInt rfl (by decide) HC.out (HP.out.1) (by unfold maxLen; have := hlm.out; simp <;> omega) (by have := hlm.out; simp <;> omega) HBl.out rfl rfl rfl ?_
                      intro v1_ wv3 hs_ hm_ ho_
                      have hge_ := fun q hq => (HC.out.ge (g := q) hq).1
                      refine hK_ _ _ ⟨hm_.mono (fun q _ hq => hge_ q hq), ?_⟩
                      try clear hK_
                      try clear K_
                      simp only [Act.put, List.setIfInBounds_toArray, List.set_cons_zero, List.set_cons_succ]
                      replace HBS := Lib.hid (HBS.out.trans (mod_below hm_ HBl.out hge_))
                      replace HP := Lib.hid (HP.out.mod hm_ hge_)
                      replace HT := Lib.hid (HT.out.mod hm_ hge_)
                      replace HXr := Lib.hid (HXr.out.mod hm_ (fun q o_ hab_ _ hq => by simp only [Option.some.injEq, Addr.mk.injEq, Value.ownBlock] at hab_ hq; omega))
                      replace HBl := Lib.hid (Nat.le_trans HBl.out hm_.size)
                      clear hge_ HC hm_ ho_
                      have HC := Lib.hid hs_
                      clear hs_
                      refine sq_end ?_
                      refine anyR_sq (n := 3) [(11, false), (18, false)] (by kernel_rfl) (fun _ _ d _ _ h => by cases d <;> exact h) ?_
                      refine sq_do_yes rfl (by rfl) (fun K_ hK_ => ?_)
                      refine wp_sl_app (L2 := [(p : Int)]) (n := 1) ei_len ei_one Try.underlying22 infoInt rfl (by decide) HC.out (HXr.out) (by unfold maxLen; have := hlm.out; simp <;> omega) (by have := hlm.out; simp <;> omega) HBl.out rfl rfl rfl ?_
                      intro v2_ wv4 hs_ hm_ ho_
                      have hge_ := fun q hq => (HC.out.ge (g := q) hq).1
                      refine hK_ _ _ ⟨hm_.mono (fun q _ hq => hge_ q hq), ?_⟩
                      try clear hK_
                      try clear K_
                      simp only [Act.put, List.setIfInBounds_toArray, List.set_cons_zero, List.set_cons_succ]
                      replace HBS := Lib.hid (HBS.out.trans (mod_below hm_ HBl.out hge_))
                      replace HP := Lib.hid (HP.out.mod hm_ hge_)
                      replace HT := Lib.hid (HT.out.mod hm_ hge_)
                      clear HXr
                      replace HBl := Lib.hid (Nat.le_trans HBl.out hm_.size)
                      clear hge_ HC hm_ ho_
                      have HC := Lib.hid hs_
                      clear hs_
                      refine sq_do_yes rfl (by rfl) (fun K_ hK_ => ?_)
                      refine wp_sl_app (L2 := []) (n := 0) ei_len ei_one Try.underlying22 infoInt rfl (by decide) HC.out (HT.out.1) (by unfold maxLen; have := hlm.out; simp <;> omega) (by have := hlm.out; simp <;> omega) HBl.out rfl rfl rfl ?_
                      intro v3_ wv5 hs_ hm_ ho_
                      have hge_ := fun q hq => (HC.out.ge (g := q) hq).1
                      refine hK_ _ _ ⟨hm_.mono (fun q _ hq => hge_ q hq), ?_⟩
                      try clear hK_
                      try clear K_
                      simp only [Act.put, List.setIfInBounds_toArray, List.set_cons_zero, List.set_cons_succ]
                      replace HBS := Lib.hid (HBS.out.trans (mod_below hm_ HBl.out hge_))
                      replace HP := Lib.hid (HP.out.mod hm_ hge_)
                      replace HT := Lib.hid (HT.out.mod hm_ hge_)
                      replace HBl := Lib.hid (Nat.le_trans HBl.out hm_.size)
                      clear hge_ HC hm_ ho_
                      have HC := Lib.hid hs_
                      clear hs_
                      refine sq_end ?_
                      have IL2 := IL.out
                      rw [List.eq_nil_of_length_eq_zero hlm.out] at IL2
                      simp only [List.take_nil, List.drop_nil] at IL2
                      have IL := Lib.hid IL2
                      clear IL2
                      obtain ⟨a3_, n3_, c3_, rfl⟩ : ∃ a n c, v3_ = .slice a n c := by obtain ⟨a, c, h⟩ := HC.out.form; exact ⟨a, _, c, h⟩
                      refine anyR_sq (n := 1) [(19, false), (20, false)] (by kernel_rfl) (fun _ _ d _ _ h => by cases d <;> exact h) ?_
                      refine sq_do_yes rfl (by rfl) (fun K_ hK_ => ?_)
                      go_wp2_with fail
                      refine ⟨Mod.refl _ _, ?_⟩
                      try clear hK_
                      try clear K_
                      refine sq_do_yes rfl (by rfl) (fun K_ hK_ => ?_)
                      go_wp2_with fail
                      refine ⟨Mod.refl _ _, ?_⟩
                      try clear hK_
                      try clear K_
                      refine sq_end ?_
                      refine anyR_last (fun i => i = gm) [(21, false)] (by kernel_rfl) (fun _ _ d _ _ h => by cases d <;> exact h) ?_
                      have hbe_ : Below wc.heap.size wc wv5 := by rw [← HBQ.out]; exact HBS.out
                      have MK := Lib.hid (M.out.below hbe_ M.out.lt)
                      have HBE := Lib.hid hbe_
                      have c49 := MK.out.cell 49
                      rw [rcs_49] at c49
                      have f49 := MK.out.frozen 49
                      have lK := MK.out.lt
                      clear hbe_
                      refine sq_do_yes rfl (by rfl) (fun K_ hK_ => ?_)
                      go_wp2_with fail
                      refine ⟨(Mod.refl _ _).setCell _ _ (fun _ => rfl), ?_⟩
                      try clear hK_
                      try clear K_
                      refine sq_end ?_
                      have hml : Mod (fun i => i = gm) wv5 (wv5.setCell ⟨gm, 49, none⟩ (.slice a3_ n3_ c3_)) := (Mod.refl _ _).setCell _ _ (fun _ => rfl)
                      have M2 := MK.out.set 49 (.slice a3_ n3_ c3_)
                      rw [rcs_set] at M2
                      have Y2 := (OI.of_sl (HC.out.base (show gm + 1 ≤ Bs by omega))).modg hml
                      rw [IL.out, ← SN.out] at Y2
                      have Z2 := (Z.out.below HBE.out).modg hml
                      have HB2 := (HB.out.trans (Mod.of_below HBE.out)).trans hml
                      clear M Y Z HB HO
                      have M := Lib.hid M2
                      have Y := Lib.hid Y2
                      have Z := Lib.hid Z2
                      have HB := Lib.hid HB2
                      clear M2 Y2 Z2 HB2 hml MK HBE c49 f49 lK
                      go_wp2_with fail
                      go_roundw
                      case rel => exact ⟨t + 1, _, by omega, by go_num, (by rw [← AS.out, hin]; simp), M.out, Y.out, Z.out, HB.out⟩
                      case measure => simp [intOf] <;> omega
                  · refine sq_do_yes rfl (by rfl) (fun K_ hK_ => ?_)
                    go_wp2_with fail
                    refine ⟨(Mod.refl _ _).alloc _, ?_⟩
                    try clear hK_
                    try clear K_
                    have hA_ := at_new wD 3 (#[.int .i64 p]) wD.heap.size rfl
                    have hb_ := HBS.out.alloc HBl.out (.cells (#[.int .i64 p]) 3)
                    have hp_ := HP.out.alloc (.cells (#[.int .i64 p]) 3)
                    have ht_ := HT.out.alloc (.cells (#[.int .i64 p]) 3)
                    have hsz_ : (wD.alloc (.cells (#[.int .i64 p]) 3)).heap.size = wD.heap.size + 1 := by simp
                    obtain ⟨gx, hg_⟩ : ∃ g, g = wD.heap.size := ⟨_, rfl⟩
                    obtain ⟨wv1, hw_⟩ : ∃ w, w = wD.alloc (.cells (#[.int .i64 p]) 3) := ⟨_, rfl⟩
                    rw [← hw_] at hA_ hb_ hp_ ht_ hsz_ ⊢
                    rw [← hg_] at hA_ hsz_ ⊢
                    have B_gx : Bs ≤ gx := by rw [hg_]; exact HBl.out
                    have hl_ : Bs ≤ wv1.heap.size := Nat.le_trans HBl.out (by rw [hw_]; simp)
                    clear hw_ hg_ HBS HP HT HBl
                    have HBS := Lib.hid hb_
                    have HP := Lib.hid hp_
                    have HT := Lib.hid ht_
                    have HBl := Lib.hid hl_
                    clear hb_ hp_ ht_ hl_
                    have HXr := Lib.hid (Rd.one (k := 1) (enc := ei) (x := (p : Int)) hA_ rfl)
                    have gxl_ : gx < wv1.heap.size := by omega
                    clear hA_ hsz_
                    refine sq_end ?_
                    refine anyR_sq (n := 5) [(1, false), (8, false)] (by kernel_rfl) (fun _ _ d _ _ h => by cases d <;> exact h) ?_
                    refine sq_do_yes rfl (by rfl) (fun K_ hK_ => ?_)
                    go_wp2_with fail
                    refine ⟨(Mod.refl _ _).alloc _, ?_⟩
                    try clear hK_
                    try clear K_
                    have hA_ := at_new wv1 3 (#[]) wv1.heap.size rfl
                    have hb_ := HBS.out.alloc HBl.out (.cells (#[]) 3)
                    have hp_ := HP.out.alloc (.cells (#[]) 3)
                    have ht_ := HT.out.alloc (.cells (#[]) 3)
                    have hx_ := HXr.out.alloc (.cells (#[]) 3)
                    have hsz_ : (wv1.alloc (.cells (#[]) 3)).heap.size = wv1.heap.size + 1 := by simp
                    obtain ⟨ge, hg_⟩ : ∃ g, g = wv1.heap.size := ⟨_, rfl⟩
                    obtain ⟨wv2, hw_⟩ : ∃ w, w = wv1.alloc (.cells (#[]) 3) := ⟨_, rfl⟩
                    rw [← hw_] at hA_ hb_ hp_ ht_ hx_ hsz_ ⊢
                    rw [← hg_] at hA_ hsz_ ⊢
                    have B_ge : Bs ≤ ge := by rw [hg_]; exact HBl.out
                    have hgg_ : ge ≠ gx := by have := gxl_; omega
                    have hl_ : Bs ≤ wv2.heap.size := Nat.le_trans HBl.out (by rw [hw_]; simp)
                    clear hw_ hg_ HBS HP HT HBl
                    have HBS := Lib.hid hb_
                    have HP := Lib.hid hp_
                    have HT := Lib.hid ht_
                    have HBl := Lib.hid hl_
                    clear HXr
                    have HXr := Lib.hid hx_
                    clear hx_
                    clear hb_ hp_ ht_ hl_
                    have HC := Lib.hid (Sl.of (L := []) ei_len hA_ B_ge rfl (by decide))
                    have gel_ : ge < wv2.heap.size := by omega
                    clear hA_ hsz_
                    refine sq_do_yes rfl (by rfl) (fun K_ hK_ => ?_)
                    refine wp_sl_app (L2 := []) (n := 0) ei_len ei_one Try.underlying22 infoInt rfl (by decide) HC.out (HP.out.1) (by unfold maxLen; have := hlm.out; simp <;> omega) (by have := hlm.out; simp <;> omega) HBl.out rfl rfl rfl ?_
                    intro v1_ wv3 hs_ hm_ ho_
                    have hge_ := fun q hq => (HC.out.ge (g := q) hq).1
                    refine hK_ _ _ ⟨hm_.mono (fun q _ hq => hge_ q hq), ?_⟩
                    try clear hK_
                    try clear K_
                    simp only [Act.put, List.setIfInBounds_toArray, List.set_cons_zero, List.set_cons_succ]
                    replace HBS := Lib.hid (HBS.out.trans (mod_below hm_ HBl.out hge_))
                    replace HP := Lib.hid (HP.out.mod hm_ hge_)
                    replace HT := Lib.hid (HT.out.mod hm_ hge_)
                    replace HXr := Lib.hid (HXr.out.mod hm_ (fun q o_ hab_ _ hq => by simp only [Option.some.injEq, Addr.mk.injEq, Value.ownBlock] at hab_ hq; omega))
                    replace HBl := Lib.hid (Nat.le_trans HBl.out hm_.size)
                    clear hge_ HC hm_ ho_
                    have HC := Lib.hid hs_
                    clear hs_
                    refine sq_end ?_
                    refine anyR_sq (n := 3) [(11, false), (18, false)] (by kernel_rfl) (fun _ _ d _ _ h => by cases d <;> exact h) ?_
                    refine sq_do_yes rfl (by rfl) (fun K_ hK_ => ?_)
                    refine wp_sl_app (L2 := [(p : Int)]) (n := 1) ei_len ei_one Try.underlying22 infoInt rfl (by decide) HC.out (HXr.out) (by unfold maxLen; have := hlm.out; simp <;> omega) (by have := hlm.out; simp <;> omega) HBl.out rfl rfl rfl ?_
                    intro v2_ wv4 hs_ hm_ ho_
                    have hge_ := fun q hq => (HC.out.ge (g := q) hq).1
                    refine hK_ _ _ ⟨hm_.mono (fun q _ hq => hge_ q hq), ?_⟩
                    try clear hK_
                    try clear K_
                    simp only [Act.put, List.setIfInBounds_toArray, List.set_cons_zero, List.set_cons_succ]
                    replace HBS := Lib.hid (HBS.out.trans (mod_below hm_ HBl.out hge_))
                    replace HP := Lib.hid (HP.out.mod hm_ hge_)
                    replace HT := Lib.hid (HT.out.mod hm_ hge_)
                    clear HXr
                    replace HBl := Lib.hid (Nat.le_trans HBl.out hm_.size)
                    clear hge_ HC hm_ ho_
                    have HC := Lib.hid hs_
                    clear hs_
                    refine sq_do_yes rfl (by rfl) (fun K_ hK_ => ?_)
                    refine wp_sl_app (L2 := []) (n := 0) ei_len ei_one Try.underlying22 infoInt rfl (by decide) HC.out (HT.out.1) (by unfold maxLen; have := hlm.out; simp <;> omega) (by have := hlm.out; simp <;> omega) HBl.out rfl rfl rfl ?_
                    intro v3_ wv5 hs_ hm_ ho_
                    have hge_ := fun q hq => (HC.out.ge (g := q) hq).1
                    refine hK_ _ _ ⟨hm_.mono (fun q _ hq => hge_ q hq), ?_⟩
                    try clear hK_
                    try clear K_
                    simp only [Act.put, List.setIfInBounds_toArray, List.set_cons_zero, List.set_cons_succ]
                    replace HBS := Lib.hid (HBS.out.trans (mod_below hm_ HBl.out hge_))
                    replace HP := Lib.hid (HP.out.mod hm_ hge_)
                    replace HT := Lib.hid (HT.out.mod hm_ hge_)
                    replace HBl := Lib.hid (Nat.le_trans HBl.out hm_.size)
                    clear hge_ HC hm_ ho_
                    have HC := Lib.hid hs_
                    clear hs_
                    refine sq_end ?_
                    have IL2 := IL.out
                    rw [List.eq_nil_of_length_eq_zero hlm.out] at IL2
                    simp only [List.take_nil, List.drop_nil] at IL2
                    have IL := Lib.hid IL2
                    clear IL2
                    obtain ⟨a3_, n3_, c3_, rfl⟩ : ∃ a n c, v3_ = .slice a n c := by obtain ⟨a, c, h⟩ := HC.out.form; exact ⟨a, _, c, h⟩
                    refine anyR_sq (n := 1) [(19, false), (20, false)] (by kernel_rfl) (fun _ _ d _ _ h => by cases d <;> exact h) ?_
                    refine sq_do_yes rfl (by rfl) (fun K_ hK_ => ?_)
                    go_wp2_with fail
                    refine ⟨Mod.refl _ _, ?_⟩
                    try clear hK_
                    try clear K_
                    refine sq_do_yes rfl (by rfl) (fun K_ hK_ => ?_)
                    go_wp2_with fail
                    refine ⟨Mod.refl _ _, ?_⟩
                    try clear hK_
                    try clear K_
                    refine sq_end ?_
                    refine anyR_last (fun i => i = gm) [(21, false)] (by kernel_rfl) (fun _ _ d _ _ h => by cases d <;> exact h) ?_
                    have hbe_ : Below wc.heap.size wc wv5 := by rw [← HBQ.out]; exact HBS.out
                    have MK := Lib.hid (M.out.below hbe_ M.out.lt)
                    have HBE := Lib.hid hbe_
                    have c49 := MK.out.cell 49
                    rw [rcs_49] at c49
                    have f49 := MK.out.frozen 49
                    have lK := MK.out.lt
                    clear hbe_
                    refine sq_do_yes rfl (by rfl) (fun K_ hK_ => ?_)
                    go_wp2_with fail
                    refine ⟨(Mod.refl _ _).setCell _ _ (fun _ => rfl), ?_⟩
                    try clear hK_
                    try clear K_
                    refine sq_end ?_
                    have hml : Mod (fun i => i = gm) wv5 (wv5.setCell ⟨gm, 49, none⟩ (.slice a3_ n3_ c3_)) := (Mod.refl _ _).setCell _ _ (fun _ => rfl)
                    have M2 := MK.out.set 49 (.slice a3_ n3_ c3_)
                    rw [rcs_set] at M2
                    have Y2 := (OI.of_sl (HC.out.base (show gm + 1 ≤ Bs by omega))).modg hml
                    rw [IL.out, ← SN.out] at Y2
                    have Z2 := (Z.out.below HBE.out).modg hml
                    have HB2 := (HB.out.trans (Mod.of_below HBE.out)).trans hml
                    clear M Y Z HB HO
                    have M := Lib.hid M2
                    have Y := Lib.hid Y2
                    have Z := Lib.hid Z2
                    have HB := Lib.hid HB2
                    clear M2 Y2 Z2 HB2 hml MK HBE c49 f49 lK
                    go_wp2_with fail
                    go_roundw
                    case rel => exact ⟨t + 1, _, by omega, by go_num, (by rw [← AS.out, hin]; simp), M.out, Y.out, Z.out, HB.out⟩
                    case measure => simp [intOf] <;> omega
                · simp only [Value.slice.injEq] at hv
                  obtain ⟨rfl, hmm_, rfl⟩ := hv
                  clear hmm_
                  have hgl2 := hgA.lt
                  clear hgA hgs hgc
                  have hBsg : g < Bs := by rw [HBQ.out]; exact hgl2
                  have hBsg2 : ¬ Bs ≤ g := by omega
                  have HR := Lib.hid (YS.out.rd ei_len).1
                  go_upto_region 12 with fail
                  have r_M := M.out.row
                  have o_M := M.out.open
                  have l_M := M.out.lt
                  have c_M := M.out.cell
                  have z_M := M.out.frozen
                  refine region_sq2_till (fun j => j == 21) (fun i => Bs ≤ i) [(0, true), (2, true), (3, true), (4, true), (5, true), (6, true), (7, true), (9, true), (12, true), (13, true), (14, true), (15, true), (16, true), (17, true)] 8 (by kernel_rfl) (by kernel_rfl) (fun _ _ d _ _ h => by cases d <;> exact h) ?_
                  repeat (first
                    | (refine sq_yes rfl (by rfl) (fun w' hM => by ((try replace hM := hM.of_drew); obtain ⟨hR1, hR2, hR3⟩ := hM.rules; clear hM; go_simp; with_reducible rfl)) ?_; simp only [Act.put, List.setIfInBounds_toArray, List.set_cons_zero, List.set_cons_succ])
                    | (refine sq_no rfl (by rfl) ?_; simp only [Act.put, List.setIfInBounds_toArray, List.set_cons_zero, List.set_cons_succ]))
                  clear r_M o_M l_M c_M z_M
                  refine sq_end ?_
                  have HP := Lib.hid ((HR.out.drew.head r hr).riB (B := Bs) (fun b_ o_ h_ => by simp only [Option.some.injEq, Addr.mk.injEq] at h_; omega))
                  have hT_ := (HR.out.drew.tail_if (c := q) r hmq2).riB (B := Bs) (fun b_ o_ h_ => by split at h_ <;> (simp only [Option.some.injEq, Addr.mk.injEq] at h_; omega))
                  simp only [Nat.zero_add, Nat.mul_one] at hT_
                  generalize (if q = r then some _ else some _ : Option Addr) = tl at hT_ ⊢
                  have HT := Lib.hid hT_
                  clear hT_
                  have HBS := Lib.hid (show Below Bs wc wc.drew from (Below.refl _ _).drew)
                  obtain ⟨wD, hwD⟩ : ∃ wD, wD = wc.drew := ⟨_, rfl⟩
                  rw [← hwD] at HBS HP HT ⊢
                  have HBl := Lib.hid (show Bs ≤ wD.heap.size by rw [hwD, HBQ.out]; exact Nat.le_refl _)
                  clear hwD
                  refine anyR_two (n := 7) 1 10 (by kernel_rfl) ?_ ?_
                  · refine sq_do_yes rfl (by rfl) (fun K_ hK_ => ?_)
                    go_wp2_with fail
                    refine ⟨(Mod.refl _ _).alloc _, ?_⟩
                    try clear hK_
                    try clear K_
                    have hA_ := at_new wD 3 (#[]) wD.heap.size rfl
                    have hb_ := HBS.out.alloc HBl.out (.cells (#[]) 3)
                    have hp_ := HP.out.alloc (.cells (#[]) 3)
                    have ht_ := HT.out.alloc (.cells (#[]) 3)
                    have hsz_ : (wD.alloc (.cells (#[]) 3)).heap.size = wD.heap.size + 1 := by simp
                    obtain ⟨ge, hg_⟩ : ∃ g, g = wD.heap.size := ⟨_, rfl⟩
                    obtain ⟨wv1, hw_⟩ : ∃ w, w = wD.alloc (.cells (#[]) 3) := ⟨_, rfl⟩
                    rw [← hw_] at hA_ hb_ hp_ ht_ hsz_ ⊢
                    rw [← hg_] at hA_ hsz_ ⊢
                    have B_ge : Bs ≤ ge := by rw [hg_]; exact HBl.out
                    have hl_ : Bs ≤ wv1.heap.size := Nat.le_trans HBl.out (by rw [hw_]; simp)
                    clear hw_ hg_ HBS HP HT HBl
                    have HBS := Lib.hid hb_
                    have HP := Lib.hid hp_
                    have HT := Lib.hid ht_
                    have HBl := Lib.hid hl_
                    clear hb_ hp_ ht_ hl_
                    have HC := Lib.hid (Sl.of (L := []) ei_len hA_ B_ge rfl (by decide))
                    have gel_ : ge < wv1.heap.size := by omega
                    clear hA_ hsz_
                    refine sq_end ?_
                    refine anyR_two (n := 6) 8 10 (by kernel_rfl) ?_ ?_
                    · refine sq_do_yes rfl (by rfl) (fun K_ hK_ => ?_)
                      refine wp_sl_app (L2 := (ci (onesTo wt N)).take r) (n := r) ei_len ei_one Try.underlying22 infoInt rfl (by decide) HC.out (HP.out.1) (by unfold maxLen; have := hlm.out; simp <;> omega) (by have := hlm.out; simp <;> omega) HBl.out rfl rfl rfl ?_
                      intro v1_ wv2 hs_ hm_ ho_
                      have hge_ := fun q hq => (HC.out.ge (g := q) hq).1
                      refine hK_ _ _ ⟨hm_.mono (fun q _ hq => hge_ q hq), ?_⟩
                      try clear hK_
                      try clear K_
                      simp only [Act.put, List.setIfInBounds_toArray, List.set_cons_zero, List.set_cons_succ]
                      replace HBS := Lib.hid (HBS.out.trans (mod_below hm_ HBl.out hge_))
                      replace HP := Lib.hid (HP.out.mod hm_ hge_)
                      replace HT := Lib.hid (HT.out.mod hm_ hge_)
                      replace HBl := Lib.hid (Nat.le_trans HBl.out hm_.size)
                      clear hge_ HC hm_ ho_
                      have HC := Lib.hid hs_
                      clear hs_
                      refine sq_end ?_
                      refine anyR_sq (n := 5) [(10, false)] (by kernel_rfl) (fun _ _ d _ _ h => by cases d <;> exact h) ?_
                      refine sq_do_yes rfl (by rfl) (fun K_ hK_ => ?_)
                      go_wp2_with fail
                      refine ⟨(Mod.refl _ _).alloc _, ?_⟩
                      try clear hK_
                      try clear K_
                      have hA_ := at_new wv2 3 (#[.int .i64 p]) wv2.heap.size rfl
                      have hb_ := HBS.out.alloc HBl.out (.cells (#[.int .i64 p]) 3)
                      have hp_ := HP.out.alloc (.cells (#[.int .i64 p]) 3)
                      have ht_ := HT.out.alloc (.cells (#[.int .i64 p]) 3)
                      have hc_ := HC.out.alloc (.cells (#[.int .i64 p]) 3)
                      have hsz_ : (wv2.alloc (.cells (#[.int .i64 p]) 3)).heap.size = wv2.heap.size + 1 := by simp
                      obtain ⟨gx, hg_⟩ : ∃ g, g = wv2.heap.size := ⟨_, rfl⟩
                      obtain ⟨wv3, hw_⟩ : ∃ w, w = wv2.alloc (.cells (#[.int .i64 p]) 3) := ⟨_, rfl⟩
                      rw [← hw_] at hA_ hb_ hp_ ht_ hc_ hsz_ ⊢
                      rw [← hg_] at hA_ hsz_ ⊢
                      have B_gx : Bs ≤ gx := by rw [hg_]; exact HBl.out
                      have hl_ : Bs ≤ wv3.heap.size := Nat.le_trans HBl.out (by rw [hw_]; simp)
                      clear hw_ hg_ HBS HP HT HBl
                      have HBS := Lib.hid hb_
                      have HP := Lib.hid hp_
                      have HT := Lib.hid ht_
                      have HBl := Lib.hid hl_
                      clear HC
                      have HC := Lib.hid hc_
                      clear hc_
                      clear hb_ hp_ ht_ hl_
                      have HXr := Lib.hid (Rd.one (k := 1) (enc := ei) (x := (p : Int)) hA_ rfl)
                      have gxl_ : gx < wv3.heap.size := by omega
                      clear hA_ hsz_
                      refine sq_end ?_
                      refine anyR_sq (n := 3) [(11, false), (18, false)] (by kernel_rfl) (fun _ _ d _ _ h => by cases d <;> exact h) ?_
                      refine sq_do_yes rfl (by rfl) (fun K_ hK_ => ?_)
                      refine wp_sl_app (L2 := [(p : Int)]) (n := 1) ei_len ei_one Try.underlying22 infoInt rfl (by decide) HC.out (HXr.out) (by unfold maxLen; have := hlm.out; simp <;> omega) (by have := hlm.out; simp <;> omega) HBl.out rfl rfl rfl ?_
                      intro v2_ wv4 hs_ hm_ ho_
                      have hge_ := fun q hq => (HC.out.ge (g := q) hq).1
                      refine hK_ _ _ ⟨hm_.mono (fun q _ hq => hge_ q hq), ?_⟩
                      try clear hK_
                      try clear K_
                      simp only [Act.put, List.setIfInBounds_toArray, List.set_cons_zero, List.set_cons_succ]
                      replace HBS := Lib.hid (HBS.out.trans (mod_below hm_ HBl.out hge_))
                      replace HP := Lib.hid (HP.out.mod hm_ hge_)
                      replace HT := Lib.hid (HT.out.mod hm_ hge_)
                      clear HXr
                      replace HBl := Lib.hid (Nat.le_trans HBl.out hm_.size)
                      clear hge_ HC hm_ ho_
                      have HC := Lib.hid hs_
                      clear hs_
                      refine sq_do_yes rfl (by rfl) (fun K_ hK_ => ?_)
                      refine wp_sl_app (L2 := (ci (onesTo wt N)).drop r) (n := m - r) ei_len ei_one Try.underlying22 infoInt rfl (by decide) HC.out (HT.out.1) (by unfold maxLen; have := hlm.out; simp <;> omega) (by have := hlm.out; simp <;> omega) HBl.out rfl rfl rfl ?_
                      intro v3_ wv5 hs_ hm_ ho_
                      have hge_ := fun q hq => (HC.out.ge (g := q) hq).1
                      refine hK_ _ _ ⟨hm_.mono (fun q _ hq => hge_ q hq), ?_⟩
                      try clear hK_
                      try clear K_
                      simp only [Act.put, List.setIfInBounds_toArray, List.set_cons_zero, List.set_cons_succ]
                      replace HBS := Lib.hid (HBS.out.trans (mod_below hm_ HBl.out hge_))
                      replace HP := Lib.hid (HP.out.mod hm_ hge_)
                      replace HT := Lib.hid (HT.out.mod hm_ hge_)
                      replace HBl := Lib.hid (Nat.le_trans HBl.out hm_.size)
                      clear hge_ HC hm_ ho_
                      have HC := Lib.hid hs_
                      clear hs_
                      refine sq_end ?_
                      obtain ⟨a3_, n3_, c3_, rfl⟩ : ∃ a n c, v3_ = .slice a n c := by obtain ⟨a, c, h⟩ := HC.out.form; exact ⟨a, _, c, h⟩
                      refine anyR_sq (n := 1) [(19, false), (20, false)] (by kernel_rfl) (fun _ _ d _ _ h => by cases d <;> exact h) ?_
                      refine sq_do_yes rfl (by rfl) (fun K_ hK_ => ?_)
                      go_wp2_with fail
                      refine ⟨Mod.refl _ _, ?_⟩
                      try clear hK_
                      try clear K_
                      refine sq_do_yes rfl (by rfl) (fun K_ hK_ => ?_)
                      go_wp2_with fail
                      refine ⟨Mod.refl _ _, ?_⟩
                      try clear hK_
                      try clear K_
                      refine sq_end ?_
                      refine anyR_last (fun i => i = gm) [(21, false)] (by kernel_rfl) (fun _ _ d _ _ h => by cases d <;> exact h) ?_
                      have hbe_ : Below wc.heap.size wc wv5 := by rw [← HBQ.out]; exact HBS.out
                      have MK := Lib.hid (M.out.below hbe_ M.out.lt)
                      have HBE := Lib.hid hbe_
                      have c49 := MK.out.cell 49
                      rw [rcs_49] at c49
                      have f49 := MK.out.frozen 49
                      have lK := MK.out.lt
                      clear hbe_
                      refine sq_do_yes rfl (by rfl) (fun K_ hK_ => ?_)
                      go_wp2_with fail
                      refine ⟨(Mod.refl _ _).setCell _ _ (fun _ => rfl), ?_⟩
                      try clear hK_
                      try clear K_
                      refine sq_end ?_
                      have hml : Mod (fun i => i = gm) wv5 (wv5.setCell ⟨gm, 49, none⟩ (.slice a3_ n3_ c3_)) := (Mod.refl _ _).setCell _ _ (fun _ => rfl)
                      have M2 := MK.out.set 49 (.slice a3_ n3_ c3_)
                      rw [rcs_set] at M2
                      have Y2 := (OI.of_sl (HC.out.base (show gm + 1 ≤ Bs by omega))).modg hml
                      rw [IL.out, ← SN.out] at Y2
                      have Z2 := (Z.out.below HBE.out).modg hml
                      have HB2 := (HB.out.trans (Mod.of_below HBE.out)).trans hml
                      clear M Y Z HB HO
                      have M := Lib.hid M2
                      have Y := Lib.hid Y2
                      have Z := Lib.hid Z2
                      have HB := Lib.hid HB2
                      clear M2 Y2 Z2 HB2 hml MK HBE c49 f49 lK
                      go_wp2_with fail
                      go_roundw
                      case rel => exact ⟨t + 1, _, by omega, by go_num, (by rw [← AS.out, hin]; simp), M.out, Y.out, Z.out, HB.out⟩
                      case measure => simp [intOf] <;> omega
                    · refine sq_do_yes rfl (by rfl) (fun K_ hK_ => ?_)
                      go_wp2_with fail
                      refine ⟨(Mod.refl _ _).alloc _, ?_⟩
                      try clear hK_
                      try clear K_
                      have hA_ := at_new wv1 3 (#[.int .i64 p]) wv1.heap.size rfl
                      have hb_ := HBS.out.alloc HBl.out (.cells (#[.int .i64 p]) 3)
                      have hp_ := HP.out.alloc (.cells (#[.int .i64 p]) 3)
                      have ht_ := HT.out.alloc (.cells (#[.int .i64 p]) 3)
                      have hc_ := HC.out.alloc (.cells (#[.int .i64 p]) 3)
                      have hsz_ : (wv1.alloc (.cells (#[.int .i64 p]) 3)).heap.size = wv1.heap.size + 1 := by simp
                      obtain ⟨gx, hg_⟩ : ∃ g, g = wv1.heap.size := ⟨_, rfl⟩
                      obtain ⟨wv2, hw_⟩ : ∃ w, w = wv1.alloc (.cells (#[.int .i64 p]) 3) := ⟨_, rfl⟩
                      rw [← hw_] at hA_ hb_ hp_ ht_ hc_ hsz_ ⊢
                      rw [← hg_] at hA_ hsz_ ⊢
                      have B_gx : Bs ≤ gx := by rw [hg_]; exact HBl.out
                      have hgg_ : ge ≠ gx := by have := gel_; omega
                      have hl_ : Bs ≤ wv2.heap.size := Nat.le_trans HBl.out (by rw [hw_]; simp)
                      clear hw_ hg_ HBS HP HT HBl
                      have HBS := Lib.hid hb_
                      have HP := Lib.hid hp_
                      have HT := Lib.hid ht_
                      have HBl := Lib.hid hl_
                      clear HC
                      have HC := Lib.hid hc_
                      clear hc_
                      clear hb_ hp_ ht_ hl_
                      have HXr := Lib.hid (Rd.one (k := 1) (enc := ei) (x := (p : Int)) hA_ rfl)
                      have gxl_ : gx < wv2.heap.size := by omega
                      clear hA_ hsz_
                      refine sq_end ?_
                      refine anyR_sq (n := 5) [(8, false)] (by kernel_rfl) (fun _ _ d _ _ h => by cases d <;> exact h) ?_
                      refine sq_do_yes rfl (by rfl) (fun K_ hK_ => ?_)
                      refine wp_sl_app (L2 := (ci (onesTo wt N)).take r) (n := r) ei_len ei_one Try.underlying22 infoInt rfl (by decide) HC.out (HP.out.1) (by unfold maxLen; have := hlm.out; simp <;> omega) (by have := hlm.out; simp <;> omega) HBl.out rfl rfl rfl ?_
                      intro v1_ wv3 hs_ hm_ ho_
                      have hge_ := fun q hq => (HC.out.ge (g := q) hq).1
                      refine hK_ _ _ ⟨hm_.mono (fun q _ hq => hge_ q hq), ?_⟩
                      try clear hK_
                      try clear K_
                      simp only [Act.put, List.setIfInBounds_toArray, List.set_cons_zero, List.set_cons_succ]
                      replace HBS := Lib.hid (HBS.out.trans (mod_below hm_ HBl.out hge_))
                      replace HP := Lib.hid (HP.out.mod hm_ hge_)
                      replace HT := Lib.hid (HT.out.mod hm_ hge_)
                      replace HXr := Lib.hid (HXr.out.mod hm_ (fun q o_ hab_ _ hq => by simp only [Option.some.injEq, Addr.mk.injEq, Value.ownBlock] at hab_ hq; omega))
                      replace HBl := Lib.hid (Nat.le_trans HBl.out hm_.size)
                      clear hge_ HC hm_ ho_
                      have HC := Lib.hid hs_
                      clear hs_
                      refine sq_end ?_
                      refine anyR_sq (n := 3) [(11, false), (18, false)] (by kernel_rfl) (fun _ _ d _ _ h => by cases d <;> exact h) ?_
                      refine sq_do_yes rfl (by rfl) (fun K_ hK_ => ?_)
                      refine wp_sl_app (L2 := [(p : Int)]) (n := 1) ei_len ei_one Try.underlying22 infoInt rfl (by decide) HC.out (HXr.out) (by unfold maxLen; have := hlm.out; simp <;> omega) (by have := hlm.out; simp <;> omega) HBl.out rfl rfl rfl ?_
                      intro v2_ wv4 hs_ hm_ ho_
                      have hge_ := fun q hq => (HC.out.ge (g := q) hq).1
                      refine hK_ _ _ ⟨hm_.mono (fun q _ hq => hge_ q hq), ?_⟩
                      try clear hK_
                      try clear K_
                      simp only [Act.put, List.setIfInBounds_toArray, List.set_cons_zero, List.set_cons_succ]
                      replace HBS := Lib.hid (HBS.out.trans (mod_below hm_ HBl.out hge_))
                      replace HP := Lib.hid (HP.out.mod hm_ hge_)
                      replace HT := Lib.hid (HT.out.mod hm_ hge_)
                      clear HXr
                      replace HBl := Lib.hid (Nat.le_trans HBl.out hm_.size)
                      clear hge_ HC hm_ ho_
                      have HC := Lib.hid hs_
                      clear hs_
                      refine sq_do_yes rfl (by rfl) (fun K_ hK_ => ?_)
                      refine wp_sl_app (L2 := (ci (onesTo wt N)).drop r) (n := m - r) ei_len ei_one Try.underlying22 infoInt rfl (by decide) HC.out (HT.out.1) (by unfold maxLen; have := hlm.out; simp <;> omega) (by have := hlm.out; simp <;> omega) HBl.out rfl rfl rfl ?_
                      intro v3_ wv5 hs_ hm_ ho_
                      have hge_ := fun q hq => (HC.out.ge (g := q) hq).1
                      refine hK_ _ _ ⟨hm_.mono (fun q _ hq => hge_ q hq), ?_⟩
                      try clear hK_
                      try clear K_
                      simp only [Act.put, List.setIfInBounds_toArray, List.set_cons_zero, List.set_cons_succ]
                      replace HBS := Lib.hid (HBS.out.trans (mod_below hm_ HBl.out hge_))
                      replace HP := Lib.hid (HP.out.mod hm_ hge_)
                      replace HT := Lib.hid (HT.out.mod hm_ hge_)
                      replace HBl := Lib.hid (Nat.le_trans HBl.out hm_.size)
                      clear hge_ HC hm_ ho_
                      have HC := Lib.hid hs_
                      clear hs_
                      refine sq_end ?_
                      obtain ⟨a3_, n3_, c3_, rfl⟩ : ∃ a n c, v3_ = .slice a n c := by obtain ⟨a, c, h⟩ := HC.out.form; exact ⟨a, _, c, h⟩
                      refine anyR_sq (n := 1) [(19, false), (20, false)] (by kernel_rfl) (fun _ _ d _ _ h => by cases d <;> exact h) ?_
                      refine sq_do_yes rfl (by rfl) (fun K_ hK_ => ?_)
                      go_wp2_with fail
                      refine ⟨Mod.refl _ _, ?_⟩
                      try clear hK_
                      try clear K_
                      refine sq_do_yes rfl (by rfl) (fun K_ hK_ => ?_)
                      go_wp2_with fail
                      refine ⟨Mod.refl _ _, ?_⟩
                      try clear hK_
                      try clear K_
                      refine sq_end ?_
                      refine anyR_last (fun i => i = gm) [(21, false)] (by kernel_rfl) (fun _ _ d _ _ h => by cases d <;> exact h) ?_
                      have hbe_ : Below wc.heap.size wc wv5 := by rw [← HBQ.out]; exact HBS.out
                      have MK := Lib.hid (M.out.below hbe_ M.out.lt)
                      have HBE := Lib.hid hbe_
                      have c49 := MK.out.cell 49
                      rw [rcs_49] at c49
                      have f49 := MK.out.frozen 49
                      have lK := MK.out.lt
                      clear hbe_
                      refine sq_do_yes rfl (by rfl) (fun K_ hK_ => ?_)
                      go_wp2_with fail
                      refine ⟨(Mod.refl _ _).setCell _ _ (fun _ => rfl), ?_⟩
                      try clear hK_
                      try clear K_
                      refine sq_end ?_
                      have hml : Mod (fun i => i = gm) wv5 (wv5.setCell ⟨gm, 49, none⟩ (.slice a3_ n3_ c3_)) := (Mod.refl _ _).setCell _ _ (fun _ => rfl)
                      have M2 := MK.out.set 49 (.slice a3_ n3_ c3_)
                      rw [rcs_set] at M2
                      have Y2 := (OI.of_sl (HC.out.base (show gm + 1 ≤ Bs by omega))).modg hml
                      rw [IL.out, ← SN.out] at Y2
                      have Z2 := (Z.out.below HBE.out).modg hml
                      have HB2 := (HB.out.trans (Mod.of_below HBE.out)).trans hml
                      clear M Y Z HB HO
                      have M := Lib.hid M2
                      have Y := Lib.hid Y2
                      have Z := Lib.hid Z2
                      have HB := Lib.hid HB2
                      clear M2 Y2 Z2 HB2 hml MK HBE c49 f49 lK
                      go_wp2_with fail
                      go_roundw
                      case rel => exact ⟨t + 1, _, by omega, by go_num, (by rw [← AS.out, hin]; simp), M.out, Y.out, Z.out, HB.out⟩
                      case measure => simp [intOf] <;> omega
                  · refine sq_do_yes rfl (by rfl) (fun K_ hK_ => ?_)
                    go_wp2_with fail
                    refine ⟨(Mod.refl _ _).alloc _, ?_⟩
                    try clear hK_
                    try clear K_
                    have hA_ := at_new wD 3 (#[.int .i64 p]) wD.heap.size rfl
                    have hb_ := HBS.out.alloc HBl.out (.cells (#[.int .i64 p]) 3)
                    have hp_ := HP.out.alloc (.cells (#[.int .i64 p]) 3)
                    have ht_ := HT.out.alloc (.cells (#[.int .i64 p]) 3)
                    have hsz_ : (wD.alloc (.cells (#[.int .i64 p]) 3)).heap.size = wD.heap.size + 1 := by simp
                    obtain ⟨gx, hg_⟩ : ∃ g, g = wD.heap.size := ⟨_, rfl⟩
                    obtain ⟨wv1, hw_⟩ : ∃ w, w = wD.alloc (.cells (#[.int .i64 p]) 3) := ⟨_, rfl⟩
                    rw [← hw_] at hA_ hb_ hp_ ht_ hsz_ ⊢
                    rw [← hg_] at hA_ hsz_ ⊢
                    have B_gx : Bs ≤ gx := by rw [hg_]; exact HBl.out
                    have hl_ : Bs ≤ wv1.heap.size := Nat.le_trans HBl.out (by rw [hw_]; simp)
                    clear hw_ hg_ HBS HP HT HBl
                    have HBS := Lib.hid hb_
                    have HP := Lib.hid hp_
                    have HT := Lib.hid ht_
                    have HBl := Lib.hid hl_
                    clear hb_ hp_ ht_ hl_
                    have HXr := Lib.hid (Rd.one (k := 1) (enc := ei) (x := (p : Int)) hA_ rfl)
                    have gxl_ : gx < wv1.heap.size := by omega
                    clear hA_ hsz_
                    refine sq_end ?_
                    refine anyR_sq (n := 5) [(1, false), (8, false)] (by kernel_rfl) (fun _ _ d _ _ h => by cases d <;> exact h) ?_
                    refine sq_do_yes rfl (by rfl) (fun K_ hK_ => ?_)
                    go_wp2_with fail
                    refine ⟨(Mod.refl _ _).alloc _, ?_⟩
                    try clear hK_
                    try clear K_
                    have hA_ := at_new wv1 3 (#[]) wv1.heap.size rfl
                    have hb_ := HBS.out.alloc HBl.out (.cells (#[]) 3)
                    have hp_ := HP.out.alloc (.cells (#[]) 3)
                    have ht_ := HT.out.alloc (.cells (#[]) 3)
                    have hx_ := HXr.out.alloc (.cells (#[]) 3)
                    have hsz_ : (wv1.alloc (.cells (#[]) 3)).heap.size = wv1.heap.size + 1 := by simp
                    obtain ⟨ge, hg_⟩ : ∃ g, g = wv1.heap.size := ⟨_, rfl⟩
                    obtain ⟨wv2, hw_⟩ : ∃ w, w = wv1.alloc (.cells (#[]) 3) := ⟨_, rfl⟩
                    rw [← hw_] at hA_ hb_ hp_ ht_ hx_ hsz_ ⊢
                    rw [← hg_] at hA_ hsz_ ⊢
                    have B_ge : Bs ≤ ge := by rw [hg_]; exact HBl.out
                    have hgg_ : ge ≠ gx := by have := gxl_; omega
                    have hl_ : Bs ≤ wv2.heap.size := Nat.le_trans HBl.out (by rw [hw_]; simp)
                    clear hw_ hg_ HBS HP HT HBl
                    have HBS := Lib.hid hb_
                    have HP := Lib.hid hp_
                    have HT := Lib.hid ht_
                    have HBl := Lib.hid hl_
                    clear HXr
                    have HXr := Lib.hid hx_
                    clear hx_
                    clear hb_ hp_ ht_ hl_
                    have HC := Lib.hid (Sl.of (L := []) ei_len hA_ B_ge rfl (by decide))
                    have gel_ : ge < wv2.heap.size := by omega
                    clear hA_ hsz_
                    refine sq_do_yes rfl (by rfl) (fun K_ hK_ => ?_)
                    refine wp_sl_app (L2 := (ci (onesTo wt N)).take r) (n := r) ei_len ei_one Try.underlying22 infoInt rfl (by decide) HC.out (HP.out.1) (by unfold maxLen; have := hlm.out; simp <;> omega) (by have := hlm.out; simp <;> omega) HBl.out rfl rfl rfl ?_
                    intro v1_ wv3 hs_ hm_ ho_
                    have hge_ := fun q hq => (HC.out.ge (g := q) hq).1
                    refine hK_ _ _ ⟨hm_.mono (fun q _ hq => hge_ q hq), ?_⟩
                    try clear hK_
                    try clear K_
                    simp only [Act.put, List.setIfInBounds_toArray, List.set_cons_zero, List.set_cons_succ]
                    replace HBS := Lib.hid (HBS.out.trans (mod_below hm_ HBl.out hge_))
                    replace HP := Lib.hid (HP.out.mod hm_ hge_)
                    replace HT := Lib.hid (HT.out.mod hm_ hge_)
                    replace HXr := Lib.hid (HXr.out.mod hm_ (fun q o_ hab_ _ hq => by simp only [Option.some.injEq, Addr.mk.injEq, Value.ownBlock] at hab_ hq; omega))
                    replace HBl := Lib.hid (Nat.le_trans HBl.out hm_.size)
                    clear hge_ HC hm_ ho_
                    have HC := Lib.hid hs_
                    clear hs_
                    refine sq_end ?_
                    refine anyR_sq (n := 3) [(11, false), (18, false)] (by kernel_rfl) (fun _ _ d _ _ h => by cases d <;> exact h) ?_
                    refine sq_do_yes rfl (by rfl) (fun K_ hK_ => ?_)
                    refine wp_sl_app (L2 := [(p : Int)]) (n := 1) ei_len ei_one Try.underlying22 infoInt rfl (by decide) HC.out (HXr.out) (by unfold maxLen; have := hlm.out; simp <;> omega) (by have := hlm.out; simp <;> omega) HBl.out rfl rfl rfl ?_
                    intro v2_ wv4 hs_ hm_ ho_
                    have hge_ := fun q hq => (HC.out.ge (g := q) hq).1
                    refine hK_ _ _ ⟨hm_.mono (fun q _ hq => hge_ q hq), ?_⟩
                    try clear hK_
                    try clear K_
                    simp only [Act.put, List.setIfInBounds_toArray, List.set_cons_zero, List.set_cons_succ]
                    replace HBS := Lib.hid (HBS.out.trans (mod_below hm_ HBl.out hge_))
                    replace HP := Lib.hid (HP.out.mod hm_ hge_)
                    replace HT := Lib.hid (HT.out.mod hm_ hge_)
                    clear HXr
                    replace HBl := Lib.hid (Nat.le_trans HBl.out hm_.size)
                    clear hge_ HC hm_ ho_
                    have HC := Lib.hid hs_
                    clear hs_
                    refine sq_do_yes rfl (by rfl) (fun K_ hK_ => ?_)
                    refine wp_sl_app (L2 := (ci (onesTo wt N)).drop r) (n := m - r) ei_len ei_one Try.underlying22 infoInt rfl (by decide) HC.out (HT.out.1) (by unfold maxLen; have := hlm.out; simp <;> omega) (by have := hlm.out; simp <;> omega) HBl.out rfl rfl rfl ?_
                    intro v3_ wv5 hs_ hm_ ho_
                    have hge_ := fun q hq => (HC.out.ge (g := q) hq).1
                    refine hK_ _ _ ⟨hm_.mono (fun q _ hq => hge_ q hq), ?_⟩
                    try clear hK_
                    try clear K_
                    simp only [Act.put, List.setIfInBounds_toArray, List.set_cons_zero, List.set_cons_succ]
                    replace HBS := Lib.hid (HBS.out.trans (mod_below hm_ HBl.out hge_))
                    replace HP := Lib.hid (HP.out.mod hm_ hge_)
                    replace HT := Lib.hid (HT.out.mod hm_ hge_)
                    replace HBl := Lib.hid (Nat.le_trans HBl.out hm_.size)
                    clear hge_ HC hm_ ho_
                    have HC := Lib.hid hs_
                    clear hs_
                    refine sq_end ?_
                    obtain ⟨a3_, n3_, c3_, rfl⟩ : ∃ a n c, v3_ = .slice a n c := by obtain ⟨a, c, h⟩ := HC.out.form; exact ⟨a, _, c, h⟩
                    refine anyR_sq (n := 1) [(19, false), (20, false)] (by kernel_rfl) (fun _ _ d _ _ h => by cases d <;> exact h) ?_
                    refine sq_do_yes rfl (by rfl) (fun K_ hK_ => ?_)
                    go_wp2_with fail
                    refine ⟨Mod.refl _ _, ?_⟩
                    try clear hK_
                    try clear K_
                    refine sq_do_yes rfl (by rfl) (fun K_ hK_ => ?_)
                    go_wp2_with fail
                    refine ⟨Mod.refl _ _, ?_⟩
                    try clear hK_
                    try clear K_
                    refine sq_end ?_
                    refine anyR_last (fun i => i = gm) [(21, false)] (by kernel_rfl) (fun _ _ d _ _ h => by cases d <;> exact h) ?_
                    have hbe_ : Below wc.heap.size wc wv5 := by rw [← HBQ.out]; exact HBS.out
                    have MK := Lib.hid (M.out.below hbe_ M.out.lt)
                    have HBE := Lib.hid hbe_
                    have c49 := MK.out.cell 49
                    rw [rcs_49] at c49
                    have f49 := MK.out.frozen 49
                    have lK := MK.out.lt
                    clear hbe_
                    refine sq_do_yes rfl (by rfl) (fun K_ hK_ => ?_)
                    go_wp2_with fail
                    refine ⟨(Mod.refl _ _).setCell _ _ (fun _ => rfl), ?_⟩
                    try clear hK_
                    try clear K_
                    refine sq_end ?_
                    have hml : Mod (fun i => i = gm) wv5 (wv5.setCell ⟨gm, 49, none⟩ (.slice a3_ n3_ c3_)) := (Mod.refl _ _).setCell _ _ (fun _ => rfl)
                    have M2 := MK.out.set 49 (.slice a3_ n3_ c3_)
                    rw [rcs_set] at M2
                    have Y2 := (OI.of_sl (HC.out.base (show gm + 1 ≤ Bs by omega))).modg hml
                    rw [IL.out, ← SN.out] at Y2
                    have Z2 := (Z.out.below HBE.out).modg hml
                    have HB2 := (HB.out.trans (Mod.of_below HBE.out)).trans hml
                    clear M Y Z HB HO
                    have M := Lib.hid M2
                    have Y := Lib.hid Y2
                    have Z := Lib.hid Z2
                    have HB := Lib.hid HB2
                    clear M2 Y2 Z2 HB2 hml MK HBE c49 f49 lK
                    go_wp2_with fail
                    go_roundw
                    case rel => exact ⟨t + 1, _, by omega, by go_num, (by rw [← AS.out, hin]; simp), M.out, Y.out, Z.out, HB.out⟩
                    case measure => simp [intOf] <;> omega
      · skip
        
        clear HO
        as_aux_lemma => -- ok
          have Y_ := Y.out
          rw [← ones_same wt p N (by omega) hin, ← SN.out] at Y_
          clear Y
          have Y := Lib.hid Y_
          clear Y_
          go_wp2_with fail
          go_roundw
          case rel => exact ⟨t + 1, _, by omega, by go_num, by rw [← AS.out, hin]; simp, M.out, Y.out, Z.out, HB.out⟩
          case measure => simp [intOf] <;> omega
    · obtain rfl : m1 = t := by omega
      
      have HT := Lib.hid (show L.take m1 = L from List.take_of_length_le (by rw [HPL.out, ← M1.out]; exact Nat.le_refl _))
      rw [HT.out] at Y
      go_wp2_with fail
      go_ret
      exact ⟨by rw [HT.out]; rfl, ⟨v, M.out, Y.out⟩, HB.out⟩
end Go.Proofs.Ytjjadakjkkmjgaa
